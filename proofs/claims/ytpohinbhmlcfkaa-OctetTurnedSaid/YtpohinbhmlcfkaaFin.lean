/- What the last step of each law's proof uses: an argument that is a slice of integers, opened as RdI. -/
import Derived.Test.YtpohinbhmlcfkaaLib
import Derived.ProofKit
import Derived.OpenShut
import Derived.ShutString
import Derived.ChangeOld
import Derived.Below
namespace Go.Proofs.Ytpohinbhmlcfkaa
open Go.ChangeShapes Go.WideShapes Go.ChangeAt Go.RowKit

theorem open_rd {H : Type} {enc : TypeId × Value → H} {P : Program} {w : World} {base : Nat} {held : Bool} {t e : TypeId} {k : IntKind} {A : Option Addr} {n c : Nat} {d : DataW H} {p : List MemPlace}
    (ht : P.underlying t = some (.slice e)) (he : P.underlying e = some (.int k)) (hc : P.cellsOf e = 1) (h : DataW.Trod enc P w base (fun _ => true) held t (.slice A n c) d p) :
    ∃ l : List Int, l.length = n ∧ l.length ≤ c ∧ (∀ x ∈ l, (Lit.int k x).wf = true) ∧ RdI w w.heap.size k A l := by
  obtain ⟨fuel, hf⟩ := h
  rcases open_ints ht he hc hf with ⟨hcs, _⟩ | ⟨x, l, c', zs, hcs, _, hl, hm, hz, _, hcell, hwz⟩
  · simp [Value.cells] at hcs
    obtain ⟨rfl, rfl, rfl⟩ := hcs
    exact ⟨[], rfl, Nat.le_refl _, by simp, RdI.nil_⟩
  · simp [Value.cells] at hcs
    obtain ⟨rfl, rfl, rfl⟩ := hcs
    simp only [if_true] at hz
    have hlen : (zs.take n).length = n := by rw [List.length_take, hz]; omega
    refine ⟨zs.take n, hlen, by omega, fun y hy => hwz y (List.mem_of_mem_take hy), by rw [ic_length]; simp, fun hn => ?_⟩
    have hcell' : ∀ i, i < n → w.cell? (x.add i) = some (.int k (zs.getD i 0)) := fun i hi => hcell i (by omega)
    refine ⟨x, rfl, ?_, fun j u hu => ?_⟩
    · have h0 := hcell' 0 (by omega)
      have := World.block_lt_of_cell? w _ h0
      rwa [add_block] at this
    · have hj : j < (zs.take n).length := by
        rcases Nat.lt_or_ge j (zs.take n).length with h | h
        · exact h
        · rw [List.getElem?_eq_none (by rw [ic_length]; exact h)] at hu; cases hu
      rw [ic_get hj] at hu
      rw [hcell' j (by omega), ← hu]
      congr 2
      rw [List.getD_eq_getElem?_getD, List.getD_eq_getElem?_getD, List.getElem?_take, if_pos (by omega)]
end Go.Proofs.Ytpohinbhmlcfkaa
