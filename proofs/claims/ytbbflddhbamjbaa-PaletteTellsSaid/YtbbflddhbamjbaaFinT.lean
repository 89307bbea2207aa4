/- The bound of a slice's capacity, as the form of claims gives it. -/
import Derived.Test.YtbbflddhbamjbaaLib
import Derived.ProofKit
import Derived.OpenShut
import Derived.ShutString
import Derived.ChangeOld
import Derived.Below
import Derived.Deep.Slices
import Derived.Lib.SmallJoins
set_option linter.unusedSimpArgs false
set_option linter.unusedVariables false
namespace Go.Proofs.Ytbbflddhbamjbaa
open Go.ChangeShapes Go.WideShapes Go.ChangeAt Go.RowKit

theorem open_rd {H : Type} {enc : TypeId × Value → H} {P : Program} {w : World} {base : Nat} {held : Bool} {t e : TypeId} {k : IntKind} {A : Option Addr} {n c : Nat} {d : DataW H} {p : List MemPlace}
    (ht : P.underlying t = some (.slice e)) (he : P.underlying e = some (.int k)) (hc : P.cellsOf e = 1) (h : DataW.Trod enc P w base (fun _ => true) held t (.slice A n c) d p) :
    ∃ l : List Int, l.length = n ∧ l.length ≤ c ∧ (∀ x ∈ l, (Lit.int k x).wf = true) ∧ RdI w w.heap.size k A l := by
  obtain ⟨fuel, hf⟩ := h
  rcases open_ints ht he hc hf with ⟨hcs, _⟩ | ⟨x, l, c', zs, hcs, _, hl, hm, hz, _, hcell, hwz⟩
  · simp [Value.cells] at hcs
    obtain ⟨rfl, rfl, rfl⟩ := hcs
    exact ⟨[], rfl, Nat.le_refl _, by simp, RdI.nil_⟩
  · simp [Value.cells] at hcs
    obtain ⟨rfl, rfl, rfl⟩ := hcs
    simp only [if_true] at hz
    have hlen : (zs.take n).length = n := by rw [List.length_take, hz]; omega
    refine ⟨zs.take n, hlen, by omega, fun y hy => hwz y (List.mem_of_mem_take hy), by rw [ic_length]; simp, fun hn => ?_⟩
    have hcell' : ∀ i, i < n → w.cell? (x.add i) = some (.int k (zs.getD i 0)) := fun i hi => hcell i (by omega)
    refine ⟨x, rfl, ?_, fun j u hu => ?_⟩
    · have h0 := hcell' 0 (by omega)
      have := World.block_lt_of_cell? w _ h0
      rwa [add_block] at this
    · have hj : j < (zs.take n).length := by
        rcases Nat.lt_or_ge j (zs.take n).length with h | h
        · exact h
        · rw [List.getElem?_eq_none (by rw [ic_length]; exact h)] at hu; cases hu
      rw [ic_get hj] at hu
      rw [hcell' j (by omega), ← hu]
      congr 2
      rw [List.getD_eq_getElem?_getD, List.getD_eq_getElem?_getD, List.getElem?_take, if_pos (by omega)]

theorem open_rdll {H : Type} {enc : TypeId × Value → H} {P : Program} {w : World} {base : Nat} {held : Bool} {t e e2 : TypeId} {k : IntKind} {A : Option Addr} {n c : Nat} {d : DataW H} {p : List MemPlace}
    (ht : P.underlying t = some (.slice e)) (he : P.underlying e = some (.slice e2)) (he2 : P.underlying e2 = some (.int k)) (hc : P.cellsOf e = 1) (hc2 : P.cellsOf e2 = 1) (h : DataW.Trod enc P w base (fun _ => true) held t (.slice A n c) d p) :
    ∃ ls : List (List Int), ls.length = n ∧ ls.length ≤ c ∧ (∀ l ∈ ls, ∀ x ∈ l, (Lit.int k x).wf = true) ∧ RdLL w w.heap.size k A ls := by
  obtain ⟨fuel, hf⟩ := h
  rcases Go.Deep.open_slice1 ht hc hf with ⟨hcs, _⟩ | ⟨a, len, cap, m, fl, V, D, Pl, hcs, _, hl, hm, hmm, _, hi⟩
  · simp [Value.cells] at hcs
    obtain ⟨rfl, rfl, rfl⟩ := hcs
    exact ⟨[], rfl, Nat.le_refl _, by simp, fun j hj => absurd hj (by simp)⟩
  · simp [Value.cells] at hcs
    obtain ⟨rfl, rfl, rfl⟩ := hcs
    simp only [if_true] at hmm
    subst hmm
    have key : ∀ i, ∃ l : List Int, i < n → ∃ Ai ci, V i = .slice Ai l.length ci ∧ l.length ≤ ci ∧ (∀ x ∈ l, (Lit.int k x).wf = true) ∧ RdI w w.heap.size k Ai l := fun i => by
      by_cases hin : i < n
      · obtain ⟨_, htr⟩ := hi i (by omega)
        obtain ⟨Ai, ni, ci, hv⟩ := Go.Joins.slice_form he htr
        simp only [List.cons.injEq, and_true] at hv
        have htr' : DataW.Trod enc P w base (fun _ => true) held e (.slice Ai ni ci) (D i) (Pl i) := ⟨fl, by rw [hv] at htr; exact htr⟩
        obtain ⟨l, h1, h2, h3, h4⟩ := open_rd he he2 hc2 htr'
        exact ⟨l, fun _ => ⟨Ai, ci, by rw [hv, h1], h2, h3, h4⟩⟩
      · exact ⟨[], fun h => absurd h hin⟩
    refine ⟨(List.range n).map fun i => Classical.choose (key i), by simp, by simpa using hl, fun l hl' => ?_, fun j hj => ?_⟩
    · obtain ⟨i, hir, rfl⟩ := List.mem_map.1 hl'
      obtain ⟨_, _, _, _, h3, _⟩ := Classical.choose_spec (key i) (List.mem_range.1 hir)
      exact h3
    · have hjn : j < n := by simpa using hj
      have hg : ((List.range n).map fun i => Classical.choose (key i)).getD j [] = Classical.choose (key j) := by simp [List.getD, hjn]
      rw [hg]
      obtain ⟨Aj, cj, hv, h2, _, h4⟩ := Classical.choose_spec (key j) hjn
      have hcell := (hi j (by omega)).1
      rw [hv] at hcell
      refine ⟨a, Aj, cj, rfl, ?_, hcell, h2, h4⟩
      have := World.block_lt_of_cell? w _ hcell
      rwa [add_block] at this
end Go.Proofs.Ytbbflddhbamjbaa

namespace Go.Proofs.Ytbbflddhbamjbaa
open Go.ChangeShapes Go.WideShapes Go.ChangeAt Go.RowKit
theorem cap_le {P : Program} {w : World} {r : Reach} {base : Nat} {t e : TypeId} {A : Option Addr} {n c : Nat} (ht : P.underlying t = some (.slice e)) (h : Value.okWide P w r base t (.slice A n c)) : c ≤ 9223372036854775807 := by
  simp only [Value.okWide, ht, Cell.okWide, Cell.ok] at h
  rcases A with _ | a
  · split at h <;> simp_all
  · have h2 := h.2.1
    have : IntKind.i64.max = 9223372036854775807 := by decide
    omega
end Go.Proofs.Ytbbflddhbamjbaa
