/- An argument that is a slice of acts (structs of three numbers), opened. -/
import Derived.Test.YtpohinbhmlcfkaaOctOctetReadsW
import Derived.Test.YtpohinbhmlcfkaaFin
import Derived.Deep.Fields
import Derived.Deep.Strs
namespace Go.Proofs.Ytpohinbhmlcfkaa.octetReads
open Go.ChangeShapes Go.WideShapes Go.ChangeAt Go.RowKit Go.Deep

theorem spot_none {w : World} {a : Addr} {v : Value} (h : w.cell? a = some v) : a.spot = none := by
  unfold World.cell? at h
  split at h
  · split at h
    · cases h
    · rename_i hs
      cases hsp : a.spot with
      | none => rfl
      | some x => rw [hsp] at hs; simp at hs
  · cases h
theorem int_of {H : Type} {enc : TypeId × Value → H} {P : Program} {w : World} {base : Nat} {spare : Nat → Bool} {held : Bool} {t : TypeId} {k : IntKind} {fuel : Nat} {v : Value} {y : DataW H × List MemPlace}
    (ht : P.underlying t = some (.int k)) (h : DataW.trod enc P w base spare held fuel t [v] = some y) : ∃ n, v = .int k n ∧ (Lit.int k n).wf = true := by
  obtain ⟨n, hc, _, hw⟩ := DataW.trod_int ht h
  simp only [List.cons.injEq, and_true] at hc
  exact ⟨n, hc, hw⟩

theorem open_acts {H : Type} {enc : TypeId × Value → H} {P : Program} {w : World} {base : Nat} {held : Bool} {t e : TypeId} {f0 f1 f2 : Field} {A : Option Addr} {n c : Nat} {d : DataW H} {p : List MemPlace}
    (ht : P.underlying t = some (.slice e)) (he : P.underlying e = some (.struct #[f0, f1, f2])) (hone : oneCellFields P #[f0, f1, f2] = true) (hC : P.cellsOf e = 3)
    (h0 : P.underlying f0.type = some (.int .i64)) (h1 : P.underlying f1.type = some (.int .u64)) (h2 : P.underlying f2.type = some (.int .i64)) (h : DataW.Trod enc P w base (fun _ => true) held t (.slice A n c) d p) :
    ∃ b : List (Int × Int × Int), b.length = n ∧ b.length ≤ c ∧ (∀ x ∈ b, (Lit.int .u64 x.2.1).wf = true ∧ (Lit.int .i64 x.2.2).wf = true) ∧ RdA w w.heap.size A b := by
  obtain ⟨fuel, hf⟩ := h
  rcases open_slice ht hf with ⟨hcs, _⟩ | ⟨a, len, cap, m, fl, D, Pl, hcs, _, hl, hm, hmm, _, hi⟩
  · simp [Value.cells] at hcs
    obtain ⟨rfl, rfl, rfl⟩ := hcs
    exact ⟨[], rfl, Nat.le_refl _, by simp, fun j hj => absurd hj (by simp)⟩
  · simp [Value.cells] at hcs
    obtain ⟨rfl, rfl, rfl⟩ := hcs
    simp only [if_true] at hmm
    subst hmm
    have key : ∀ i, ∃ x : Int × Int × Int, i < n → (∃ gb ob, gb < w.heap.size ∧ a.add (i * 3) = ⟨gb, ob, none⟩ ∧ w.cell? ⟨gb, ob, none⟩ = some (.int .i64 x.1) ∧ w.cell? ⟨gb, ob + 1, none⟩ = some (.int .u64 x.2.1) ∧
        w.cell? ⟨gb, ob + 2, none⟩ = some (.int .i64 x.2.2)) ∧ (Lit.int .u64 x.2.1).wf = true ∧ (Lit.int .i64 x.2.2).wf = true := fun i => by
      by_cases hin : i < n
      · obtain ⟨cs', hcc, htr⟩ := hi i (by omega)
        rw [hC] at hcc
        obtain ⟨_, hlen, hat⟩ := World.cells?_some hcc
        obtain ⟨y0, y1, y2, fl2, _, _, t0, t1, t2⟩ := trod_struct3 he htr
        obtain ⟨o0, k0⟩ := hone_of hone 0 f0 rfl
        obtain ⟨o1, k1⟩ := hone_of hone 1 f1 rfl
        obtain ⟨o2, k2⟩ := hone_of hone 2 f2 rfl
        rw [o0, k0] at t0
        rw [o1, k1] at t1
        rw [o2, k2] at t2
        match cs', hlen with
        | [v0, v1, v2], _ =>
          obtain ⟨n0, rfl, w0⟩ := int_of h0 (by simpa using t0)
          obtain ⟨n1, rfl, w1⟩ := int_of h1 (by simpa using t1)
          obtain ⟨n2, rfl, w2⟩ := int_of h2 (by simpa using t2)
          have c0 := hat 0 (by omega)
          have c1 := hat 1 (by omega)
          have c2 := hat 2 (by omega)
          simp only [List.getElem?_cons_zero, List.getElem?_cons_succ] at c0 c1 c2
          have hz : (a.add (i * 3)).add 0 = a.add (i * 3) := by simp [Addr.add]
          rw [hz] at c0
          have hsp := spot_none c0
          have hlt := World.block_lt_of_cell? w _ c0
          obtain ⟨gb, ob, sp⟩ : ∃ gb ob, a.add (i * 3) = ⟨gb, ob, none⟩ := ⟨(a.add (i * 3)).block, (a.add (i * 3)).off, by rw [← hsp]⟩
          rw [sp] at c0 c1 c2 hlt
          rw [add_mk] at c1 c2
          exact ⟨(n0, n1, n2), fun _ => ⟨⟨gb, ob, hlt, sp, c0, c1, c2⟩, w1, w2⟩⟩
      · exact ⟨(0, 0, 0), fun h => absurd h hin⟩
    refine ⟨(List.range n).map fun i => Classical.choose (key i), by simp, by simpa using hl, fun x hx => ?_, fun j hj => ?_⟩
    · obtain ⟨i, hir, rfl⟩ := List.mem_map.1 hx
      exact (Classical.choose_spec (key i) (List.mem_range.1 hir)).2
    · have hjn : j < n := by simpa using hj
      have hg : ((List.range n).map fun i => Classical.choose (key i)).getD j (0, 0, 0) = Classical.choose (key j) := by simp [List.getD, hjn]
      rw [hg]
      obtain ⟨⟨gb, ob, q0, q1, q2, q3, q4⟩, _⟩ := Classical.choose_spec (key j) hjn
      exact ⟨a, gb, ob, rfl, q0, q1, q2, q3, q4⟩
end Go.Proofs.Ytpohinbhmlcfkaa.octetReads
