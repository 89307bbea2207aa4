/- An argument that is a picture (a struct of three numbers and a slice of slices of numbers), opened. -/
import Derived.Test.YtbbflddhbamjbaaFinT
import Derived.Test.YtbbflddhbamjbaaPicSame
import Derived.Deep.Fields
import Derived.Deep.Strs
set_option linter.unusedSimpArgs false
set_option linter.unusedVariables false
namespace Go.Proofs.Ytbbflddhbamjbaa
open Go.ChangeShapes Go.WideShapes Go.ChangeAt Go.RowKit Go.Deep

theorem open_rd63 {H : Type} {enc : TypeId × Value → H} {P : Program} {w : World} {base : Nat} {held : Bool} {t e : TypeId} {k : IntKind} {A : Option Addr} {n c : Nat} {d : DataW H} {p : List MemPlace}
    (ht : P.underlying t = some (.slice e)) (he : P.underlying e = some (.int k)) (hc : P.cellsOf e = 1) (h : DataW.Trod enc P w base (fun _ => true) held t (.slice A n c) d p) :
    ∃ l : List Int, l.length = n ∧ l.length ≤ c ∧ c ≤ 9223372036854775807 ∧ (∀ x ∈ l, (Lit.int k x).wf = true) ∧ RdI w w.heap.size k A l := by
  obtain ⟨l, h1, h2, h3, h4⟩ := open_rd ht he hc h
  refine ⟨l, h1, h2, ?_, h3, h4⟩
  obtain ⟨fuel, hf⟩ := h
  rcases open_ints ht he hc hf with ⟨hcs, _⟩ | ⟨x, l', c', zs, hcs, _, _, hm, _⟩
  · simp [Value.cells] at hcs
    omega
  · simp [Value.cells] at hcs
    unfold maxLen at hm
    omega

theorem open_rdll63 {H : Type} {enc : TypeId × Value → H} {P : Program} {w : World} {base : Nat} {held : Bool} {t e e2 : TypeId} {k : IntKind} {A : Option Addr} {n c : Nat} {d : DataW H} {p : List MemPlace}
    (ht : P.underlying t = some (.slice e)) (he : P.underlying e = some (.slice e2)) (he2 : P.underlying e2 = some (.int k)) (hc : P.cellsOf e = 1) (hc2 : P.cellsOf e2 = 1) (h : DataW.Trod enc P w base (fun _ => true) held t (.slice A n c) d p) :
    ∃ ls : List (List Int), ls.length = n ∧ ls.length ≤ c ∧ c ≤ 9223372036854775807 ∧ (∀ l ∈ ls, l.length ≤ 9223372036854775807 ∧ ∀ x ∈ l, (Lit.int k x).wf = true) ∧ RdLL w w.heap.size k A ls := by
  obtain ⟨fuel, hf⟩ := h
  rcases open_slice1 ht hc hf with ⟨hcs, _⟩ | ⟨a, len, cap, m, fl, V, D, Pl, hcs, _, hl, hm, hmm, _, hi⟩
  · simp [Value.cells] at hcs
    obtain ⟨rfl, rfl, rfl⟩ := hcs
    exact ⟨[], rfl, Nat.le_refl _, by omega, by simp, fun j hj => absurd hj (by simp)⟩
  · simp [Value.cells] at hcs
    obtain ⟨rfl, rfl, rfl⟩ := hcs
    simp only [if_true] at hmm
    subst hmm
    have key : ∀ i, ∃ l : List Int, i < n → ∃ Ai ci, V i = .slice Ai l.length ci ∧ l.length ≤ ci ∧ l.length ≤ 9223372036854775807 ∧ (∀ x ∈ l, (Lit.int k x).wf = true) ∧ RdI w w.heap.size k Ai l := fun i => by
      by_cases hin : i < n
      · obtain ⟨_, htr⟩ := hi i (by omega)
        obtain ⟨Ai, ni, ci, hv⟩ := Go.Joins.slice_form he htr
        simp only [List.cons.injEq, and_true] at hv
        have htr' : DataW.Trod enc P w base (fun _ => true) held e (.slice Ai ni ci) (D i) (Pl i) := ⟨fl, by rw [hv] at htr; exact htr⟩
        obtain ⟨l, h1, h2, h5, h3, h4⟩ := open_rd63 he he2 hc2 htr'
        exact ⟨l, fun _ => ⟨Ai, ci, by rw [hv, h1], h2, by omega, h3, h4⟩⟩
      · exact ⟨[], fun h => absurd h hin⟩
    refine ⟨(List.range n).map fun i => Classical.choose (key i), by simp, by simpa using hl, by unfold maxLen at hm; omega, fun l hl' => ?_, fun j hj => ?_⟩
    · obtain ⟨i, hir, rfl⟩ := List.mem_map.1 hl'
      obtain ⟨_, _, _, _, h5, h3, _⟩ := Classical.choose_spec (key i) (List.mem_range.1 hir)
      exact ⟨h5, h3⟩
    · have hjn : j < n := by simpa using hj
      have hg : ((List.range n).map fun i => Classical.choose (key i)).getD j [] = Classical.choose (key j) := by simp [List.getD, hjn]
      rw [hg]
      obtain ⟨Aj, cj, hv, h2, _, _, h4⟩ := Classical.choose_spec (key j) hjn
      have hcell := (hi j (by omega)).1
      rw [hv] at hcell
      refine ⟨a, Aj, cj, rfl, ?_, hcell, h2, h4⟩
      have := World.block_lt_of_cell? w _ hcell
      rwa [add_block] at this

theorem open_pic {H : Type} {enc : TypeId × Value → H} {P : Program} {w : World} {base b0 : Nat} {r : Reach} {held : Bool} {t e1 e2 : TypeId} {f0 f1 f2 f3 : Field} {v : Value} {d : DataW H} {p : List MemPlace}
    (ht : P.underlying t = some (.struct #[f0, f1, f2, f3])) (hone : oneCellFields P #[f0, f1, f2, f3] = true) (hC : P.cellsOf t = 4)
    (h0 : P.underlying f0.type = some (.int .i64)) (h1 : P.underlying f1.type = some (.int .i64)) (h2 : P.underlying f2.type = some (.int .i64)) (h3 : P.underlying f3.type = some (.slice e1))
    (h4 : P.underlying e1 = some (.slice e2)) (h5 : P.underlying e2 = some (.int .i64)) (hc : P.cellsOf e1 = 1) (hc2 : P.cellsOf e2 = 1)
    (hv : Value.okWide P w r b0 t v) (h : DataW.Trod enc P w base (fun _ => true) held t v d p) :
    ∃ (q : Pc) (A : Option Addr) (c : Nat), v = .agg #[.int .i64 q.w, .int .i64 q.h, .int .i64 q.d, .slice A q.p.length c] ∧ (∀ x, x = q.w ∨ x = q.h ∨ x = q.d → (Lit.int .i64 x).wf = true) ∧ q.p.length ≤ c ∧ Len63 q.p ∧
      (∀ l ∈ q.p, ∀ x ∈ l, (Lit.int .i64 x).wf = true) ∧ RdLL w w.heap.size .i64 A q.p := by
  obtain ⟨v0, v1, v2, v3, y0, y1, y2, y3, n, rfl, rfl, rfl, t0, t1, t2, t3⟩ := Go.Joins.open_agg4 ht hone hC hv h
  obtain ⟨n0, hc0, _, w0⟩ := DataW.trod_int h0 t0
  obtain ⟨n1, hc1, _, w1⟩ := DataW.trod_int h1 t1
  obtain ⟨n2, hc2', _, w2⟩ := DataW.trod_int h2 t2
  obtain ⟨A, m, c, hv3⟩ := Go.Joins.slice_form h3 t3
  simp only [List.cons.injEq, and_true] at hc0 hc1 hc2' hv3
  subst hc0 hc1 hc2' hv3
  obtain ⟨ls, e, l1, l2, l3, l4⟩ := open_rdll63 (enc := enc) (d := y3.1) (p := y3.2) h3 h4 h5 hc hc2 ⟨n, t3⟩
  subst e
  refine ⟨⟨n0, n1, n2, ls⟩, A, c, rfl, fun x hx => ?_, l1, ⟨by simp only; omega, fun l hl => (l3 l hl).1⟩, fun l hl => (l3 l hl).2, l4⟩
  rcases hx with rfl | rfl | rfl <;> assumption
end Go.Proofs.Ytbbflddhbamjbaa
