/- An argument that is a palette (two numbers and a slice of slices of numbers), opened. -/
import Derived.Test.YtbbflddhbamjbaaFinP
import Derived.Test.YtbbflddhbamjbaaPlL
set_option linter.unusedSimpArgs false
set_option linter.unusedVariables false
namespace Go.Proofs.Ytbbflddhbamjbaa
open Go.ChangeShapes Go.WideShapes Go.ChangeAt Go.RowKit Go.Deep
theorem open_pal {H : Type} {enc : TypeId × Value → H} {P : Program} {w : World} {base b0 : Nat} {r : Reach} {held : Bool} {t e1 e2 : TypeId} {f0 f1 f2 : Field} {v : Value} {d : DataW H} {p : List MemPlace}
    (ht : P.underlying t = some (.struct #[f0, f1, f2])) (hone : oneCellFields P #[f0, f1, f2] = true) (hC : P.cellsOf t = 3)
    (h0 : P.underlying f0.type = some (.int .i64)) (h1 : P.underlying f1.type = some (.int .i64)) (h2 : P.underlying f2.type = some (.slice e1))
    (h3 : P.underlying e1 = some (.slice e2)) (h4 : P.underlying e2 = some (.int .i64)) (hc : P.cellsOf e1 = 1) (hc2 : P.cellsOf e2 = 1)
    (hv : Value.okWide P w r b0 t v) (h : DataW.Trod enc P w base (fun _ => true) held t v d p) :
    ∃ (q : Pal) (A : Option Addr) (c : Nat), v = palV q A c ∧ q.c.length ≤ c ∧ Len63 q.c ∧ RdLL w w.heap.size .i64 A q.c := by
  obtain ⟨v0, v1, v2, y0, y1, y2, n, rfl, rfl, rfl, t0, t1, t2⟩ := Go.Joins.open_agg3 ht hone hC hv h
  obtain ⟨n0, hc0, _, w0⟩ := DataW.trod_int h0 t0
  obtain ⟨n1, hc1, _, w1⟩ := DataW.trod_int h1 t1
  obtain ⟨A, m, c, hv3⟩ := Go.Joins.slice_form h2 t2
  simp only [List.cons.injEq, and_true] at hc0 hc1 hv3
  subst hc0 hc1 hv3
  obtain ⟨ls, e, l1, l2, l3, l4⟩ := open_rdll63 (enc := enc) (d := y2.1) (p := y2.2) h2 h3 h4 hc hc2 ⟨n, t2⟩
  subst e
  exact ⟨⟨n0, n1, ls⟩, A, c, rfl, l1, ⟨by simp only; omega, fun l hl => (l3 l hl).1⟩, l4⟩
end Go.Proofs.Ytbbflddhbamjbaa
