/- An argument that is a slice of acts, opened (an act holds a packet: a field of many cells). -/
import Derived.Test.YtnflhogjonlnmaaFinS
import Derived.Test.YtnflhogjonlnmaaAc
set_option linter.unusedSimpArgs false
set_option linter.unusedVariables false
namespace Go.Proofs.Ytnflhogjonlnmaa
open Go.ChangeShapes Go.WideShapes Go.ChangeAt Go.RowKit Go.Deep

section
variable {H : Type} {enc : TypeId × Value → H} {P : Program} {w : World} {base : Nat} {held : Bool}
/-- The fields of a struct, of whatever numbers of cells. -/
theorem fieldsN {t : TypeId} {fs : Array Field} {fuel : Nat} {cs : List Value} {x : DataW H × List MemPlace} (hs : P.underlying t = some (.struct fs))
    (h : DataW.trod enc P w base (fun _ => true) held fuel t cs = some x) (hw : ∀ n ∈ x.1.weights P t, n ≤ reachBytes) :
    cs.length = P.cellsOf t ∧ ∃ n : Nat, ∀ (i : Nat) (f : Field), fs[i]? = some f → ∃ y, DataW.trod enc P w base (fun _ => true) held n f.type ((cs.drop f.offset).take (P.cellsOf f.type)) = some y ∧ ∀ m ∈ y.1.weights P f.type, m ≤ reachBytes := by
  obtain ⟨xs, n, _, hx, hl, hlen, hg⟩ := DataW.trod_struct hs h
  refine ⟨hl, n, fun i f hi => ?_⟩
  have h1 := hg i f hi
  have hf : i < fs.size := (Array.getElem?_eq_some_iff.1 hi).1
  have hxi : i < xs.length := by rw [hlen]; exact hf
  refine ⟨xs[i], h1.trans (List.getElem?_eq_getElem hxi), fun m hm => hw m ?_⟩
  have e : x.1 = .agg (xs.map (·.1)) := by rw [hx]
  rw [e, DataW.weights, hs]
  refine DataW.weights_mem_each (j := i) (t := f.type) (d := xs[i].1) ?_ ?_ m hm
  · rw [List.getElem?_map, Array.getElem?_toList, hi]; rfl
  · rw [List.getElem?_map, List.getElem?_eq_getElem hxi]; rfl
theorem acS {t e : TypeId} {g0 g1 g2 f0 f1 f2 f3 f4 f5 : Field} {fuel : Nat} {cs : List Value} {x : DataW H × List MemPlace}
    (hs : P.underlying t = some (.struct #[g0, g1, g2])) (hCt : P.cellsOf t = 8) (o0 : g0.offset = 0 ∧ P.cellsOf g0.type = 1) (o1 : g1.offset = 1 ∧ P.cellsOf g1.type = 6) (o2 : g2.offset = 7 ∧ P.cellsOf g2.type = 1)
    (hg0 : P.underlying g0.type = some (.int .i64)) (hg2 : P.underlying g2.type = some (.int .i64))
    (ht : P.underlying g1.type = some (.struct #[f0, f1, f2, f3, f4, f5])) (hone : oneCellFields P #[f0, f1, f2, f3, f4, f5] = true)
    (h0 : P.underlying f0.type = some (.int .i64)) (h1 : P.underlying f1.type = some (.int .i64)) (h2 : P.underlying f2.type = some (.int .i64)) (h3 : P.underlying f3.type = some .bool) (h4 : P.underlying f4.type = some .bool)
    (h5 : P.underlying f5.type = some (.slice e)) (h6 : P.underlying e = some (.int .u8)) (hc : P.cellsOf e = 1) (hby : P.bytesOf e = 1)
    (h : DataW.trod enc P w base (fun _ => true) held fuel t cs = some x) (hw : ∀ n ∈ x.1.weights P t, n ≤ reachBytes) : ∃ a : Ac, AcR w (· < w.heap.size) cs a := by
  obtain ⟨hl, n, hf⟩ := fieldsN hs h hw
  rw [hCt] at hl
  match cs, hl with
  | [c0, c1, c2, c3, c4, c5, c6, c7], _ =>
    obtain ⟨y0, t0, _⟩ := hf 0 g0 rfl
    obtain ⟨y1, t1, w1⟩ := hf 1 g1 rfl
    obtain ⟨y2, t2, _⟩ := hf 2 g2 rfl
    rw [o0.1, o0.2] at t0
    rw [o1.1, o1.2] at t1
    rw [o2.1, o2.2] at t2
    obtain ⟨a0, rfl, b0⟩ := open_i64 hg0 (show DataW.trod enc P w base (fun _ => true) held n g0.type [c0] = some y0 from t0)
    obtain ⟨a2, rfl, b2⟩ := open_i64 hg2 (show DataW.trod enc P w base (fun _ => true) held n g2.type [c7] = some y2 from t2)
    obtain ⟨q, A, c, hq, hqc, hqr, hqw⟩ := pkS ht hone o1.2 h0 h1 h2 h3 h4 h5 h6 hc hby (show DataW.trod enc P w base (fun _ => true) held n g1.type [c1, c2, c3, c4, c5, c6] = some y1 from t1) w1
    simp only [Pk.cells, List.cons.injEq, and_true] at hq
    obtain ⟨rfl, rfl, rfl, rfl, rfl, rfl⟩ := hq
    exact ⟨⟨a0, q, a2⟩, A, c, rfl, hqc, hqr, hqw, b0, b2⟩
end
end Go.Proofs.Ytnflhogjonlnmaa
