/- An argument that is a packet, opened; structs of one-cell fields of whatever number. -/
import Derived.Test.YtdnkdjaokmibjaaFinT
import Derived.Test.YtdnkdjaokmibjaaPk
import Derived.Deep.Fields
import Derived.Deep.Strs
set_option linter.unusedSimpArgs false
set_option linter.unusedVariables false
namespace Go.Proofs.Ytdnkdjaokmibjaa
open Go.ChangeShapes Go.WideShapes Go.ChangeAt Go.RowKit Go.Deep

section
variable {H : Type} {enc : TypeId × Value → H} {P : Program} {w : World} {base : Nat} {held : Bool}
/-- The fields of a struct, each with a reading of its own. -/
theorem fields_of {t : TypeId} {fs : Array Field} {fuel : Nat} {cs : List Value} {x : DataW H × List MemPlace} (hs : P.underlying t = some (.struct fs)) (hone : oneCellFields P fs = true) (hC : P.cellsOf t = fs.size)
    (h : DataW.trod enc P w base (fun _ => true) held fuel t cs = some x) :
    cs.length = fs.size ∧ ∃ n : Nat, ∀ (i : Nat) (f : Field) (u : Value), fs[i]? = some f → cs[i]? = some u → ∃ y, DataW.trod enc P w base (fun _ => true) held n f.type [u] = some y := by
  obtain ⟨xs, n, _, _, hl, hlen, hg⟩ := DataW.trod_struct hs h
  refine ⟨hl.trans hC, n, fun i f u hi hu => ?_⟩
  obtain ⟨ho, hk⟩ := hone_of hone i f hi
  have h1 := hg i f hi
  rw [ho, hk] at h1
  have hil : i < cs.length := (List.getElem?_eq_some_iff.1 hu).1
  have h2 : (cs.drop i).take 1 = [u] := by
    rw [List.drop_eq_getElem_cons hil, (List.getElem?_eq_some_iff.1 hu).2]; rfl
  rw [h2] at h1
  have hf : i < fs.size := (Array.getElem?_eq_some_iff.1 hi).1
  have hx : i < xs.length := by rw [hlen]; exact hf
  exact ⟨xs[i], h1.trans (List.getElem?_eq_getElem hx)⟩
theorem open_bytes {t e : TypeId} {u : Value} {fuel : Nat} {y : DataW H × List MemPlace} (ht : P.underlying t = some (.slice e)) (he : P.underlying e = some (.int .u8)) (hc : P.cellsOf e = 1) (h : DataW.trod enc P w base (fun _ => true) held fuel t [u] = some y) :
    ∃ (A : Option Addr) (c : Nat) (l : List Int), u = .slice A l.length c ∧ l.length ≤ c ∧ c ≤ 9223372036854775807 ∧ byteB l ∧ RdI w w.heap.size .u8 A l := by
  obtain ⟨A, m, c, hv⟩ := Go.Joins.slice_form ht h
  simp only [List.cons.injEq, and_true] at hv
  subst hv
  obtain ⟨l, h1, h2, h3, h4⟩ := open_rd (enc := enc) (d := y.1) (p := y.2) ht he hc ⟨fuel, h⟩
  subst h1
  refine ⟨A, c, l, rfl, h2, ?_, fun x hx => by simpa [Lit.wf, IntKind.min, IntKind.max, IntKind.signed, IntKind.bits] using h3 x hx, h4⟩
  rcases open_ints ht he hc h with ⟨hcs, _⟩ | ⟨x, l', c', zs, hcs, _, _, hm, _⟩
  · simp at hcs
    omega
  · simp at hcs
    unfold maxLen at hm
    omega
theorem open_i64 {t : TypeId} {u : Value} {fuel : Nat} {y : DataW H × List MemPlace} (ht : P.underlying t = some (.int .i64)) (h : DataW.trod enc P w base (fun _ => true) held fuel t [u] = some y) : ∃ n, u = .int .i64 n ∧ i64B n := by
  obtain ⟨n, hu, _, hw⟩ := DataW.trod_int ht h
  simp only [List.cons.injEq, and_true] at hu
  exact ⟨n, hu, by unfold i64B; simpa [Lit.wf, IntKind.min, IntKind.max, IntKind.signed, IntKind.bits] using hw⟩
theorem open_bl {t : TypeId} {u : Value} {fuel : Nat} {y : DataW H × List MemPlace} (ht : P.underlying t = some .bool) (h : DataW.trod enc P w base (fun _ => true) held fuel t [u] = some y) : ∃ b, u = .bool b := by
  obtain ⟨b, hu, _⟩ := DataW.trod_bool ht h
  simp only [List.cons.injEq, and_true] at hu
  exact ⟨b, hu⟩
/-- The cells of a packet. -/
theorem pk_of {t e : TypeId} {f0 f1 f2 f3 f4 f5 : Field} {fuel : Nat} {cs : List Value} {x : DataW H × List MemPlace}
    (ht : P.underlying t = some (.struct #[f0, f1, f2, f3, f4, f5])) (hone : oneCellFields P #[f0, f1, f2, f3, f4, f5] = true) (hC : P.cellsOf t = 6)
    (h0 : P.underlying f0.type = some (.int .i64)) (h1 : P.underlying f1.type = some (.int .i64)) (h2 : P.underlying f2.type = some (.int .i64)) (h3 : P.underlying f3.type = some .bool) (h4 : P.underlying f4.type = some .bool)
    (h5 : P.underlying f5.type = some (.slice e)) (h6 : P.underlying e = some (.int .u8)) (hc : P.cellsOf e = 1) (h : DataW.trod enc P w base (fun _ => true) held fuel t cs = some x) :
    ∃ (q : Pk) (A : Option Addr) (c : Nat), cs = q.cells A c ∧ i64B q.st ∧ i64B q.at_ ∧ i64B q.ln ∧ byteB q.data ∧ q.data.length ≤ c ∧ c ≤ 9223372036854775807 ∧ RdI w w.heap.size .u8 A q.data := by
  obtain ⟨hl, n, hf⟩ := fields_of ht hone hC h
  match cs, hl with
  | [c0, c1, c2, c3, c4, c5], _ =>
    obtain ⟨y0, t0⟩ := hf 0 f0 c0 rfl rfl
    obtain ⟨y1, t1⟩ := hf 1 f1 c1 rfl rfl
    obtain ⟨y2, t2⟩ := hf 2 f2 c2 rfl rfl
    obtain ⟨y3, t3⟩ := hf 3 f3 c3 rfl rfl
    obtain ⟨y4, t4⟩ := hf 4 f4 c4 rfl rfl
    obtain ⟨y5, t5⟩ := hf 5 f5 c5 rfl rfl
    obtain ⟨a0, rfl, b0⟩ := open_i64 h0 t0
    obtain ⟨a1, rfl, b1⟩ := open_i64 h1 t1
    obtain ⟨a2, rfl, b2⟩ := open_i64 h2 t2
    obtain ⟨a3, rfl⟩ := open_bl h3 t3
    obtain ⟨a4, rfl⟩ := open_bl h4 t4
    obtain ⟨A, c, l, rfl, l1, l2, l3, l4⟩ := open_bytes h5 h6 hc t5
    exact ⟨⟨a0, a1, a2, a3, a4, l⟩, A, c, rfl, b0, b1, b2, l3, l1, l2, l4⟩
theorem open_pk {b0 : Nat} {r : Reach} {t e : TypeId} {f0 f1 f2 f3 f4 f5 : Field} {v : Value} {d : DataW H} {p : List MemPlace}
    (ht : P.underlying t = some (.struct #[f0, f1, f2, f3, f4, f5])) (hone : oneCellFields P #[f0, f1, f2, f3, f4, f5] = true) (hC : P.cellsOf t = 6)
    (h0 : P.underlying f0.type = some (.int .i64)) (h1 : P.underlying f1.type = some (.int .i64)) (h2 : P.underlying f2.type = some (.int .i64)) (h3 : P.underlying f3.type = some .bool) (h4 : P.underlying f4.type = some .bool)
    (h5 : P.underlying f5.type = some (.slice e)) (h6 : P.underlying e = some (.int .u8)) (hc : P.cellsOf e = 1)
    (hv : Value.okWide P w r b0 t v) (h : DataW.Trod enc P w base (fun _ => true) held t v d p) :
    ∃ (q : Pk) (A : Option Addr) (c : Nat), v = .agg #[.int .i64 q.st, .int .i64 q.at_, .int .i64 q.ln, .bool q.key, .bool q.hid, .slice A q.data.length c] ∧ i64B q.st ∧ i64B q.at_ ∧ i64B q.ln ∧ byteB q.data ∧ q.data.length ≤ c ∧ q.data.length ≤ 9223372036854775807 ∧ RdI w w.heap.size .u8 A q.data := by
  obtain ⟨cs, rfl, hsz⟩ := okWide_struct ht hv
  obtain ⟨fuel, hf⟩ := h
  obtain ⟨q, A, c, hcs, k0, k1, k2, k3, k4, k5, k6⟩ := pk_of ht hone hC h0 h1 h2 h3 h4 h5 h6 hc hf
  refine ⟨q, A, c, ?_, k0, k1, k2, k3, k4, by omega, k6⟩
  have e : cs.toList = q.cells A c := by simpa [Value.cells] using hcs
  have e2 : cs = (q.cells A c).toArray := by rw [← e]
  rw [e2]
  rfl
end
end Go.Proofs.Ytdnkdjaokmibjaa
