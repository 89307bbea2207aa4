/- An argument that is a slice of slices of packets, opened. -/
import Derived.Test.YtnflhogjonlnmaaFinS
import Derived.Test.YtnflhogjonlnmaaWvAllL
set_option linter.unusedSimpArgs false
set_option linter.unusedVariables false
namespace Go.Proofs.Ytnflhogjonlnmaa
open Go.ChangeShapes Go.WideShapes Go.ChangeAt Go.RowKit Go.Deep

/-- A slice of packets, of whatever length memory holds. -/
def LpN : Rel (List Pk) := fun w S cs l => ∃ A c, cs = [.slice A l.length c] ∧ l.length ≤ c ∧ RdPk w S A l ∧ l.length ≤ 140737488355328 ∧ c ≤ 9223372036854775807
theorem LpN.good : Rel.Good LpN 1 where
  pos := by omega
  len := by rintro w S cs x ⟨A, c, rfl, _⟩; rfl
  one := by
    rintro w S cs x ⟨A, c, rfl, _⟩ u hu
    simp only [List.mem_cons, List.not_mem_nil, or_false] at hu
    rcases hu with rfl; rfl
  keep := by
    rintro w w' M S cs x ⟨A, c, h1, h2, h3, h4⟩ hm hs
    exact ⟨A, c, h1, h2, h3.keep PkR.good hm hs, h4⟩
  weak := by
    rintro w S S' cs x ⟨A, c, h1, h2, h3, h4⟩ hs
    exact ⟨A, c, h1, h2, h3.weak PkR.good hs, h4⟩
theorem RdLn.at_ {w : World} {S : Nat → Prop} {A : Option Addr} {xs : List (List Pk)} (h : RdG LpN 1 w S A xs) {j : Nat} (hj : j < xs.length) : ∃ ad Aj cj, A = some ad ∧ S ad.block ∧ w.cell? (ad.add j) = some (.slice Aj xs[j].length cj) ∧ xs[j].length ≤ cj ∧ RdPk w S Aj xs[j] ∧ xs[j].length ≤ 140737488355328 ∧ cj ≤ 9223372036854775807 := by
  obtain ⟨ad, cs, e, hb, ⟨Aj, cj, rfl, h1, h2, h3⟩, hc⟩ := h j hj
  have := hc 0 _ rfl
  simp only [Nat.mul_one, Nat.add_zero] at this
  exact ⟨ad, Aj, cj, e, hb, this, h1, h2, h3⟩
theorem RdLn.lp {w : World} {S : Nat → Prop} {A : Option Addr} {xs : List (List Pk)} (h : RdG LpN 1 w S A xs) (hs : ∀ x ∈ xs, x.length ≤ 1000000000) : RdG LpR 1 w S A xs := fun j hj => by
  obtain ⟨ad, cs, e, hb, ⟨Aj, cj, h0, h1, h2, h3⟩, hc⟩ := h j hj
  exact ⟨ad, cs, e, hb, ⟨Aj, cj, h0, h1, h2, hs _ (List.getElem_mem hj)⟩, hc⟩
section
variable {H : Type} {enc : TypeId × Value → H} {P : Program} {w : World} {base : Nat} {held : Bool}
theorem slice_reach {t e : TypeId} {A : Option Addr} {n c : Nat} {fuel : Nat} {x : DataW H × List MemPlace} (ht : P.underlying t = some (.slice e))
    (h : DataW.trod enc P w base (fun _ => true) held fuel t [.slice A n c] = some x) (hw : ∀ m ∈ x.1.weights P t, m ≤ reachBytes) : n * P.bytesOf e ≤ reachBytes := by
  rcases open_slice ht h with ⟨hcs, _⟩ | ⟨a, len, cap, m, n', D, Pl, hcs, _, hl, hm, hmm, hx, hi⟩
  · simp at hcs
    obtain ⟨_, h0, _⟩ := hcs
    subst h0
    simp
  · simp at hcs
    obtain ⟨_, h0, _⟩ := hcs
    subst h0
    have hmem := hw (n * P.bytesOf e + (m - n) * P.bytesOf e) (by
      rw [hx, DataW.weights, ht]
      simp only [List.mem_cons]
      left
      rw [← Nat.add_mul]
      simp)
    omega
theorem lpS {t e tb : TypeId} {f0 f1 f2 f3 f4 f5 : Field} {fuel : Nat} {cs : List Value} {x : DataW H × List MemPlace}
    (hs : P.underlying t = some (.slice e)) (hbe : 1 ≤ P.bytesOf e)
    (ht : P.underlying e = some (.struct #[f0, f1, f2, f3, f4, f5])) (hone : oneCellFields P #[f0, f1, f2, f3, f4, f5] = true) (hC : P.cellsOf e = 6)
    (h0 : P.underlying f0.type = some (.int .i64)) (h1 : P.underlying f1.type = some (.int .i64)) (h2 : P.underlying f2.type = some (.int .i64)) (h3 : P.underlying f3.type = some .bool) (h4 : P.underlying f4.type = some .bool)
    (h5 : P.underlying f5.type = some (.slice tb)) (h6 : P.underlying tb = some (.int .u8)) (hc : P.cellsOf tb = 1) (hby : P.bytesOf tb = 1)
    (h : DataW.trod enc P w base (fun _ => true) held fuel t cs = some x) (hw : ∀ n ∈ x.1.weights P t, n ≤ reachBytes) : ∃ l : List Pk, LpN w (· < w.heap.size) cs l := by
  obtain ⟨A, m, c, hv⟩ := Go.Joins.slice_form hs h
  subst hv
  have hr := slice_reach hs h hw
  obtain ⟨xs, e1, e2, e3, e4⟩ := open_rdg (enc := enc) (d := x.1) (p := x.2) PkR.good hs hC ⟨fuel, h⟩ hw (fun fuel cs x hx hwx => pkS ht hone hC h0 h1 h2 h3 h4 h5 h6 hc hby hx hwx)
  subst e1
  refine ⟨xs, A, c, rfl, e2, e4, ?_, e3⟩
  have : xs.length * 1 ≤ xs.length * P.bytesOf e := Nat.mul_le_mul_left _ hbe
  simp only [reachBytes] at hr
  omega
end
end Go.Proofs.Ytnflhogjonlnmaa
