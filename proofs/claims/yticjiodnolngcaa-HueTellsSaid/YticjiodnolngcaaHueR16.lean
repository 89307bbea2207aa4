/- Cost and best of any picture, program and reference, by one value. -/
import Derived.Test.YticjiodnolngcaaHueR15
import Derived.Test.YticjiodnolngcaaHueR13
set_option linter.unusedSimpArgs false
set_option linter.unusedVariables false
namespace Go.Proofs.Yticjiodnolngcaa
open Go.RowKit

theorem BestOf.uniq {W H d : Nat} {p : List (List Int)} {n b b' : Nat} (h : BestOf W H d p n b) (h' : BestOf W H d p n b') : b = b' := by
  obtain ⟨h1, h2, h3, h4⟩ := h
  obtain ⟨k1, k2, k3, k4⟩ := h'
  rcases Nat.lt_trichotomy b b' with hl | he | hl
  · have := k4 b hl h2
    have := h3 b' k1 k2
    omega
  · exact he
  · have := h4 b' hl k2
    have := k3 b h1 h2
    omega
open Classical in
/-- The best kind of a picture. -/
noncomputable def bestR (q : Pc) : Int := if isB q = true then (if h : ∃ b, BestOf q.w.toNat q.h.toNat q.d.toNat q.p 5 b then (h.choose : Int) else 0) else 0
theorem bestR_eq {W H d : Nat} {p : List (List Int)} {b : Nat} (hI : isB ⟨(W : Int), (H : Int), (d : Int), p⟩ = true) (h : BestOf W H d p 5 b) : bestR ⟨(W : Int), (H : Int), (d : Int), p⟩ = (b : Int) := by
  have hx : ∃ b, BestOf W H d p 5 b := ⟨b, h⟩
  unfold bestR
  rw [if_pos hI]
  simp only [Int.toNat_natCast]
  rw [dif_pos hx]
  rw [hx.choose_spec.uniq h]
def costR (q : Pc) : Int := if isB q = true then cstLL q.w.toNat q.d q.p q.p.length else 0

theorem cost_one {w : World} {B : Nat} {q : Pc} {A : Option Addr} {c : Nat} (hr : RdLL w B .i64 A q.p) (hB : B ≤ w.heap.size) (h63 : Len63 q.p) :
    Calls Try.prog 15 #[.agg #[.int .i64 q.w, .int .i64 q.h, .int .i64 q.d, .slice A q.p.length c]] w fun e w' => e = .returned (.int .i64 (costR q)) ∧ Below w.heap.size w w' := by
  cases h : isB q
  · rw [costR, if_neg (by rw [h]; decide)]
    exact cost_no hr hB h63 h
  · rw [costR, if_pos h]
    obtain ⟨W, H, d, e1, e2, e3⟩ := isB_nat h
    obtain ⟨qw, qh, qd, p⟩ := q
    simp only at e1 e2 e3
    subst e1 e2 e3
    simp only [Int.toNat_natCast]
    exact cost_any hr hB h

theorem rcost_one {w : World} {B : Nat} {q : Pc} {A : Option Addr} {c : Nat} (hr : RdLL w B .i64 A q.p) (hB : B ≤ w.heap.size) (h63 : Len63 q.p) :
    Calls Try.prog 26 #[.agg #[.int .i64 q.w, .int .i64 q.h, .int .i64 q.d, .slice A q.p.length c]] w fun e w' => e = .returned (.int .i64 (costR q)) ∧ Below w.heap.size w w' := by
  cases h : isB q
  · rw [costR, if_neg (by rw [h]; decide)]
    exact rcost_no hr hB h63 h
  · rw [costR, if_pos h]
    obtain ⟨W, H, d, e1, e2, e3⟩ := isB_nat h
    obtain ⟨qw, qh, qd, p⟩ := q
    simp only at e1 e2 e3
    subst e1 e2 e3
    simp only [Int.toNat_natCast]
    exact rcost_any hr hB h

theorem best_one {w : World} {B : Nat} {q : Pc} {A : Option Addr} {c : Nat} (hr : RdLL w B .i64 A q.p) (hB : B ≤ w.heap.size) (h63 : Len63 q.p) :
    Calls Try.prog 14 #[.agg #[.int .i64 q.w, .int .i64 q.h, .int .i64 q.d, .slice A q.p.length c]] w fun e w' => e = .returned (.int .i64 (bestR q)) ∧ Below w.heap.size w w' := by
  cases h : isB q
  · rw [bestR, if_neg (by rw [h]; decide)]
    exact best_no hr hB h63 h
  · obtain ⟨W, H, d, e1, e2, e3⟩ := isB_nat h
    obtain ⟨qw, qh, qd, p⟩ := q
    simp only at e1 e2 e3
    subst e1 e2 e3
    refine (best_yes hr hB h).mono ?_
    rintro e w' ⟨b, rfl, hb, hbl⟩
    exact ⟨by rw [bestR_eq h hb.out], hbl⟩

theorem rbest_one {w : World} {B : Nat} {q : Pc} {A : Option Addr} {c : Nat} (hr : RdLL w B .i64 A q.p) (hB : B ≤ w.heap.size) (h63 : Len63 q.p) :
    Calls Try.prog 27 #[.agg #[.int .i64 q.w, .int .i64 q.h, .int .i64 q.d, .slice A q.p.length c]] w fun e w' => e = .returned (.int .i64 (bestR q)) ∧ Below w.heap.size w w' := by
  cases h : isB q
  · rw [bestR, if_neg (by rw [h]; decide)]
    exact rbest_no hr hB h63 h
  · obtain ⟨W, H, d, e1, e2, e3⟩ := isB_nat h
    obtain ⟨qw, qh, qd, p⟩ := q
    simp only at e1 e2 e3
    subst e1 e2 e3
    refine (rbest_yes hr hB h).mono ?_
    rintro e w' ⟨b, rfl, hb, hbl⟩
    exact ⟨by rw [bestR_eq h hb.out], hbl⟩
end Go.Proofs.Yticjiodnolngcaa
