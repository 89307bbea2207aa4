/- Fore and back of any picture, program and reference, by one value. -/
import Derived.Test.YticjiodnolngcaaHueR12
import Derived.Test.YticjiodnolngcaaHueB
import Derived.Test.YticjiodnolngcaaHueInv
set_option linter.unusedSimpArgs false
set_option linter.unusedVariables false
namespace Go.Proofs.Yticjiodnolngcaa
open Go.RowKit

/-- What fore or back gives: the picture and the error. -/
def hueR (C : Int → Int → C4 → C4) (q : Pc) (k : Int) : Pc × Int := if (isB q && mayB q.p.length k) = true then (⟨q.w, q.h, q.d, hueLL (C k q.d) q.p (q.w * q.h).toNat⟩, 0) else (⟨0, 0, 0, []⟩, 1)
theorem isB_nat {q : Pc} (h : isB q = true) : ∃ W H d : Nat, q.w = W ∧ q.h = H ∧ q.d = d := by
  rw [isB, Bool.and_eq_true] at h
  obtain ⟨h1, _⟩ := h
  simp only [possB, decide_eq_true_eq] at h1
  exact ⟨q.w.toNat, q.h.toNat, q.d.toNat, by omega, by omega, by omega⟩
theorem hueR_len (C : Int → Int → C4 → C4) (q : Pc) (k : Int) : Len63 (hueR C q k).1.p := by
  unfold hueR
  split
  · rename_i h
    rw [Bool.and_eq_true] at h
    obtain ⟨W, H, d, e1, e2, e3⟩ := isB_nat h.1
    obtain ⟨w, hh, dd, p⟩ := q
    simp only at e1 e2 e3
    subst e1 e2 e3
    obtain ⟨b1, b2, b3, b4, b5, b6, b7, b8, b9⟩ := isB_all h.1
    have hWHm : W * H ≤ 4096 := Nat.mul_le_mul (show W ≤ 64 by omega) (show H ≤ 64 by omega)
    refine ⟨by rw [hueLL_length]; exact Nat.le_trans b8 (by decide), fun l hl => ?_⟩
    simp only [hueLL, List.mem_map] at hl
    obtain ⟨j, _, rfl⟩ := hl
    rw [List.length_map, List.length_range]
    rw [show ((W : Int) * (H : Int)).toNat = W * H by rw [← Int.natCast_mul, Int.toNat_natCast]]
    omega
  · exact ⟨by simp, fun l hl => by simp at hl⟩

theorem fore_one {w : World} {B : Nat} {q : Pc} {A : Option Addr} {c : Nat} (hr : RdLL w B .i64 A q.p) (hB : B ≤ w.heap.size) (h63 : Len63 q.p) (k : Int) :
    Calls Try.prog 11 #[.agg #[.int .i64 q.w, .int .i64 q.h, .int .i64 q.d, .slice A q.p.length c], .int .i64 k] w fun e w' => ∃ A' c', e = .returned (.tuple #[.agg #[.int .i64 (hueR foreC q k).1.w, .int .i64 (hueR foreC q k).1.h, .int .i64 (hueR foreC q k).1.d, .slice A' (hueR foreC q k).1.p.length c'], .int .i64 (hueR foreC q k).2]) ∧
      RdLL w' w'.heap.size .i64 A' (hueR foreC q k).1.p ∧ Below w.heap.size w w' := by
  by_cases h : (isB q && mayB q.p.length k) = true
  · rw [hueR, if_pos h]
    rw [Bool.and_eq_true] at h
    obtain ⟨W, H, d, e1, e2, e3⟩ := isB_nat h.1
    obtain ⟨qw, qh, qd, p⟩ := q
    simp only at e1 e2 e3
    subst e1 e2 e3
    refine (huefore_yes (c := c) hr hB h.1 k h.2).mono ?_
    rintro e w' ⟨A', c', rfl, ho, hb⟩
    have e9 : ((W : Int) * (H : Int)).toNat = W * H := by rw [← Int.natCast_mul, Int.toNat_natCast]
    refine ⟨A', c', ?_, ?_, hb⟩
    · simp only [hueLL_length]
    · simp only [e9]
      exact rdOwn ho (Below.refl _ _)
  · rw [hueR, if_neg h]
    refine (huefore_no (c := c) hr hB h63.1 k (by simpa using h)).mono ?_
    rintro e w' ⟨rfl, hb⟩
    exact ⟨none, 0, rfl, fun j hj => absurd hj (by simp), hb⟩

theorem back_one {w : World} {B : Nat} {q : Pc} {A : Option Addr} {c : Nat} (hr : RdLL w B .i64 A q.p) (hB : B ≤ w.heap.size) (h63 : Len63 q.p) (k : Int) :
    Calls Try.prog 18 #[.agg #[.int .i64 q.w, .int .i64 q.h, .int .i64 q.d, .slice A q.p.length c], .int .i64 k] w fun e w' => ∃ A' c', e = .returned (.tuple #[.agg #[.int .i64 (hueR backC q k).1.w, .int .i64 (hueR backC q k).1.h, .int .i64 (hueR backC q k).1.d, .slice A' (hueR backC q k).1.p.length c'], .int .i64 (hueR backC q k).2]) ∧
      RdLL w' w'.heap.size .i64 A' (hueR backC q k).1.p ∧ Below w.heap.size w w' := by
  by_cases h : (isB q && mayB q.p.length k) = true
  · rw [hueR, if_pos h]
    rw [Bool.and_eq_true] at h
    obtain ⟨W, H, d, e1, e2, e3⟩ := isB_nat h.1
    obtain ⟨qw, qh, qd, p⟩ := q
    simp only at e1 e2 e3
    subst e1 e2 e3
    refine (hueback_yes (c := c) hr hB h.1 k h.2).mono ?_
    rintro e w' ⟨A', c', rfl, ho, hb⟩
    have e9 : ((W : Int) * (H : Int)).toNat = W * H := by rw [← Int.natCast_mul, Int.toNat_natCast]
    refine ⟨A', c', ?_, ?_, hb⟩
    · simp only [hueLL_length]
    · simp only [e9]
      exact rdOwn ho (Below.refl _ _)
  · rw [hueR, if_neg h]
    refine (hueback_no (c := c) hr hB h63.1 k (by simpa using h)).mono ?_
    rintro e w' ⟨rfl, hb⟩
    exact ⟨none, 0, rfl, fun j hj => absurd hj (by simp), hb⟩

theorem rfore_one {w : World} {B : Nat} {q : Pc} {A : Option Addr} {c : Nat} (hr : RdLL w B .i64 A q.p) (hB : B ≤ w.heap.size) (h63 : Len63 q.p) (k : Int) :
    Calls Try.prog 39 #[.agg #[.int .i64 q.w, .int .i64 q.h, .int .i64 q.d, .slice A q.p.length c], .int .i64 k] w fun e w' => ∃ A' c', e = .returned (.tuple #[.agg #[.int .i64 (hueR foreC q k).1.w, .int .i64 (hueR foreC q k).1.h, .int .i64 (hueR foreC q k).1.d, .slice A' (hueR foreC q k).1.p.length c'], .int .i64 (hueR foreC q k).2]) ∧
      RdLL w' w'.heap.size .i64 A' (hueR foreC q k).1.p ∧ Below w.heap.size w w' := by
  by_cases h : (isB q && mayB q.p.length k) = true
  · rw [hueR, if_pos h]
    rw [Bool.and_eq_true] at h
    obtain ⟨W, H, d, e1, e2, e3⟩ := isB_nat h.1
    obtain ⟨qw, qh, qd, p⟩ := q
    simp only at e1 e2 e3
    subst e1 e2 e3
    refine (rforepic_yes (c := c) hr hB h.1 k h.2).mono ?_
    rintro e w' ⟨A', c', rfl, ho, hb⟩
    have e9 : ((W : Int) * (H : Int)).toNat = W * H := by rw [← Int.natCast_mul, Int.toNat_natCast]
    refine ⟨A', c', ?_, ?_, hb⟩
    · simp only [hueLL_length]
    · simp only [e9]
      exact rdOwn ho (Below.refl _ _)
  · rw [hueR, if_neg h]
    refine (rforepic_no (c := c) hr hB h63 h63.1 k (by simpa using h)).mono ?_
    rintro e w' ⟨rfl, hb⟩
    exact ⟨none, 0, rfl, fun j hj => absurd hj (by simp), hb⟩

theorem rback_one {w : World} {B : Nat} {q : Pc} {A : Option Addr} {c : Nat} (hr : RdLL w B .i64 A q.p) (hB : B ≤ w.heap.size) (h63 : Len63 q.p) (k : Int) :
    Calls Try.prog 40 #[.agg #[.int .i64 q.w, .int .i64 q.h, .int .i64 q.d, .slice A q.p.length c], .int .i64 k] w fun e w' => ∃ A' c', e = .returned (.tuple #[.agg #[.int .i64 (hueR backC q k).1.w, .int .i64 (hueR backC q k).1.h, .int .i64 (hueR backC q k).1.d, .slice A' (hueR backC q k).1.p.length c'], .int .i64 (hueR backC q k).2]) ∧
      RdLL w' w'.heap.size .i64 A' (hueR backC q k).1.p ∧ Below w.heap.size w w' := by
  by_cases h : (isB q && mayB q.p.length k) = true
  · rw [hueR, if_pos h]
    rw [Bool.and_eq_true] at h
    obtain ⟨W, H, d, e1, e2, e3⟩ := isB_nat h.1
    obtain ⟨qw, qh, qd, p⟩ := q
    simp only at e1 e2 e3
    subst e1 e2 e3
    refine (rbackpic_yes (c := c) hr hB h.1 k h.2).mono ?_
    rintro e w' ⟨A', c', rfl, ho, hb⟩
    have e9 : ((W : Int) * (H : Int)).toNat = W * H := by rw [← Int.natCast_mul, Int.toNat_natCast]
    refine ⟨A', c', ?_, ?_, hb⟩
    · simp only [hueLL_length]
    · simp only [e9]
      exact rdOwn ho (Below.refl _ _)
  · rw [hueR, if_neg h]
    refine (rbackpic_no (c := c) hr hB h63 h63.1 k (by simpa using h)).mono ?_
    rintro e w' ⟨rfl, hb⟩
    exact ⟨none, 0, rfl, fun j hj => absurd hj (by simp), hb⟩
end Go.Proofs.Yticjiodnolngcaa
