/- What the merge's searches by halves find, plainly. -/
import Derived.Test.YtnflhogjonlnmaaSrtRot
set_option linter.unusedSimpArgs false
set_option linter.unusedVariables false
namespace Go.Proofs.Ytnflhogjonlnmaa
open Go.RowKit
theorem gd_get {l : List SP} {t : Nat} (h : t < l.length) : l.getD t spz = l[t] := by rw [List.getD_eq_getElem?_getD, List.getElem?_eq_getElem h]; rfl
theorem gd_l1 (P l T : List SP) {t i : Nat} (h : t < l.length) (hi : i = P.length + t) : (P ++ (l ++ T)).getD i spz = l.getD t spz := by
  subst hi
  rw [List.getD_eq_getElem?_getD, List.getElem?_append_right (by omega), List.getElem?_append_left (by omega), List.getD_eq_getElem?_getD, show P.length + t - P.length = t by omega]
theorem gd_l2 (P l1 l2 T : List SP) {t i : Nat} (h : t < l2.length) (hi : i = P.length + l1.length + t) : (P ++ (l1 ++ (l2 ++ T))).getD i spz = l2.getD t spz := by
  rw [← List.append_assoc]
  exact gd_l1 (P ++ l1) l2 T h (by rw [List.length_append]; exact hi)
theorem take_last {l : List SP} {k : Nat} (h0 : 0 < k) (h : k ≤ l.length) : l.take k = l.take (k - 1) ++ [l.getD (k - 1) spz] := by
  obtain ⟨j, rfl⟩ : ∃ j, k = j + 1 := ⟨k - 1, by omega⟩
  rw [Nat.add_sub_cancel, gd_get (by omega), List.take_succ_eq_append_getElem (by omega)]
theorem drop_first {l : List SP} {k : Nat} (h : k < l.length) : l.drop k = l.getD k spz :: l.drop (k + 1) := by rw [gd_get h, List.drop_eq_getElem_cons h]
theorem take_srd {lt : SP → SP → Bool} {l : List SP} (hs : Srd lt l) (k : Nat) : Srd lt (l.take k) ∧ Srd lt (l.drop k) := by
  have hs' := hs
  rw [← List.take_append_drop k l] at hs'
  have := Srd.app.1 hs'
  exact ⟨this.1, this.2.1⟩
section
variable {lt : SP → SP → Bool} (h : LeO lt) {l : List SP} {k : Nat} {x : SP}
include h
theorem bs_lt (hs : Srd lt l) (hk : k ≤ l.length) (hx : k = 0 ∨ lt (l.getD (k - 1) spz) x = true) : ∀ y ∈ l.take k, lt y x = true := by
  by_cases h0 : k = 0
  · subst h0; simp
  · have h1 := (take_srd hs k).1
    rw [take_last (by omega) hk] at h1 ⊢
    exact h1.lastLt h (hx.resolve_left h0)
theorem bs_nlt (hs : Srd lt l) (hk : k ≤ l.length) (hx : k = l.length ∨ lt (l.getD k spz) x = false) : ∀ y ∈ l.drop k, lt y x = false := by
  by_cases h0 : k = l.length
  · subst h0; simp
  · have h1 := (take_srd hs k).2
    rw [drop_first (by omega)] at h1 ⊢
    exact h1.first h (hx.resolve_left h0)
theorem bs_nlt2 (hs : Srd lt l) (hk : k ≤ l.length) (hx : k = 0 ∨ lt x (l.getD (k - 1) spz) = false) : ∀ y ∈ l.take k, lt x y = false := by
  by_cases h0 : k = 0
  · subst h0; simp
  · have h1 := (take_srd hs k).1
    rw [take_last (by omega) hk] at h1 ⊢
    exact h1.last h (hx.resolve_left h0)
theorem bs_lt2 (hs : Srd lt l) (hk : k ≤ l.length) (hx : k = l.length ∨ lt x (l.getD k spz) = true) : ∀ y ∈ l.drop k, lt x y = true := by
  by_cases h0 : k = l.length
  · subst h0; simp
  · have h1 := (take_srd hs k).2
    rw [drop_first (by omega)] at h1 ⊢
    exact h1.firstLt h (hx.resolve_left h0)
/-- Where the turn is laid. -/
theorem turn_ok {l1 l2 : List SP} {p q : Nat} (h1 : Srd lt l1) (h2 : Srd lt l2) (hp : p ≤ l1.length) (hq : q ≤ l2.length)
    (hA : (q = 0 ∨ p = l1.length) ∨ lt (l2.getD (q - 1) spz) (l1.getD p spz) = true) (hB : (q = l2.length ∨ p = 0) ∨ lt (l2.getD q spz) (l1.getD (p - 1) spz) = false) :
    (∀ x ∈ l1.drop p, ∀ y ∈ l2.take q, lt y x = true) ∧ (∀ x ∈ l1.take p, ∀ y ∈ l2.drop q, lt y x = false) := by
  constructor
  · intro x hx y hy
    by_cases hq0 : q = 0
    · subst hq0; simp at hy
    · by_cases hp0 : p = l1.length
      · subst hp0; simp at hx
      · have h3 := hA.resolve_left (by omega)
        have h4 := bs_lt h h2 hq (.inr h3) y hy
        exact bs_lt2 h h1 hp (.inr h4) x hx
  · intro x hx y hy
    by_cases hq0 : q = l2.length
    · subst hq0; simp at hy
    · by_cases hp0 : p = 0
      · subst hp0; simp at hx
      · have h3 := hB.resolve_left (by omega)
        have h4 := bs_nlt h h2 hq (.inr h3) y hy
        exact bs_nlt2 h h1 hp (.inr h4) x hx
end
end Go.Proofs.Ytnflhogjonlnmaa
