/- Stable sorting, plainly: what a stable rearrangement is, and the steps of the library's merge. -/
import Derived.Test.YtnflhogjonlnmaaSrtSwap
set_option linter.unusedSimpArgs false
set_option linter.unusedVariables false
namespace Go.Proofs.Ytnflhogjonlnmaa
open Go.RowKit

/-- 'not less' is an order in which any two may be set side by side. -/
structure LeO (lt : SP → SP → Bool) : Prop where
  asym : ∀ x y, lt x y = true → lt y x = false
  neg : ∀ x y z, lt y x = false → lt z y = false → lt z x = false
def Srd (lt : SP → SP → Bool) (l : List SP) : Prop := l.Pairwise fun x y => lt y x = false
def eqv (lt : SP → SP → Bool) (x y : SP) : Bool := !lt x y && !lt y x
/-- Of each kind the same ones, in the same order. -/
def Srt (lt : SP → SP → Bool) (l l' : List SP) : Prop := ∀ x, l'.filter (eqv lt x) = l.filter (eqv lt x)
section
variable {lt : SP → SP → Bool}
theorem Srt.refl (l : List SP) : Srt lt l l := fun _ => rfl
theorem Srt.trans {a b c : List SP} (h : Srt lt a b) (k : Srt lt b c) : Srt lt a c := fun x => (k x).trans (h x)
theorem Srt.app {a b a' b' : List SP} (h : Srt lt a a') (k : Srt lt b b') : Srt lt (a ++ b) (a' ++ b') := fun x => by rw [List.filter_append, List.filter_append, h x, k x]
theorem LeO.irr (h : LeO lt) (x : SP) : lt x x = false := by
  cases hx : lt x x with
  | false => rfl
  | true => exact hx ▸ h.asym x x hx
theorem LeO.tr (h : LeO lt) {x y z : SP} (h1 : lt x y = true) (h2 : lt z y = false) : lt x z = true := by
  cases h3 : lt x z with
  | true => rfl
  | false => have := h.neg y z x h2 h3; rw [h1] at this; cases this
theorem LeO.tr2 (h : LeO lt) {x y z : SP} (h1 : lt y x = false) (h2 : lt y z = true) : lt x z = true := by
  cases h3 : lt x z with
  | true => rfl
  | false => have := h.neg z x y h3 h1; rw [h2] at this; cases this
/-- Of two neighbours of which the second is less, none is of the other's kind. -/
theorem Srt.swap (h : LeO lt) {l1 l2 : List SP} (hlt : ∀ x ∈ l1, ∀ y ∈ l2, lt y x = true) : Srt lt (l1 ++ l2) (l2 ++ l1) := fun z => by
  rw [List.filter_append, List.filter_append]
  by_cases h1 : l1.filter (eqv lt z) = []
  · rw [h1, List.append_nil, List.nil_append]
  · by_cases h2 : l2.filter (eqv lt z) = []
    · rw [h2, List.append_nil, List.nil_append]
    · obtain ⟨x, hx⟩ := List.exists_mem_of_ne_nil _ h1
      obtain ⟨y, hy⟩ := List.exists_mem_of_ne_nil _ h2
      obtain ⟨hx1, hx2⟩ := List.mem_filter.1 hx
      obtain ⟨hy1, hy2⟩ := List.mem_filter.1 hy
      simp only [eqv, Bool.and_eq_true, Bool.not_eq_true'] at hx2 hy2
      have h3 := hlt x hx1 y hy1
      have h4 := h.neg x z y hx2.1 hy2.2
      rw [h3] at h4; cases h4
theorem eqv_self (h : LeO lt) (x : SP) : eqv lt x x = true := by simp [eqv, h.irr]
theorem Srt.mem (h : LeO lt) {l l' : List SP} (hs : Srt lt l l') {x : SP} : x ∈ l' ↔ x ∈ l := by
  have h1 := hs x
  constructor
  · intro hx
    have : x ∈ l'.filter (eqv lt x) := List.mem_filter.2 ⟨hx, eqv_self h x⟩
    rw [h1] at this
    exact (List.mem_filter.1 this).1
  · intro hx
    have : x ∈ l.filter (eqv lt x) := List.mem_filter.2 ⟨hx, eqv_self h x⟩
    rw [← h1] at this
    exact (List.mem_filter.1 this).1
theorem Srd.app {a b : List SP} : Srd lt (a ++ b) ↔ Srd lt a ∧ Srd lt b ∧ ∀ x ∈ a, ∀ y ∈ b, lt y x = false := List.pairwise_append
theorem Srd.nil : Srd lt [] := List.Pairwise.nil
theorem Srd.one (x : SP) : Srd lt [x] := List.pairwise_singleton _ _
/-- All of a sorted row lie before what its last does. -/
theorem Srd.last (h : LeO lt) {l : List SP} {z y : SP} (hs : Srd lt (l ++ [z])) (hy : lt y z = false) : ∀ x ∈ l ++ [z], lt y x = false := fun x hx => by
  rcases List.mem_append.1 hx with hx | hx
  · exact h.neg x z y ((Srd.app.1 hs).2.2 x hx z (List.mem_singleton.2 rfl)) hy
  · rw [List.mem_singleton] at hx; subst hx; exact hy
theorem Srd.lastLt (h : LeO lt) {l : List SP} {z y : SP} (hs : Srd lt (l ++ [z])) (hy : lt z y = true) : ∀ x ∈ l ++ [z], lt x y = true := fun x hx => by
  rcases List.mem_append.1 hx with hx | hx
  · exact h.tr2 ((Srd.app.1 hs).2.2 x hx z (List.mem_singleton.2 rfl)) hy
  · rw [List.mem_singleton] at hx; subst hx; exact hy
theorem Srd.first (h : LeO lt) {l : List SP} {z y : SP} (hs : Srd lt (z :: l)) (hy : lt z y = false) : ∀ x ∈ z :: l, lt x y = false := fun x hx => by
  rcases List.mem_cons.1 hx with hx | hx
  · subst hx; exact hy
  · exact h.neg y z x hy ((List.pairwise_cons.1 hs).1 x hx)
theorem Srd.firstLt (h : LeO lt) {l : List SP} {z y : SP} (hs : Srd lt (z :: l)) (hy : lt y z = true) : ∀ x ∈ z :: l, lt y x = true := fun x hx => by
  rcases List.mem_cons.1 hx with hx | hx
  · subst hx; exact hy
  · exact h.tr hy ((List.pairwise_cons.1 hs).1 x hx)
/-- One is put into a sorted row from behind: what it passes is greater. -/
theorem ins_ok (h : LeO lt) {s1 s2 : List SP} {x : SP} (hs : Srd lt (s1 ++ s2)) (h1 : ∀ y ∈ s1, lt x y = false) (h2 : ∀ y ∈ s2, lt x y = true) : Srt lt ((s1 ++ s2) ++ [x]) (s1 ++ (x :: s2)) ∧ Srd lt (s1 ++ (x :: s2)) := by
  obtain ⟨a1, a2, a3⟩ := Srd.app.1 hs
  constructor
  · rw [List.append_assoc]
    exact Srt.app (Srt.refl _) (Srt.swap h (l1 := s2) (l2 := [x]) (fun y hy z hz => by rw [List.mem_singleton] at hz; subst hz; exact h2 y hy))
  · refine Srd.app.2 ⟨a1, List.pairwise_cons.2 ⟨fun y hy => h.asym x y (h2 y hy), a2⟩, fun y hy z hz => ?_⟩
    rcases List.mem_cons.1 hz with hz | hz
    · subst hz; exact h1 y hy
    · exact a3 y hy z hz
/-- One is put into a sorted row from ahead: what it passes is less. -/
theorem ins_ok2 (h : LeO lt) {s1 s2 : List SP} {x : SP} (hs : Srd lt (s1 ++ s2)) (h1 : ∀ y ∈ s1, lt y x = true) (h2 : ∀ y ∈ s2, lt y x = false) : Srt lt ([x] ++ (s1 ++ s2)) (s1 ++ (x :: s2)) ∧ Srd lt (s1 ++ (x :: s2)) := by
  obtain ⟨a1, a2, a3⟩ := Srd.app.1 hs
  constructor
  · rw [← List.append_assoc, show s1 ++ (x :: s2) = (s1 ++ [x]) ++ s2 by simp]
    exact Srt.app (Srt.swap h (l1 := [x]) (l2 := s1) (fun z hz y hy => by rw [List.mem_singleton] at hz; subst hz; exact h1 y hy)) (Srt.refl _)
  · refine Srd.app.2 ⟨a1, List.pairwise_cons.2 ⟨h2, a2⟩, fun y hy z hz => ?_⟩
    rcases List.mem_cons.1 hz with hz | hz
    · subst hz; exact h.asym y z (h1 y hy)
    · exact a3 y hy z hz
/-- The two halves behind the turn, each sorted, are sorted together. -/
theorem merge_ok (h : LeO lt) {L1 L2 R1 R2 P Q : List SP} (h1 : Srd lt (L1 ++ L2)) (h2 : Srd lt (R1 ++ R2)) (hRL : ∀ x ∈ L2, ∀ y ∈ R1, lt y x = true) (hLR : ∀ x ∈ L1, ∀ y ∈ R2, lt y x = false)
    (hP : Srt lt (L1 ++ R1) P) (sP : Srd lt P) (hQ : Srt lt (L2 ++ R2) Q) (sQ : Srd lt Q) : Srt lt ((L1 ++ L2) ++ (R1 ++ R2)) (P ++ Q) ∧ Srd lt (P ++ Q) := by
  obtain ⟨a1, a2, a3⟩ := Srd.app.1 h1
  obtain ⟨b1, b2, b3⟩ := Srd.app.1 h2
  constructor
  · refine Srt.trans ?_ (Srt.app hP hQ)
    have k := Srt.app (Srt.app (Srt.refl (lt := lt) L1) (Srt.swap h (l1 := L2) (l2 := R1) hRL)) (Srt.refl R2)
    simpa using k
  · refine Srd.app.2 ⟨sP, sQ, fun x hx y hy => ?_⟩
    have hx' := (hP.mem h).1 hx
    have hy' := (hQ.mem h).1 hy
    rcases List.mem_append.1 hx' with hx' | hx' <;> rcases List.mem_append.1 hy' with hy' | hy'
    · exact a3 x hx' y hy'
    · exact hLR x hx' y hy'
    · exact h.asym x y (hRL y hy' x hx')
    · exact b3 x hx' y hy'
end
/-- A row by its places. -/
theorem getD_mid (P : List SP) (x : SP) (R : List SP) : (P ++ (x :: R)).getD P.length spz = x := by
  rw [List.getD_eq_getElem?_getD, List.getElem?_append_right (Nat.le_refl _), Nat.sub_self]; rfl
theorem set_mid (P : List SP) (x y : SP) (R : List SP) : (P ++ (x :: R)).set P.length y = P ++ (y :: R) := by
  rw [List.set_append_right _ _ (Nat.le_refl _), Nat.sub_self]; rfl
theorem swp_mid (P M R : List SP) (x y : SP) {i j : Nat} (hi : i = P.length) (hj : j = P.length + 1 + M.length) : swp (P ++ (x :: (M ++ (y :: R)))) i j = P ++ (y :: (M ++ (x :: R))) := by
  subst hi
  have e1 : (P ++ (x :: (M ++ (y :: R)))).getD j spz = y := by
    rw [show P ++ (x :: (M ++ (y :: R))) = (P ++ (x :: M)) ++ (y :: R) by simp, show j = (P ++ (x :: M)).length by simp; omega]
    exact getD_mid _ _ _
  rw [swp, e1, getD_mid, set_mid, show P ++ (y :: (M ++ (y :: R))) = (P ++ (y :: M)) ++ (y :: R) by simp, show j = (P ++ (y :: M)).length by simp; omega, set_mid]
  simp
theorem swp_mid' (P M R : List SP) (x y : SP) {i j : Nat} (hi : i = P.length) (hj : j = P.length + 1 + M.length) : swp (P ++ (x :: (M ++ (y :: R)))) j i = P ++ (y :: (M ++ (x :: R))) := by
  have hne : i ≠ j := by omega
  rw [← swp_mid P M R x y hi hj, swp, swp, List.set_comm _ _ hne.symm]
theorem swapUp_seg : ∀ (n : Nat) (X Y P M R : List SP), X.length = n → Y.length = n → swapUp (P ++ (X ++ (M ++ (Y ++ R)))) P.length (P.length + n + M.length) n = P ++ (Y ++ (M ++ (X ++ R)))
  | 0, X, Y, P, M, R, hX, hY => by
    have : X = [] := List.eq_nil_of_length_eq_zero hX
    have : Y = [] := List.eq_nil_of_length_eq_zero hY
    subst X Y
    rfl
  | n + 1, X, Y, P, M, R, hX, hY => by
    obtain ⟨X', x, rfl⟩ : ∃ X' x, X = X' ++ [x] := ⟨X.dropLast, X.getLast (by intro h; rw [h] at hX; cases hX), (List.dropLast_concat_getLast _).symm⟩
    obtain ⟨Y', y, rfl⟩ : ∃ Y' y, Y = Y' ++ [y] := ⟨Y.dropLast, Y.getLast (by intro h; rw [h] at hY; cases hY), (List.dropLast_concat_getLast _).symm⟩
    have hX' : X'.length = n := by simpa using hX
    have hY' : Y'.length = n := by simpa using hY
    have ih := swapUp_seg n X' Y' P (x :: M) (y :: R) hX' hY'
    rw [show P ++ (X' ++ [x] ++ (M ++ (Y' ++ [y] ++ R))) = P ++ (X' ++ (x :: M ++ (Y' ++ y :: R))) by simp, swapUp, show P.length + (n + 1) + M.length = P.length + n + (x :: M).length by simp; omega, ih]
    rw [show P ++ (Y' ++ (x :: M ++ (X' ++ y :: R))) = (P ++ Y') ++ (x :: ((M ++ X') ++ (y :: R))) by simp]
    rw [swp_mid (P ++ Y') (M ++ X') R x y (by simp; omega) (by simp; omega)]
    simp
end Go.Proofs.Ytnflhogjonlnmaa
