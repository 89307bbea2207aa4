/- Hue: the plain functions of a place, and that fore and back undo each other. -/
import Derived.Test.YticjiodnolngcaaPicFacts
set_option linter.unusedSimpArgs false
set_option linter.unusedVariables false
namespace Go.Proofs.Yticjiodnolngcaa
open Go.RowKit

/-- The samples of a place. -/
structure C4 where
  a : Int
  b : Int
  c : Int
  e : Int
def C4.sel (x : C4) (k : Nat) : Int := if k = 0 then x.a else if k = 1 then x.b else if k = 2 then x.c else x.e
def C4.ok (x : C4) (d : Int) : Prop := (0 ≤ x.a ∧ x.a < 2 ^ d.toNat) ∧ (0 ≤ x.b ∧ x.b < 2 ^ d.toNat) ∧ (0 ≤ x.c ∧ x.c < 2 ^ d.toNat) ∧ (0 ≤ x.e ∧ x.e < 2 ^ d.toNat)

def fore2t (x : C4) (d : Int) : Int := wrapP (x.c + foldP (wrapP (x.a - x.c) d) d / 2) d
def foreC (kind d : Int) (x : C4) : C4 :=
  if kind = 1 then ⟨wrapP (x.a - x.b) d, x.b, wrapP (x.c - x.b) d, x.e⟩
  else if kind = 2 then ⟨wrapP (fore2t x d + foldP (wrapP (x.b - fore2t x d) d) d / 2) d, wrapP (x.a - x.c) d, wrapP (x.b - fore2t x d) d, x.e⟩
  else if kind = 3 then ⟨wrapP (x.b + (foldP (wrapP (x.c - x.b) d) d + foldP (wrapP (x.a - x.b) d) d) / 4) d, wrapP (x.c - x.b) d, wrapP (x.a - x.b) d, x.e⟩
  else if kind = 4 then ⟨x.a, wrapP (x.b - x.a) d, wrapP (x.c - x.b) d, wrapP (x.e - x.c) d⟩
  else x
def back2t (x : C4) (d : Int) : Int := wrapP (x.a - foldP x.c d / 2) d
def back2b (x : C4) (d : Int) : Int := wrapP (back2t x d - foldP x.b d / 2) d
def back3g (x : C4) (d : Int) : Int := wrapP (x.a - (foldP x.b d + foldP x.c d) / 4) d
def backC (kind d : Int) (x : C4) : C4 :=
  if kind = 1 then ⟨wrapP (x.a + x.b) d, x.b, wrapP (x.c + x.b) d, x.e⟩
  else if kind = 2 then ⟨wrapP (x.b + back2b x d) d, wrapP (x.c + back2t x d) d, back2b x d, x.e⟩
  else if kind = 3 then ⟨wrapP (x.c + back3g x d) d, back3g x d, wrapP (x.b + back3g x d) d, x.e⟩
  else if kind = 4 then ⟨x.a, wrapP (x.b + x.a) d, wrapP (x.c + wrapP (x.b + x.a) d) d, wrapP (x.e + wrapP (x.c + wrapP (x.b + x.a) d) d) d⟩
  else x

section
variable {d : Int} (hd : 1 ≤ d ∧ d ≤ 16)
include hd
theorem wrapP_eq (v : Int) : wrapP v d = v % 2 ^ d.toNat := by rw [wrapP, if_pos hd]
theorem wrapP_range (v : Int) : 0 ≤ wrapP v d ∧ wrapP v d < 2 ^ d.toNat := by
  have hp := (pow_16 (k := d.toNat) (by omega) (by omega)).1
  rw [wrapP_eq hd]
  exact ⟨Int.emod_nonneg _ (by omega), Int.emod_lt_of_pos _ (by omega)⟩
theorem wrapP_id {v : Int} (h : 0 ≤ v ∧ v < 2 ^ d.toNat) : wrapP v d = v := by
  rw [wrapP_eq hd]
  exact Int.emod_eq_of_lt h.1 h.2
theorem wrapP_add (v x : Int) : wrapP (wrapP v d + x) d = wrapP (v + x) d := by
  rw [wrapP_eq hd, wrapP_eq hd, wrapP_eq hd]
  exact Int.emod_add_emod v (2 ^ d.toNat) x
theorem wrapP_sub (v x : Int) : wrapP (wrapP v d - x) d = wrapP (v - x) d := by
  rw [Int.sub_eq_add_neg, wrapP_add hd, ← Int.sub_eq_add_neg]
theorem wrapP_back {v x y : Int} (h : 0 ≤ v ∧ v < 2 ^ d.toNat) (hx : x - y = v) : wrapP (wrapP x d - y) d = v := by
  rw [wrapP_sub hd, hx, wrapP_id hd h]
theorem wrapP_forth {v x y : Int} (h : 0 ≤ v ∧ v < 2 ^ d.toNat) (hx : x + y = v) : wrapP (wrapP x d + y) d = v := by
  rw [wrapP_add hd, hx, wrapP_id hd h]

theorem foreC_ok (kind : Int) {x : C4} (h : x.ok d) : (foreC kind d x).ok d := by
  obtain ⟨ha, hb, hc, he⟩ := h
  unfold foreC
  split
  · exact ⟨wrapP_range hd _, hb, wrapP_range hd _, he⟩
  · split
    · exact ⟨wrapP_range hd _, wrapP_range hd _, wrapP_range hd _, he⟩
    · split
      · exact ⟨wrapP_range hd _, wrapP_range hd _, wrapP_range hd _, he⟩
      · split
        · exact ⟨ha, wrapP_range hd _, wrapP_range hd _, wrapP_range hd _⟩
        · exact ⟨ha, hb, hc, he⟩
theorem backC_ok (kind : Int) {x : C4} (h : x.ok d) : (backC kind d x).ok d := by
  obtain ⟨ha, hb, hc, he⟩ := h
  unfold backC
  split
  · exact ⟨wrapP_range hd _, hb, wrapP_range hd _, he⟩
  · split
    · exact ⟨wrapP_range hd _, wrapP_range hd _, wrapP_range hd _, he⟩
    · split
      · exact ⟨wrapP_range hd _, wrapP_range hd _, wrapP_range hd _, he⟩
      · split
        · exact ⟨ha, wrapP_range hd _, wrapP_range hd _, wrapP_range hd _⟩
        · exact ⟨ha, hb, hc, he⟩

theorem back_fore (kind : Int) {x : C4} (h : x.ok d) : backC kind d (foreC kind d x) = x := by
  obtain ⟨a, b, c, e⟩ := x
  obtain ⟨ha, hb, hc, he⟩ := h
  simp only at ha hb hc he
  by_cases k1 : kind = 1
  · simp only [backC, foreC, if_pos k1]
    rw [wrapP_forth hd ha (by omega), wrapP_forth hd hc (by omega)]
  · by_cases k2 : kind = 2
    · have ht : back2t (foreC 2 d ⟨a, b, c, e⟩) d = fore2t ⟨a, b, c, e⟩ d := by
        simp only [back2t, foreC]
        exact wrapP_back hd (wrapP_range hd _) (by simp only [show ¬ (2 : Int) = 1 by omega, if_false, if_true]; omega)
      have hb2 : back2b (foreC 2 d ⟨a, b, c, e⟩) d = c := by
        rw [back2b, ht]
        simp only [fore2t, foreC, show ¬ (2 : Int) = 1 by omega, if_false, if_true]
        exact wrapP_back hd hc (by omega)
      subst k2
      simp only [backC, show ¬ (2 : Int) = 1 by omega, if_false, if_true]
      rw [ht, hb2]
      simp only [foreC, show ¬ (2 : Int) = 1 by omega, if_false, if_true]
      rw [wrapP_forth hd ha (by omega), wrapP_forth hd hb (by omega)]
    · by_cases k3 : kind = 3
      · have hg : back3g (foreC 3 d ⟨a, b, c, e⟩) d = b := by
          simp only [back3g, foreC, show ¬ (3 : Int) = 1 by omega, show ¬ (3 : Int) = 2 by omega, if_false, if_true]
          exact wrapP_back hd hb (by omega)
        subst k3
        simp only [backC, show ¬ (3 : Int) = 1 by omega, show ¬ (3 : Int) = 2 by omega, if_false, if_true]
        rw [hg]
        simp only [foreC, show ¬ (3 : Int) = 1 by omega, show ¬ (3 : Int) = 2 by omega, if_false, if_true]
        rw [wrapP_forth hd ha (by omega), wrapP_forth hd hc (by omega)]
      · by_cases k4 : kind = 4
        · simp only [backC, foreC, if_neg k1, if_neg k2, if_neg k3, if_pos k4]
          rw [wrapP_forth hd hb (by omega), wrapP_forth hd hc (by omega), wrapP_forth hd he (by omega)]
        · simp only [backC, foreC, if_neg k1, if_neg k2, if_neg k3, if_neg k4]
theorem fore_back (kind : Int) {x : C4} (h : x.ok d) : foreC kind d (backC kind d x) = x := by
  obtain ⟨a, b, c, e⟩ := x
  obtain ⟨ha, hb, hc, he⟩ := h
  simp only at ha hb hc he
  by_cases k1 : kind = 1
  · simp only [backC, foreC, if_pos k1]
    rw [wrapP_back hd ha (by omega), wrapP_back hd hc (by omega)]
  · by_cases k2 : kind = 2
    · subst k2
      have h1 : wrapP (wrapP (b + back2b ⟨a, b, c, e⟩ d) d - back2b ⟨a, b, c, e⟩ d) d = b := wrapP_back hd hb (by omega)
      have ht : fore2t (backC 2 d ⟨a, b, c, e⟩) d = back2t ⟨a, b, c, e⟩ d := by
        simp only [fore2t, backC, show ¬ (2 : Int) = 1 by omega, if_false, if_true]
        rw [h1]
        exact wrapP_forth hd (x := back2t ⟨a, b, c, e⟩ d - foldP b d / 2) (wrapP_range hd _) (by omega)
      have h2 : wrapP (wrapP (c + back2t ⟨a, b, c, e⟩ d) d - back2t ⟨a, b, c, e⟩ d) d = c := wrapP_back hd hc (by omega)
      have h3 : wrapP (back2t ⟨a, b, c, e⟩ d + foldP c d / 2) d = a := wrapP_forth hd (x := a - foldP c d / 2) ha (by omega)
      simp only [foreC, show ¬ (2 : Int) = 1 by omega, if_false, if_true]
      rw [ht]
      simp only [backC, show ¬ (2 : Int) = 1 by omega, if_false, if_true]
      rw [h1, h2, h3]
    · by_cases k3 : kind = 3
      · subst k3
        have h1 : wrapP (wrapP (c + back3g ⟨a, b, c, e⟩ d) d - back3g ⟨a, b, c, e⟩ d) d = c := wrapP_back hd hc (by omega)
        have h2 : wrapP (wrapP (b + back3g ⟨a, b, c, e⟩ d) d - back3g ⟨a, b, c, e⟩ d) d = b := wrapP_back hd hb (by omega)
        have h3 : wrapP (back3g ⟨a, b, c, e⟩ d + (foldP b d + foldP c d) / 4) d = a := wrapP_forth hd ha (by simp only; omega)
        simp only [foreC, backC, show ¬ (3 : Int) = 1 by omega, show ¬ (3 : Int) = 2 by omega, if_false, if_true]
        rw [h1, h2, h3]
      · by_cases k4 : kind = 4
        · simp only [backC, foreC, if_neg k1, if_neg k2, if_neg k3, if_pos k4]
          rw [wrapP_back hd hb (by omega), wrapP_back hd hc (by omega), wrapP_back hd he (by omega)]
        · simp only [backC, foreC, if_neg k1, if_neg k2, if_neg k3, if_neg k4]
end

/-- The samples of place i of planes; all planes of new samples. -/
def colC (p : List (List Int)) (i : Nat) : C4 := ⟨(p.getD 0 []).getD i 0, (p.getD 1 []).getD i 0, (p.getD 2 []).getD i 0, (p.getD 3 []).getD i 0⟩
def hueLL (f : C4 → C4) (p : List (List Int)) (N : Nat) : List (List Int) := (List.range p.length).map fun k => (List.range N).map fun i => (f (colC p i)).sel k
end Go.Proofs.Yticjiodnolngcaa
