/- Fore and back of whole pictures undo each other. No program. -/
import Derived.Test.YticjiodnolngcaaHueMix
set_option linter.unusedSimpArgs false
set_option linter.unusedVariables false
namespace Go.Proofs.Yticjiodnolngcaa
open Go.RowKit

def C4.trunc (n : Nat) (x : C4) : C4 := ⟨if 0 < n then x.a else 0, if 1 < n then x.b else 0, if 2 < n then x.c else 0, if 3 < n then x.e else 0⟩
theorem getD_hueLL {f : C4 → C4} {p : List (List Int)} {N i j : Nat} (hi : i < N) : ((hueLL f p N).getD j []).getD i 0 = if j < p.length then (f (colC p i)).sel j else 0 := by
  by_cases hj : j < p.length
  · rw [if_pos hj]
    simp [hueLL, List.getD, hj, hi]
  · rw [if_neg hj]
    simp [hueLL, List.getD, hj]
theorem colC_hueLL {f : C4 → C4} {p : List (List Int)} {N i : Nat} (hi : i < N) : colC (hueLL f p N) i = (f (colC p i)).trunc p.length := by
  simp only [colC, C4.trunc, getD_hueLL hi]
  simp [C4.sel]
theorem hueLL_length (f : C4 → C4) (p : List (List Int)) (N : Nat) : (hueLL f p N).length = p.length := by simp [hueLL]
theorem hueLL_inv {f g : C4 → C4} {p : List (List Int)} {N : Nat} (hp : p.length ≤ 4) (hl : ∀ l ∈ p, l.length = N) (h : ∀ i, i < N → ∀ j, j < p.length → (g ((f (colC p i)).trunc p.length)).sel j = (colC p i).sel j) : hueLL g (hueLL f p N) N = p := by
  refine List.ext_getElem (by simp [hueLL]) fun j h1 h2 => ?_
  have hlj := hl p[j] (List.getElem_mem h2)
  simp only [hueLL, List.getElem_map, List.getElem_range, List.length_map, List.length_range]
  refine List.ext_getElem (by simp [hlj]) fun i h3 h4 => ?_
  simp only [List.getElem_map, List.getElem_range]
  have hi : i < N := by rw [← hlj]; exact h4
  have e : (g (colC (hueLL f p N) i)).sel j = (colC p i).sel j := by rw [colC_hueLL hi]; exact h i hi j h2
  have e2 : (colC p i).sel j = (p.getD j []).getD i 0 := by
    rcases (show j = 0 ∨ j = 1 ∨ j = 2 ∨ j = 3 by omega) with rfl | rfl | rfl | rfl <;> rfl
  have e3 : (p.getD j []).getD i 0 = p[j][i] := by simp [List.getD, h2, h4]
  exact (e.trans e2).trans e3

theorem colC_zero {p : List (List Int)} (i : Nat) : (colC p i).trunc p.length = colC p i := by
  have key : ∀ j, ¬ j < p.length → (p.getD j []).getD i 0 = 0 := fun j hj => by simp [List.getD, List.getElem?_eq_none (show p.length ≤ j by omega)]
  simp only [C4.trunc, colC]
  congr 1
  all_goals
    split
    · rfl
    · rename_i hj
      exact (key _ hj).symm
section
variable {d : Int} (hd : 1 ≤ d ∧ d ≤ 16)
include hd
theorem inv_bf {n : Nat} {k : Int} (hm : mayB n k = true) {x : C4} (hx : x.ok d) (hz : x.trunc n = x) : ∀ j, j < n → (backC k d ((foreC k d x).trunc n)).sel j = x.sel j := by
  intro j hj
  simp only [mayB, decide_eq_true_eq] at hm
  have hall : (foreC k d x).trunc n = foreC k d x ∨ k = 4 := by
    by_cases h4 : n = 4
    · subst h4
      exact .inl rfl
    · obtain ⟨a, b, c, e⟩ := x
      simp only [C4.trunc, C4.mk.injEq] at hz
      rcases hm.2.2 with rfl | ⟨rfl, h3⟩ | ⟨rfl, h3⟩ | ⟨rfl, h3⟩ | ⟨rfl, _⟩
      · left
        rw [foreC_o (by omega) (by omega) (by omega) (by omega)]
        simp only [C4.trunc, C4.mk.injEq]
        exact hz
      · have hn : n = 3 := by omega
        subst hn
        have he := hz.2.2.2
        simp at he
        subst he
        exact .inl rfl
      · have hn : n = 3 := by omega
        subst hn
        have he := hz.2.2.2
        simp at he
        subst he
        exact .inl rfl
      · have hn : n = 3 := by omega
        subst hn
        have he := hz.2.2.2
        simp at he
        subst he
        exact .inl rfl
      · exact .inr rfl
  rcases hall with h | rfl
  · rw [h, back_fore hd k hx]
  · obtain ⟨a, b, c, e⟩ := x
    obtain ⟨ha, hb, hc, he⟩ := hx
    simp only at ha hb hc he
    have e1 := wrapP_forth hd hb (x := b - a) (y := a) (by omega)
    have e2 := wrapP_forth hd hc (x := c - b) (y := b) (by omega)
    have e3 := wrapP_forth hd he (x := e - c) (y := c) (by omega)
    rw [foreC_4]
    rcases (show j = 0 ∨ j = 1 ∨ j = 2 ∨ j = 3 by omega) with rfl | rfl | rfl | rfl
    · simp only [C4.trunc, if_pos hj]
      rfl
    · simp only [C4.trunc, if_pos hj, if_pos (show 0 < n by omega), backC_4, C4.sel]
      exact e1
    · simp only [C4.trunc, if_pos hj, if_pos (show 0 < n by omega), if_pos (show 1 < n by omega), backC_4, C4.sel]
      rw [e1]
      exact e2
    · simp only [C4.trunc, if_pos hj, if_pos (show 0 < n by omega), if_pos (show 1 < n by omega), if_pos (show 2 < n by omega), backC_4, C4.sel]
      rw [e1, e2]
      exact e3
theorem inv_fb {n : Nat} {k : Int} (hm : mayB n k = true) {x : C4} (hx : x.ok d) (hz : x.trunc n = x) : ∀ j, j < n → (foreC k d ((backC k d x).trunc n)).sel j = x.sel j := by
  intro j hj
  simp only [mayB, decide_eq_true_eq] at hm
  have hall : (backC k d x).trunc n = backC k d x ∨ k = 4 := by
    by_cases h4 : n = 4
    · subst h4
      exact .inl rfl
    · obtain ⟨a, b, c, e⟩ := x
      simp only [C4.trunc, C4.mk.injEq] at hz
      rcases hm.2.2 with rfl | ⟨rfl, h3⟩ | ⟨rfl, h3⟩ | ⟨rfl, h3⟩ | ⟨rfl, _⟩
      · left
        rw [backC_o (by omega) (by omega) (by omega) (by omega)]
        simp only [C4.trunc, C4.mk.injEq]
        exact hz
      · have hn : n = 3 := by omega
        subst hn
        have he := hz.2.2.2
        simp at he
        subst he
        exact .inl rfl
      · have hn : n = 3 := by omega
        subst hn
        have he := hz.2.2.2
        simp at he
        subst he
        exact .inl rfl
      · have hn : n = 3 := by omega
        subst hn
        have he := hz.2.2.2
        simp at he
        subst he
        exact .inl rfl
      · exact .inr rfl
  rcases hall with h | rfl
  · rw [h, fore_back hd k hx]
  · obtain ⟨a, b, c, e⟩ := x
    obtain ⟨ha, hb, hc, he⟩ := hx
    simp only at ha hb hc he
    rw [backC_4]
    have e1 := wrapP_back hd hb (x := b + a) (y := a) (by omega)
    have e2 := wrapP_back hd hc (x := c + wrapP (b + a) d) (y := wrapP (b + a) d) (by omega)
    have e3 := wrapP_back hd he (x := e + wrapP (c + wrapP (b + a) d) d) (y := wrapP (c + wrapP (b + a) d) d) (by omega)
    rcases (show j = 0 ∨ j = 1 ∨ j = 2 ∨ j = 3 by omega) with rfl | rfl | rfl | rfl
    · simp only [C4.trunc, if_pos hj]
      rfl
    · simp only [C4.trunc, if_pos hj, if_pos (show 0 < n by omega), foreC_4, C4.sel]
      exact e1
    · simp only [C4.trunc, if_pos hj, if_pos (show 0 < n by omega), if_pos (show 1 < n by omega), foreC_4, C4.sel]
      exact e2
    · simp only [C4.trunc, if_pos hj, if_pos (show 0 < n by omega), if_pos (show 1 < n by omega), if_pos (show 2 < n by omega), foreC_4, C4.sel]
      exact e3
end
theorem hue_bf {W H : Nat} {d : Int} {p : List (List Int)} (h : isB ⟨W, H, d, p⟩ = true) {k : Int} (hm : mayB p.length k = true) : hueLL (backC k d) (hueLL (foreC k d) p (W * H)) (W * H) = p := by
  obtain ⟨_, _, _, _, b5, b6, _, b8, b9⟩ := isB_all h
  exact hueLL_inv b8 (fun l hl => (b9 l hl).1) (fun i _ => inv_bf ⟨b5, b6⟩ hm (colC_ok h i) (colC_zero i))
theorem hue_fb {W H : Nat} {d : Int} {p : List (List Int)} (h : isB ⟨W, H, d, p⟩ = true) {k : Int} (hm : mayB p.length k = true) : hueLL (foreC k d) (hueLL (backC k d) p (W * H)) (W * H) = p := by
  obtain ⟨_, _, _, _, b5, b6, _, b8, b9⟩ := isB_all h
  exact hueLL_inv b8 (fun l hl => (b9 l hl).1) (fun i _ => inv_fb ⟨b5, b6⟩ hm (colC_ok h i) (colC_zero i))
end Go.Proofs.Yticjiodnolngcaa
