/- The plain law of PicSums: one sample turned, another sum. -/
import Derived.Test.YtbmgnclfecejeaaSumsL
import Derived.Test.YtbmgnclfecejeaaPicSum
set_option linter.unusedSimpArgs false
set_option linter.unusedVariables false
namespace Go.Proofs.Ytbmgnclfecejeaa
open Go.RowKit

theorem split_at {α : Type} {l : List α} {i : Nat} {z : α} (h : i < l.length) : l = l.take i ++ ([l.getD i z] ++ l.drop (i + 1)) := by
  have e : l.getD i z = l[i] := by simp [List.getD, List.getElem?_eq_getElem h]
  rw [e]
  simp
theorem set_at {α : Type} {l : List α} {i : Nat} {z : α} (h : i < l.length) : l.set i z = l.take i ++ ([z] ++ l.drop (i + 1)) := by
  rw [List.set_eq_take_append_cons_drop, if_pos h]
  rfl
theorem pl2_append (a b : List Int) : pl2 (a ++ b) = pl2 a ++ pl2 b := by simp [pl2]
theorem sumP_append (a b : List (List Int)) : sumP (a ++ b) = sumP a ++ sumP b := by simp [sumP]
theorem pl2_one (v : Int) : pl2 [v] = [v / 256, v % 256] := by simp [pl2]
theorem sumP_one (l : List Int) : sumP [l] = pl2 l := by simp [sumP]

theorem sum_set {W H d : Int} {p : List (List Int)} {i k : Nat} (hB : isB ⟨W, H, d, p⟩ = true) (hi : i < p.length) (hk : k < (p.getD i []).length) {v : Int} (hv : 0 ≤ v ∧ v < 2 ^ d.toNat) :
    isB ⟨W, H, d, p.set i ((p.getD i []).set k v)⟩ = true ∧ ((sumV ⟨W, H, d, p⟩ == sumV ⟨W, H, d, p.set i ((p.getD i []).set k v)⟩) == (v == (p.getD i []).getD k 0)) = true := by
  have hB2 : isB ⟨W, H, d, p.set i ((p.getD i []).set k v)⟩ = true := by
    rw [isB, Bool.and_eq_true] at hB ⊢
    obtain ⟨h1, h2⟩ := hB
    refine ⟨by simpa using h1, ?_⟩
    rw [List.all_eq_true] at h2 ⊢
    intro l hl
    rcases List.mem_or_eq_of_mem_set hl with hl | rfl
    · exact h2 l hl
    · have h3 := h2 (p.getD i []) (by simp [List.getD, List.getElem?_eq_getElem hi])
      rw [okPl, Bool.and_eq_true, decide_eq_true_eq, List.all_eq_true] at h3 ⊢
      refine ⟨by simpa using h3.1, fun x hx => ?_⟩
      rcases List.mem_or_eq_of_mem_set hx with hx | rfl
      · exact h3.2 x hx
      · simp only [okV, decide_eq_true_eq]
        exact hv
  refine ⟨hB2, ?_⟩
  obtain ⟨_, _, h3, _, h5⟩ := isB_sum hB
  simp only at h3 h5
  have hpw := (pow_16 (k := d.toNat) (by omega) (by omega)).2.1
  have hx := (h5 (p.getD i []) (by simp [List.getD, List.getElem?_eq_getElem hi])).2.2 ((p.getD i []).getD k 0) (by
    generalize p.getD i [] = l at *
    simp [List.getD, List.getElem?_eq_getElem hk])
  have e1 : sumV ⟨W, H, d, p⟩ = crc (sumL ⟨W, H, d, p⟩) := by rw [sumV, if_pos hB]
  have e2 : sumV ⟨W, H, d, p.set i ((p.getD i []).set k v)⟩ = crc (sumL ⟨W, H, d, p.set i ((p.getD i []).set k v)⟩) := by rw [sumV, if_pos hB2]
  have hp := split_at (z := []) hi
  have hp2 := set_at (z := (p.getD i []).set k v) hi
  generalize hl : p.getD i [] = l at *
  have hl1 := split_at (z := 0) hk
  have hl2 := set_at (z := v) hk
  generalize l.getD k 0 = x at *
  have f1 : sumL ⟨W, H, d, p⟩ = ([W, H, d, (p.length : Int)] ++ sumP (p.take i) ++ pl2 (l.take k)) ++ ([x / 256, x % 256] ++ (pl2 (l.drop (k + 1)) ++ sumP (p.drop (i + 1)))) := by
    rw [sumL]
    show _ ++ sumP p = _
    rw [show sumP p = sumP (p.take i) ++ (pl2 l ++ sumP (p.drop (i + 1))) by rw [← sumP_one, ← sumP_append, ← sumP_append, ← hp]]
    rw [show pl2 l = pl2 (l.take k) ++ ([x / 256, x % 256] ++ pl2 (l.drop (k + 1))) by rw [← pl2_one, ← pl2_append, ← pl2_append, ← hl1]]
    simp only [List.append_assoc]
  have f2 : sumL ⟨W, H, d, p.set i (l.set k v)⟩ = ([W, H, d, (p.length : Int)] ++ sumP (p.take i) ++ pl2 (l.take k)) ++ ([v / 256, v % 256] ++ (pl2 (l.drop (k + 1)) ++ sumP (p.drop (i + 1)))) := by
    rw [sumL]
    show [W, H, d, ((p.set i (l.set k v)).length : Int)] ++ sumP (p.set i (l.set k v)) = _
    rw [List.length_set, hp2, sumP_append, sumP_append, sumP_one, hl2, pl2_append, pl2_append, pl2_one]
    simp only [List.append_assoc]
  rw [e1, e2, f1, f2]
  by_cases hvx : v = x
  · subst hvx
    simp
  · have hn : ¬ crc (([W, H, d, (p.length : Int)] ++ sumP (p.take i) ++ pl2 (l.take k)) ++ ([x / 256, x % 256] ++ (pl2 (l.drop (k + 1)) ++ sumP (p.drop (i + 1))))) =
        crc (([W, H, d, (p.length : Int)] ++ sumP (p.take i) ++ pl2 (l.take k)) ++ ([v / 256, v % 256] ++ (pl2 (l.drop (k + 1)) ++ sumP (p.drop (i + 1))))) := by
      intro h
      have := (crc_two (by omega) (by omega) (by omega) (by omega)).1 h
      omega
    rw [beq_eq_false_iff_ne.2 hn, beq_eq_false_iff_ne.2 hvx]
    rfl
end Go.Proofs.Ytbmgnclfecejeaa
