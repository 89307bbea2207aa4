/- Parts cut and pasted, sample by sample: no program here. -/
import Derived.Test.YtbmgnclfecejeaaPicPasteY
set_option linter.unusedSimpArgs false
set_option linter.unusedVariables false
namespace Go.Proofs.Ytbmgnclfecejeaa
open Go.RowKit

theorem getD_append' {a b : List Int} {i : Nat} : (a ++ b).getD i 0 = if i < a.length then a.getD i 0 else b.getD (i - a.length) 0 := by
  simp only [List.getD_eq_getElem?_getD, List.getElem?_append]
  split <;> rfl
theorem getD_drop' {a : List Int} {n i : Nat} : (a.drop n).getD i 0 = a.getD (n + i) 0 := by simp [List.getD_eq_getElem?_getD]
theorem getD_take' {a : List Int} {n i : Nat} (h : i < n) : (a.take n).getD i 0 = a.getD i 0 := by simp [List.getD_eq_getElem?_getD, h]
theorem ext_get {a b : List Int} (h1 : a.length = b.length) (h : ∀ i, i < a.length → a.getD i 0 = b.getD i 0) : a = b := by
  refine List.ext_getElem h1 fun i h2 h3 => ?_
  have := h i h2
  simpa [List.getD, h2, h3] using this
theorem cutPl_get {l : List Int} {W x y w : Nat} (hw : 0 < w) : ∀ k, (∀ r, r < k → (y + r) * W + x + w ≤ l.length) → ∀ i, i < k * w → (cutPl l W x y w k).getD i 0 = l.getD ((y + i / w) * W + x + i % w) 0
  | 0, _, i, hi => by omega
  | k + 1, h, i, hi => by
    have hl := cutPl_length (l := l) (W := W) (x := x) (y := y) (w := w) k (fun r hr => h r (by omega))
    rw [Nat.succ_mul] at hi
    rw [cutPl, getD_append', hl]
    by_cases hk : i < k * w
    · rw [if_pos hk]
      exact cutPl_get hw k (fun r hr => h r (by omega)) i hk
    · rw [if_neg hk, getD_take' (by omega), getD_drop']
      obtain ⟨r, rfl⟩ : ∃ r, i = k * w + r := ⟨i - k * w, by omega⟩
      have h1 : (k * w + r) / w = k := by rw [Nat.mul_comm, Nat.mul_add_div hw, Nat.div_eq_of_lt (by omega)]; simp
      have h2 : (k * w + r) % w = r := by rw [Nat.mul_comm, Nat.mul_add_mod, Nat.mod_eq_of_lt (by omega)]
      rw [h1, h2]
      congr 1
      omega
theorem splI_get {l l2 : List Int} {off i : Nat} (h : off + l2.length ≤ l.length) : (splI l off l2).getD i 0 = if off ≤ i ∧ i < off + l2.length then l2.getD (i - off) 0 else l.getD i 0 := by
  rw [splI, getD_append', getD_append', List.length_take, Nat.min_eq_left (by omega)]
  by_cases h1 : i < off
  · rw [if_pos h1, if_neg (by omega), getD_take' h1]
  · rw [if_neg h1]
    by_cases h2 : i - off < l2.length
    · rw [if_pos h2, if_pos (by omega)]
    · rw [if_neg h2, if_neg (by omega), getD_drop']
      congr 1
      omega
theorem row_iff {W x a q i : Nat} (hx : x + a ≤ W) (ha : 0 < a) : (q * W + x ≤ i ∧ i < q * W + x + a) ↔ (i / W = q ∧ x ≤ i % W ∧ i % W < x + a) := by
  have hW : 0 < W := by omega
  have h1 := Nat.div_add_mod i W
  have h2 := Nat.mod_lt i hW
  constructor
  · intro ⟨h3, h4⟩
    have h5 : i / W = q := by
      refine Nat.div_eq_of_lt_le (by omega) ?_
      rw [Nat.succ_mul]
      omega
    rw [h5, Nat.mul_comm] at h1
    omega
  · intro ⟨h3, h4, h5⟩
    rw [h3, Nat.mul_comm] at h1
    omega
theorem pastePl_get {l part : List Int} {W x y a : Nat} (hx : x + a ≤ W) (ha : 0 < a) : ∀ k, (∀ r, r < k → (y + r) * W + x + a ≤ l.length) → k * a ≤ part.length → ∀ i,
    (pastePl l W x y part a k).getD i 0 = if y ≤ i / W ∧ i / W < y + k ∧ x ≤ i % W ∧ i % W < x + a then part.getD ((i / W - y) * a + (i % W - x)) 0 else l.getD i 0
  | 0, _, _, i => by rw [if_neg (by omega)]; rfl
  | k + 1, h, hp, i => by
    rw [Nat.succ_mul] at hp
    have hpl := pastePl_length (part := part) k (fun r hr => h r (Nat.lt_succ_of_lt hr))
    have hr := h k (by omega)
    have hl2 : ((part.drop (k * a)).take a).length = a := by rw [List.length_take, List.length_drop]; omega
    rw [pastePl, splI_get (by rw [hl2, hpl]; omega), hl2]
    have hri := row_iff (q := y + k) (i := i) hx ha
    by_cases hc : (y + k) * W + x ≤ i ∧ i < (y + k) * W + x + a
    · rw [if_pos hc]
      obtain ⟨h3, h4, h5⟩ := hri.1 hc
      have h1 := Nat.div_add_mod i W
      rw [h3, Nat.mul_comm] at h1
      rw [if_pos (by omega), getD_take' (by omega), getD_drop', h3]
      congr 1
      rw [show y + k - y = k by omega]
      omega
    · rw [if_neg hc, pastePl_get hx ha k (fun r hr => h r (by omega)) (by omega) i]
      have hn : ¬ (i / W = y + k ∧ x ≤ i % W ∧ i % W < x + a) := fun hh => hc (hri.2 hh)
      by_cases hd : y ≤ i / W ∧ i / W < y + k ∧ x ≤ i % W ∧ i % W < x + a
      · rw [if_pos hd, if_pos (by omega)]
      · rw [if_neg hd, if_neg (by omega)]

/-- The whole, cut, is the whole. -/
theorem cutPl_all {l : List Int} {W H : Nat} (hl : l.length = W * H) (hW : 0 < W) : cutPl l W 0 0 W H = l := by
  have hin : ∀ r, r < H → (0 + r) * W + 0 + W ≤ l.length := fun r hr => rows_in (H := H) hl (by omega) (by omega)
  have hlen := cutPl_length (l := l) (W := W) (x := 0) (y := 0) (w := W) H hin
  refine ext_get (by rw [hlen, hl, Nat.mul_comm]) fun i hi => ?_
  rw [hlen] at hi
  rw [cutPl_get hW H hin i hi]
  congr 1
  have := Nat.div_add_mod i W
  rw [Nat.mul_comm] at this
  rw [Nat.zero_add]
  omega
theorem pastePl_all {l : List Int} {W H : Nat} (hl : l.length = W * H) (hW : 0 < W) : pastePl l W 0 0 l W H = l := by
  have hin : ∀ r, r < H → (0 + r) * W + 0 + W ≤ l.length := fun r hr => rows_in (H := H) hl (by omega) (by omega)
  refine ext_get (pastePl_length H hin) fun i _ => ?_
  rw [pastePl_get (by omega) hW H hin (by rw [hl, Nat.mul_comm]; exact Nat.le_refl _)]
  split
  · congr 1
    have := Nat.div_add_mod i W
    rw [Nat.mul_comm] at this
    simp
    omega
  · rfl
theorem cutLL_all {p : List (List Int)} {W H : Nat} (hl : ∀ l ∈ p, l.length = W * H) (hW : 0 < W) : cutLL p W 0 0 W H = p := by
  rw [cutLL]
  conv => rhs; rw [← List.map_id p]
  exact List.map_congr_left fun l h => cutPl_all (hl l h) hW
theorem pasteLL_all {p : List (List Int)} {W H : Nat} (hl : ∀ l ∈ p, l.length = W * H) (hW : 0 < W) : pasteLL p p W 0 0 W H p.length = p :=
  ext_getD (pasteLL_length _ _ _ _ _ _ _ _) fun i hi => by
    rw [pasteLL_length] at hi
    rw [pasteLL_get _ _ _ _ _ _ _ _ hi, if_pos hi]
    refine pastePl_all (hl _ ?_) hW
    rw [List.getD_eq_getElem?_getD, List.getElem?_eq_getElem hi]
    exact List.getElem_mem hi
end Go.Proofs.Ytbmgnclfecejeaa
