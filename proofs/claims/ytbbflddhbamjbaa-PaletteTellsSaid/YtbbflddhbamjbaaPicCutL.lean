/- A part of a picture, sample by sample: no program here. -/
import Derived.Test.YtbbflddhbamjbaaPicCut
import Derived.Test.YtbbflddhbamjbaaPicFacts
set_option linter.unusedSimpArgs false
set_option linter.unusedVariables false
namespace Go.Proofs.Ytbbflddhbamjbaa
open Go.RowKit

theorem getD_append' {a b : List Int} {i : Nat} : (a ++ b).getD i 0 = if i < a.length then a.getD i 0 else b.getD (i - a.length) 0 := by
  simp only [List.getD_eq_getElem?_getD, List.getElem?_append]
  split <;> rfl
theorem getD_drop' {a : List Int} {n i : Nat} : (a.drop n).getD i 0 = a.getD (n + i) 0 := by simp [List.getD_eq_getElem?_getD]
theorem getD_take' {a : List Int} {n i : Nat} (h : i < n) : (a.take n).getD i 0 = a.getD i 0 := by simp [List.getD_eq_getElem?_getD, h]
theorem ext_get {a b : List Int} (h1 : a.length = b.length) (h : ∀ i, i < a.length → a.getD i 0 = b.getD i 0) : a = b := by
  refine List.ext_getElem h1 fun i h2 h3 => ?_
  have := h i h2
  simpa [List.getD, h2, h3] using this
theorem cutPl_get {l : List Int} {W x y w : Nat} (hw : 0 < w) : ∀ k, (∀ r, r < k → (y + r) * W + x + w ≤ l.length) → ∀ i, i < k * w → (cutPl l W x y w k).getD i 0 = l.getD ((y + i / w) * W + x + i % w) 0
  | 0, _, i, hi => by omega
  | k + 1, h, i, hi => by
    have hl := cutPl_length (l := l) (W := W) (x := x) (y := y) (w := w) k (fun r hr => h r (by omega))
    rw [Nat.succ_mul] at hi
    rw [cutPl, getD_append', hl]
    by_cases hk : i < k * w
    · rw [if_pos hk]
      exact cutPl_get hw k (fun r hr => h r (by omega)) i hk
    · rw [if_neg hk, getD_take' (by omega), getD_drop']
      obtain ⟨r, rfl⟩ : ∃ r, i = k * w + r := ⟨i - k * w, by omega⟩
      have h1 : (k * w + r) / w = k := by rw [Nat.mul_comm, Nat.mul_add_div hw, Nat.div_eq_of_lt (by omega)]; simp
      have h2 : (k * w + r) % w = r := by rw [Nat.mul_comm, Nat.mul_add_mod, Nat.mod_eq_of_lt (by omega)]
      rw [h1, h2]
      congr 1
      omega
theorem cutPl_mem {l : List Int} {W x y w : Nat} {v : Int} : ∀ k, v ∈ cutPl l W x y w k → v ∈ l
  | 0, h => by simp [cutPl] at h
  | k + 1, h => by
    rw [cutPl, List.mem_append] at h
    rcases h with h | h
    · exact cutPl_mem k h
    · exact List.mem_of_mem_drop (List.mem_of_mem_take h)
theorem ins_rows {W H x y a b L : Nat} (hi : insB W H x y a b = true) (hL : L = W * H) : (∀ r, r < b → (y + r) * W + x + a ≤ L) ∧ x + a ≤ W ∧ y + b ≤ H ∧ 0 < a ∧ 0 < b := by
  simp only [insB, decide_eq_true_eq] at hi
  exact ⟨fun r hr => rows_in (H := H) hL (by omega) (by omega), by omega, by omega, by omega, by omega⟩
theorem cutLL_isB {W H x y a b : Nat} {d : Int} {p : List (List Int)} (h : isB ⟨W, H, d, p⟩ = true) (hi : insB W H x y a b = true) : isB ⟨a, b, d, cutLL p W x y a b⟩ = true := by
  obtain ⟨b1, b2, b3, b4, b5, b6, b7, b8, b9⟩ := isB_all h
  have hr := ins_rows (L := W * H) hi rfl
  refine isB_mk (by omega) (by omega) (by omega) (by omega) b5 b6 (by rw [cutLL, List.length_map]; exact b7) (by rw [cutLL, List.length_map]; exact b8) fun l hl => ?_
  rw [cutLL, List.mem_map] at hl
  obtain ⟨l0, h0, rfl⟩ := hl
  obtain ⟨h1, h2⟩ := b9 l0 h0
  refine ⟨by rw [cutPl_length b (by rw [h1]; exact hr.1), Nat.mul_comm], fun v hv => h2 v (cutPl_mem b hv)⟩
end Go.Proofs.Ytbbflddhbamjbaa
