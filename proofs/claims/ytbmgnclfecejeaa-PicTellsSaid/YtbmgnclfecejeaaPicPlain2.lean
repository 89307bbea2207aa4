/- Cut and Paste are inverse; what they make are pictures. No program here. -/
import Derived.Test.YtbmgnclfecejeaaPicPlain
set_option linter.unusedSimpArgs false
set_option linter.unusedVariables false
namespace Go.Proofs.Ytbmgnclfecejeaa
open Go.RowKit

theorem cutPl_mem {l : List Int} {W x y w : Nat} {v : Int} : ∀ k, v ∈ cutPl l W x y w k → v ∈ l
  | 0, h => by simp [cutPl] at h
  | k + 1, h => by
    rw [cutPl, List.mem_append] at h
    rcases h with h | h
    · exact cutPl_mem k h
    · exact List.mem_of_mem_drop (List.mem_of_mem_take h)
theorem splI_mem {l l2 : List Int} {off : Nat} {v : Int} (h : v ∈ splI l off l2) : v ∈ l ∨ v ∈ l2 := by
  rw [splI, List.mem_append, List.mem_append] at h
  rcases h with h | h | h
  · exact .inl (List.mem_of_mem_take h)
  · exact .inr h
  · exact .inl (List.mem_of_mem_drop h)
theorem pastePl_mem {l part : List Int} {W x y a : Nat} {v : Int} : ∀ k, v ∈ pastePl l W x y part a k → v ∈ l ∨ v ∈ part
  | 0, h => .inl h
  | k + 1, h => by
    rcases splI_mem h with h | h
    · exact pastePl_mem k h
    · exact .inr (List.mem_of_mem_drop (List.mem_of_mem_take h))
theorem ins_rows {W H x y a b L : Nat} (hi : insB W H x y a b = true) (hL : L = W * H) : (∀ r, r < b → (y + r) * W + x + a ≤ L) ∧ x + a ≤ W ∧ y + b ≤ H ∧ 0 < a ∧ 0 < b := by
  simp only [insB, decide_eq_true_eq] at hi
  exact ⟨fun r hr => rows_in (H := H) hL (by omega) (by omega), by omega, by omega, by omega, by omega⟩
theorem isB_mk {W H : Nat} {d : Int} {p : List (List Int)} (w1 : 1 ≤ W) (w2 : W ≤ 64) (h1 : 1 ≤ H) (h2 : H ≤ 64) (d1 : 1 ≤ d) (d2 : d ≤ 16) (n1 : 1 ≤ p.length) (n2 : p.length ≤ 4) (hp : ∀ l ∈ p, l.length = W * H ∧ ∀ v ∈ l, okV d v = true) : isB ⟨W, H, d, p⟩ = true := by
  rw [isB, Bool.and_eq_true, List.all_eq_true]
  refine ⟨by simp only [possB, decide_eq_true_eq]; omega, fun l hl => ?_⟩
  rw [okPl, Bool.and_eq_true, decide_eq_true_eq, List.all_eq_true]
  exact ⟨by rw [(hp l hl).1]; simp, (hp l hl).2⟩
theorem isB_all {W H : Nat} {d : Int} {p : List (List Int)} (h : isB ⟨W, H, d, p⟩ = true) : 1 ≤ W ∧ W ≤ 64 ∧ 1 ≤ H ∧ H ≤ 64 ∧ 1 ≤ d ∧ d ≤ 16 ∧ 1 ≤ p.length ∧ p.length ≤ 4 ∧ ∀ l ∈ p, l.length = W * H ∧ ∀ v ∈ l, okV d v = true := by
  have hl := plane_len h
  rw [isB, Bool.and_eq_true, List.all_eq_true] at h
  have hp := h.1
  simp only [possB, decide_eq_true_eq] at hp
  refine ⟨by omega, by omega, by omega, by omega, by omega, by omega, by omega, by omega, fun l hm => ⟨?_, ?_⟩⟩
  · have := hl l hm
    rw [← Int.natCast_mul] at this
    omega
  · have := h.2 l hm
    rw [okPl, Bool.and_eq_true, List.all_eq_true] at this
    exact this.2
theorem cutLL_isB {W H x y a b : Nat} {d : Int} {p : List (List Int)} (h : isB ⟨W, H, d, p⟩ = true) (hi : insB W H x y a b = true) : isB ⟨a, b, d, cutLL p W x y a b⟩ = true := by
  obtain ⟨b1, b2, b3, b4, b5, b6, b7, b8, b9⟩ := isB_all h
  have hr := ins_rows (L := W * H) hi rfl
  refine isB_mk (by omega) (by omega) (by omega) (by omega) b5 b6 (by rw [cutLL, List.length_map]; exact b7) (by rw [cutLL, List.length_map]; exact b8) fun l hl => ?_
  rw [cutLL, List.mem_map] at hl
  obtain ⟨l0, h0, rfl⟩ := hl
  obtain ⟨h1, h2⟩ := b9 l0 h0
  refine ⟨by rw [cutPl_length b (by rw [h1]; exact hr.1), Nat.mul_comm], fun v hv => h2 v (cutPl_mem b hv)⟩
theorem pasteLL_mem {p q : List (List Int)} {W x y a b : Nat} {l : List Int} (h : l ∈ pasteLL p q W x y a b p.length) : ∃ i, i < p.length ∧ l = pastePl (p.getD i []) W x y (q.getD i []) a b := by
  rw [pasteLL, List.mem_map] at h
  obtain ⟨i, hi, rfl⟩ := h
  rw [List.mem_range] at hi
  exact ⟨i, hi, by rw [if_pos hi]⟩
theorem mem_getD {p : List (List Int)} {i : Nat} (hi : i < p.length) : p.getD i [] ∈ p := by
  rw [List.getD_eq_getElem?_getD, List.getElem?_eq_getElem hi]
  exact List.getElem_mem hi
theorem pasteLL_isB {W H x y a b : Nat} {d : Int} {p q : List (List Int)} (h : isB ⟨W, H, d, p⟩ = true) (h2 : isB ⟨a, b, d, q⟩ = true) (hlen : p.length = q.length) (hi : insB W H x y a b = true) : isB ⟨W, H, d, pasteLL p q W x y a b p.length⟩ = true := by
  obtain ⟨b1, b2, b3, b4, b5, b6, b7, b8, b9⟩ := isB_all h
  obtain ⟨_, _, _, _, _, _, _, _, c9⟩ := isB_all h2
  have hr := ins_rows (L := W * H) hi rfl
  refine isB_mk b1 b2 b3 b4 b5 b6 (by rw [pasteLL_length]; exact b7) (by rw [pasteLL_length]; exact b8) fun l hl => ?_
  obtain ⟨i, hi, rfl⟩ := pasteLL_mem hl
  obtain ⟨h1, h2⟩ := b9 _ (mem_getD hi)
  obtain ⟨h3, h4⟩ := c9 _ (mem_getD (p := q) (i := i) (by omega))
  refine ⟨by rw [pastePl_length b (by rw [h1]; exact hr.1), h1], fun v hv => ?_⟩
  rcases pastePl_mem b hv with hv | hv
  · exact h2 v hv
  · exact h4 v hv

theorem paste_cut {l : List Int} {W H x y a b : Nat} (hl : l.length = W * H) (hi : insB W H x y a b = true) : pastePl l W x y (cutPl l W x y a b) a b = l := by
  obtain ⟨hr, hx, hy, ha, hb⟩ := ins_rows (L := l.length) hi hl
  have hcl := cutPl_length (l := l) (W := W) (x := x) (y := y) (w := a) b hr
  refine ext_get (pastePl_length b hr) fun i hi' => ?_
  rw [pastePl_get hx ha b hr (by rw [hcl]; exact Nat.le_refl _)]
  split
  · rename_i hc
    obtain ⟨c1, c2, c3, c4⟩ := hc
    have h1 : (i / W - y) * a + (i % W - x) < b * a := by
      have : (i / W - y + 1) * a ≤ b * a := Nat.mul_le_mul_right a (by omega)
      rw [Nat.succ_mul] at this
      omega
    rw [cutPl_get ha b hr _ h1]
    have h2 : ((i / W - y) * a + (i % W - x)) / a = i / W - y := by rw [Nat.mul_comm, Nat.mul_add_div ha, Nat.div_eq_of_lt (show i % W - x < a by omega)]; simp
    have h3 : ((i / W - y) * a + (i % W - x)) % a = i % W - x := by rw [Nat.mul_comm, Nat.mul_add_mod, Nat.mod_eq_of_lt (show i % W - x < a by omega)]
    rw [h2, h3]
    congr 1
    have h4 := Nat.div_add_mod i W
    rw [Nat.mul_comm] at h4
    rw [show y + (i / W - y) = i / W by omega]
    omega
  · rfl
theorem cut_paste {l part : List Int} {W H x y a b : Nat} (hl : l.length = W * H) (hp : part.length = a * b) (hi : insB W H x y a b = true) : cutPl (pastePl l W x y part a b) W x y a b = part := by
  obtain ⟨hr, hx, hy, ha, hb⟩ := ins_rows (L := l.length) hi hl
  have hpl := pastePl_length (part := part) b hr
  have hr' : ∀ r, r < b → (y + r) * W + x + a ≤ (pastePl l W x y part a b).length := by rw [hpl]; exact hr
  have hcl := cutPl_length (w := a) b hr'
  refine ext_get (by rw [hcl, hp, Nat.mul_comm]) fun i hi' => ?_
  rw [hcl] at hi'
  have hW : 0 < W := by omega
  have hma := Nat.mod_lt i ha
  have hda : i / a < b := Nat.div_lt_of_lt_mul (by rw [Nat.mul_comm]; exact hi')
  rw [cutPl_get ha b hr' i hi', pastePl_get hx ha b hr (by rw [hp, Nat.mul_comm]; exact Nat.le_refl _)]
  have hdm := Nat.div_add_mod i a
  rw [Nat.mul_comm] at hdm
  generalize i / a = q at *
  generalize i % a = r at *
  have e0 : (y + q) * W + x + r = W * (y + q) + (x + r) := by rw [Nat.mul_comm]; omega
  have e1 : ((y + q) * W + x + r) / W = y + q := by rw [e0, Nat.mul_add_div hW, Nat.div_eq_of_lt (show x + r < W by omega)]; simp
  have e2 : ((y + q) * W + x + r) % W = x + r := by rw [e0, Nat.mul_add_mod, Nat.mod_eq_of_lt (show x + r < W by omega)]
  rw [e1, e2, if_pos (by omega)]
  congr 1
  rw [show y + q - y = q by omega, show x + r - x = r by omega]
  exact hdm
theorem pasteLL_cutLL {W H x y a b : Nat} {p : List (List Int)} (hp : ∀ l ∈ p, l.length = W * H) (hi : insB W H x y a b = true) : pasteLL p (cutLL p W x y a b) W x y a b p.length = p :=
  ext_getD (pasteLL_length _ _ _ _ _ _ _ _) fun i hi' => by
    rw [pasteLL_length] at hi'
    rw [pasteLL_get _ _ _ _ _ _ _ _ hi', if_pos hi']
    have e : (cutLL p W x y a b).getD i [] = cutPl (p.getD i []) W x y a b := by simp [cutLL, List.getD, hi']
    rw [e, paste_cut (hp _ (mem_getD hi')) hi]
theorem cutLL_pasteLL {W H x y a b : Nat} {p q : List (List Int)} (hp : ∀ l ∈ p, l.length = W * H) (hq : ∀ l ∈ q, l.length = a * b) (hlen : p.length = q.length) (hi : insB W H x y a b = true) : cutLL (pasteLL p q W x y a b p.length) W x y a b = q :=
  ext_getD (by rw [cutLL, List.length_map, pasteLL_length]; exact hlen) fun i hi' => by
    rw [cutLL, List.length_map, pasteLL_length] at hi'
    have e : (cutLL (pasteLL p q W x y a b p.length) W x y a b).getD i [] = cutPl ((pasteLL p q W x y a b p.length).getD i []) W x y a b := by
      have : i < (pasteLL p q W x y a b p.length).length := by rw [pasteLL_length]; exact hi'
      simp [cutLL, List.getD, this]
    rw [e, pasteLL_get _ _ _ _ _ _ _ _ hi', if_pos hi', cut_paste (hp _ (mem_getD hi')) (hq _ (mem_getD (i := i) (by omega))) hi]
end Go.Proofs.Ytbmgnclfecejeaa
