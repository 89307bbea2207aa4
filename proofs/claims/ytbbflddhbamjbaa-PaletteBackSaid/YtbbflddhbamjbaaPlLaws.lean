/- What the palette's functions answer together (plain). -/
import Derived.Test.YtbbflddhbamjbaaPlFewL
import Derived.Test.YtbbflddhbamjbaaPlIdx
import Derived.Test.YtbbflddhbamjbaaPlPaint
import Derived.Test.YtbbflddhbamjbaaPlJoin
import Derived.Test.YtbbflddhbamjbaaPicCutL
set_option linter.unusedSimpArgs false
set_option linter.unusedVariables false
namespace Go.Proofs.Ytbbflddhbamjbaa
open Go.RowKit
/-- a palette that Of answers -/
theorem of_pal {q : Pc} {P : Pal} {b : Bool} (h : OfIs q 256 P b) (ho : ofOk q 256 = true) (hq : isB q = true) :
    palB P = true ∧ P.d = q.d ∧ P.n = q.p.length ∧ (∀ x, x ∈ P.c ↔ ∃ j, j < (q.w * q.h).toNat ∧ x = colAt q.p j) := by
  have hs := of_some h ho hq
  obtain ⟨h1, h2⟩ := h
  rw [if_pos ho] at h2
  obtain ⟨e1, e2, h3, h4⟩ := h2
  have hm : ∀ x, x ∈ P.c ↔ ∃ j, j < (q.w * q.h).toNat ∧ x = colAt q.p j := fun x => by rw [h3.mem_iff, ddT_mem]
  have hq' := hq
  rw [isB, Bool.and_eq_true, List.all_eq_true] at hq'
  have hps := hq'.1
  simp only [possB, decide_eq_true_eq] at hps
  refine ⟨palB_mk ?_ (fun r hr => ?_) (h3.nodup_iff.2 (ddT_nodup _)), e1, e2, hm⟩
  · simp only [headB, decide_eq_true_eq]
    rw [e1, e2]
    omega
  · obtain ⟨j, hj, rfl⟩ := (hm r).1 hr
    refine ⟨by rw [e2, colAt, List.length_map], fun x hx => ?_⟩
    obtain ⟨l, hl, rfl⟩ := List.mem_map.1 hx
    have h5 := hq'.2 l hl
    rw [okPl, Bool.and_eq_true, decide_eq_true_eq, List.all_eq_true] at h5
    have hjl : j < l.length := by have := h5.1; omega
    rw [e1]
    refine h5.2 _ ?_
    rw [List.getD_eq_getElem?_getD, List.getElem?_eq_getElem hjl]
    exact List.getElem_mem hjl
/-- a palette that holds a picture's colours -/
theorem idx_of {q : Pc} {P : Pal} (hP : palB P = true) (hq : isB q = true) (hd : P.d = q.d) (hn : P.n = q.p.length) (hc : ∀ j, j < (q.w * q.h).toNat → colAt q.p j ∈ P.c) : idxB q P = true ∧ idxL q P = (List.range (q.w * q.h).toNat).map fun i => findI P.c (colAt q.p i) :=
  idx_yes (by rw [idxOk, hP, hq, decide_eq_true hd, decide_eq_true hn]; rfl) hc
theorem findI_get {c : List (List Int)} {r : List Int} (h : r ∈ c) : ∃ i : Nat, findI c r = i ∧ i < c.length ∧ c.getD i [] = r := by
  rw [findI, if_pos h]
  refine ⟨_, rfl, List.idxOf_lt_length_iff.2 h, ?_⟩
  rw [List.getD_eq_getElem?_getD, List.getElem?_eq_getElem (List.idxOf_lt_length_iff.2 h)]
  simp
/-- painted back -/
theorem paint_idx {q : Pc} {P : Pal} (h : idxB q P = true) : paintE (idxL q P) q.w q.h P = 0 ∧ paintQ (idxL q P) q.w q.h P = q := by
  have h' := h
  rw [idxB, Bool.and_eq_true, List.all_eq_true] at h
  obtain ⟨h1, h2⟩ := h
  simp only [idxOk, Bool.and_eq_true, decide_eq_true_eq] at h1
  obtain ⟨⟨⟨hP, hq⟩, hd⟩, hn⟩ := h1
  have hc : ∀ j, j < (q.w * q.h).toNat → colAt q.p j ∈ P.c := fun j hj => of_decide_eq_true (h2 j (List.mem_range.2 hj))
  have hL : idxL q P = (List.range (q.w * q.h).toNat).map fun i => findI P.c (colAt q.p i) := by rw [idxL, if_pos h']
  have hq' := hq
  rw [isB, Bool.and_eq_true, List.all_eq_true] at hq'
  have hps := hq'.1
  simp only [possB, decide_eq_true_eq] at hps
  obtain ⟨m1, m2⟩ := mul_64 (a := q.w) (b := q.h) (by omega) (by omega)
  have hok : paintOk (idxL q P) q.w q.h P = true := by
    rw [paintOk, hP, Bool.true_and, decide_eq_true_eq, hL, List.length_map, List.length_range]
    omega
  have hall : (idxL q P).all (inB P) = true := by
    rw [List.all_eq_true]
    intro x hx
    obtain ⟨i, rfl, hi⟩ := idxL_in x hx
    simp only [inB, decide_eq_true_eq]
    omega
  obtain ⟨e1, e2⟩ := paint_yes hok hall
  refine ⟨e1, ?_⟩
  rw [e2]
  obtain ⟨qw, qh, qd, qp⟩ := q
  simp only at *
  have hpl : paintL (idxL ⟨qw, qh, qd, qp⟩ P) P P.n.toNat = qp := by
    refine List.ext_getElem (by rw [paintL_len, hn]; simp) fun k k1 k2 => ?_
    simp only [paintL, List.getElem_map, List.getElem_range]
    have hk := hq'.2 qp[k] (List.getElem_mem k2)
    rw [okPl, Bool.and_eq_true, decide_eq_true_eq] at hk
    have hkl := hk.1
    simp only at hkl
    refine List.ext_getElem (by rw [paintK_len, hL, List.length_map, List.length_range]; omega) fun i i1 i2 => ?_
    have him : i < (qw * qh).toNat := by omega
    simp only [paintK, hL, List.getElem_map, List.getElem_range]
    obtain ⟨j, hj, _, hg⟩ := findI_get (hc i him)
    rw [hj, Int.toNat_natCast, hg, colAt, List.getD_eq_getElem?_getD, List.getElem?_map, List.getElem?_eq_getElem k2]
    simp only [Option.map_some, Option.getD_some]
    rw [List.getD_eq_getElem?_getD, List.getElem?_eq_getElem i2]
    rfl
  rw [hpl, hd]
/-- a palette joined is one -/
theorem join_may (a b : Pal) : palB (joinP a b) = joinB a b := by
  rw [joinP]
  by_cases h : joinB a b = true
  · rw [if_pos h, h]
    rw [joinB, Bool.and_eq_true] at h
    rw [joined_may h.1]
    exact h.2
  · rw [if_neg h, Bool.eq_false_iff.2 h]
    decide
theorem joinC_left {a b : Pal} {x : List Int} (h : x ∈ a.c) : x ∈ joinC a b := List.mem_append.2 (.inl h)
theorem joinC_right {a b : Pal} {x : List Int} (h : x ∈ b.c) : x ∈ joinC a b := by
  by_cases hx : x ∈ a.c
  · exact joinC_left hx
  · exact List.mem_append.2 (.inr (List.mem_filter.2 ⟨h, by simp [hx]⟩))
theorem joinC_len (a b : Pal) : (joinC a b).length ≤ a.c.length + b.c.length := by
  rw [← joinK_full]; exact joinK_len
/-- a part of a picture -/
theorem colAt_cut {p : List (List Int)} {W H x y a b : Nat} (hl : ∀ l ∈ p, l.length = W * H) (hi : insB W H x y a b = true) {k : Nat} (hk : k < b * a) : colAt (cutLL p W x y a b) k = colAt p ((y + k / a) * W + x + k % a) := by
  simp only [insB, decide_eq_true_eq] at hi
  rw [colAt, colAt, cutLL, List.map_map]
  refine List.map_congr_left fun l hm => ?_
  show (cutPl l W x y a b).getD k 0 = _
  exact cutPl_get (by omega) b (fun r hr => rows_in (hl l hm) (by omega) (by omega)) k hk
theorem part_in {W H x y a b k : Nat} (hi : insB W H x y a b = true) (hk : k < b * a) : (y + k / a) * W + x + k % a < W * H := by
  obtain ⟨h1, h2, h3, h4, h5⟩ := ins_rows (L := W * H) hi rfl
  have h6 : k / a < b := Nat.div_lt_of_lt_mul (by rw [Nat.mul_comm]; exact hk)
  have h7 := Nat.mod_lt k h4
  have h8 := h1 (k / a) h6
  omega
theorem part_idx {W H x y a b : Nat} {d : Int} {p : List (List Int)} {P : Pal} (h : idxB ⟨W, H, d, p⟩ P = true) (hi : insB W H x y a b = true) :
    idxB ⟨a, b, d, cutLL p W x y a b⟩ P = true ∧ idxL ⟨a, b, d, cutLL p W x y a b⟩ P = cutPl (idxL ⟨W, H, d, p⟩ P) W x y a b ∧ (idxL ⟨W, H, d, p⟩ P).length = W * H ∧ (∀ r, r < b → (y + r) * W + x + a ≤ W * H) := by
  have h' := h
  rw [idxB, Bool.and_eq_true, List.all_eq_true] at h
  obtain ⟨h1, h2⟩ := h
  simp only [idxOk, Bool.and_eq_true, decide_eq_true_eq] at h1
  obtain ⟨⟨⟨hP, hq⟩, hd⟩, hn⟩ := h1
  have hWH : ((W : Int) * (H : Int)).toNat = W * H := by
    have : (W : Int) * (H : Int) = ((W * H : Nat) : Int) := by simp
    rw [this, Int.toNat_natCast]
  have hab : ((a : Int) * (b : Int)).toNat = a * b := by
    have : (a : Int) * (b : Int) = ((a * b : Nat) : Int) := by simp
    rw [this, Int.toNat_natCast]
  have hc : ∀ j, j < W * H → colAt p j ∈ P.c := fun j hj => of_decide_eq_true (h2 j (List.mem_range.2 (by simp only; rw [hWH]; exact hj)))
  have hL : idxL ⟨W, H, d, p⟩ P = (List.range (W * H)).map fun i => findI P.c (colAt p i) := by rw [idxL, if_pos h']; simp only; rw [hWH]
  obtain ⟨h3, _, _, h4, h5⟩ := ins_rows (L := W * H) hi rfl
  obtain ⟨_, _, _, _, _, _, _, _, b9⟩ := isB_all hq
  have hpl : ∀ l ∈ p, l.length = W * H := fun l hl => (b9 l hl).1
  have hcol : ∀ k, k < b * a → colAt (cutLL p W x y a b) k = colAt p ((y + k / a) * W + x + k % a) := fun k hk => colAt_cut hpl hi hk
  obtain ⟨e1, e2⟩ := idx_of (q := ⟨a, b, d, cutLL p W x y a b⟩) hP (cutLL_isB hq hi) hd (by simp only [cutLL, List.length_map]; exact hn) (fun j hj => by
    simp only at hj ⊢
    rw [hab, Nat.mul_comm] at hj
    rw [hcol j hj]
    exact hc _ (part_in hi hj))
  have hLl : (idxL ⟨W, H, d, p⟩ P).length = W * H := by rw [hL, List.length_map, List.length_range]
  refine ⟨e1, ?_, hLl, h3⟩
  rw [e2]
  simp only
  rw [hab]
  refine ext_get ?_ fun k hk => ?_
  · rw [cutPl_length b (by rw [hLl]; exact h3), List.length_map, List.length_range, Nat.mul_comm]
  · rw [List.length_map, List.length_range] at hk
    have hk' : k < b * a := by rw [Nat.mul_comm]; exact hk
    rw [cutPl_get h4 b (by rw [hLl]; exact h3) k hk', hL]
    have h6 := part_in hi hk'
    rw [List.getD_eq_getElem?_getD, List.getElem?_map, List.getElem?_range hk, List.getD_eq_getElem?_getD, List.getElem?_map, List.getElem?_range h6]
    simp only [Option.map_some, Option.getD_some]
    rw [hcol k hk']
theorem palB_63 {P : Pal} (h : palB P = true) : Len63 P.c := by
  have h1 := rows_of h
  rw [palB_iff] at h
  have h2 := h.1
  simp only [headB, decide_eq_true_eq] at h2
  exact ⟨by omega, fun l hl => by have := (h1.1 l hl).1; omega⟩
theorem join_63 (a b : Pal) : Len63 (joinP a b).c := by
  by_cases h : joinB a b = true
  · exact palB_63 (by rw [join_may]; exact h)
  · rw [joinP, if_neg h]
    exact ⟨by simp [palZ], by simp [palZ]⟩
/-- two palettes alike, few colours together: joined, it holds the second's picture -/
theorem join_yes {a b : Pal} {q : Pc} (ha : palB a = true) (hb : palB b = true) (hd : a.d = b.d) (hn : a.n = b.n) (hl : a.c.length + b.c.length ≤ 256) (hq : isB q = true) (hqd : b.d = q.d) (hqn : b.n = q.p.length) (hc : ∀ j, j < (q.w * q.h).toNat → colAt q.p j ∈ b.c) :
    joinB a b = true ∧ idxB q (joinP a b) = true ∧ (joinP a b).c.length ≤ a.c.length + b.c.length := by
  have hj : joinB a b = true := by
    rw [joinB, joinOk, ha, hb, decide_eq_true (And.intro hd hn), decide_eq_true (Nat.le_trans (joinC_len a b) hl)]; rfl
  have hP : joinP a b = ⟨a.d, a.n, joinC a b⟩ := by rw [joinP, if_pos hj]
  have hM := join_may a b
  rw [hj] at hM
  refine ⟨hj, ?_, ?_⟩
  · refine (idx_of hM hq ?_ ?_ fun j hj' => ?_).1
    · rw [hP, ← hqd]; exact hd
    · rw [hP, ← hqn]; exact hn
    · rw [hP]; exact joinC_right (hc j hj')
  · rw [hP]; exact joinC_len a b
end Go.Proofs.Ytbbflddhbamjbaa
