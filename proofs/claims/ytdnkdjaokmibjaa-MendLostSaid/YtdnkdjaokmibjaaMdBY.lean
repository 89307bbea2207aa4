/- Two of a group lost (plain). -/
import Derived.Test.YtdnkdjaokmibjaaMdBX
set_option linter.unusedSimpArgs false
set_option linter.unusedVariables false
namespace Go.Proofs.Ytdnkdjaokmibjaa
open Go.RowKit

theorem holes_jump {hs : List Ho} {nx : Int} {x : Pg} {m : List Pg} (h : nx < x.seq) : (x :: m).foldl holesF (hs, nx) = m.foldl holesF (hs ++ [⟨nx, x.seq - 1⟩], x.seq + 1) := by
  rw [List.foldl_cons]
  congr 1
  unfold holesF
  rw [if_pos h]
theorem holes_seg {l : List Pg} (h : Num l) (hs : List Ho) {a b : Nat} (hab : a ≤ b) (hb : b ≤ l.length) : ((l.take b).drop a).foldl holesF (hs, (a : Int)) = (hs, (b : Int)) := by
  have := holes_run ((l.take b).drop a) hs a (fun i hi => by
    have hi' : i < b - a := by simp at hi; omega
    rw [List.getElem_drop, List.getElem_take, h.seq (by omega)])
  rw [this]
  have hlen : ((l.take b).drop a).length = b - a := by simp; omega
  rw [hlen, show a + (b - a) = b by omega]
/-- behind a gap up to a place -/
theorem holes_gap {l : List Pg} (h : Num l) (hs : List Ho) {p a b : Nat} (hpa : p < a) (hab : a < b) (hb : b ≤ l.length) : ((l.take b).drop a).foldl holesF (hs, (p : Int)) = (hs ++ [⟨(p : Int), (a : Int) - 1⟩], (b : Int)) := by
  have ha : a < (l.take b).length := by simp; omega
  rw [List.drop_eq_getElem_cons ha]
  have hsq : (l.take b)[a].seq = (a : Int) := by rw [List.getElem_take, h.seq (by omega)]
  rw [holes_jump (by rw [hsq]; omega), hsq]
  have e := holes_seg h (hs ++ [⟨(p : Int), (a : Int) - 1⟩]) (a := a + 1) (b := b) (by omega) hb
  rw [show ((a : Int) + 1) = ((a + 1 : Nat) : Int) by omega]
  exact e
theorem take_all {l : List Pg} (a : Nat) : l.drop a = (l.take l.length).drop a := by rw [List.take_length]
theorem holes_one {l : List Pg} (h : Num l) {p : Nat} (hp : p + 1 < l.length) {t : Int} (ht : t ≤ (l.length : Int) - 1) : holesP (l.eraseIdx p) t = [⟨(p : Int), (p : Int)⟩] := by
  have h1 := holes_seg h [] (a := 0) (b := p) (by omega) (by omega)
  rw [List.drop_zero] at h1
  have h2 := holes_gap h [] (p := p) (a := p + 1) (b := l.length) (by omega) hp (Nat.le_refl _)
  rw [← take_all, List.nil_append] at h2
  have e : holesS (l.eraseIdx p) = ([⟨(p : Int), (p : Int)⟩], (l.length : Int)) := by
    rw [List.eraseIdx_eq_take_drop_succ]
    unfold holesS
    rw [List.foldl_append, show ((0 : Int)) = ((0 : Nat) : Int) from rfl, h1, h2]
    congr 3; simp
  unfold holesP
  rw [e, if_neg (by show ¬ (l.length : Int) ≤ t; omega)]
theorem erase_two {l : List Pg} {p q : Nat} (hpq : p < q) (hq : q < l.length) : (l.eraseIdx q).eraseIdx p = l.take p ++ ((l.take q).drop (p + 1) ++ l.drop (q + 1)) := by
  rw [List.eraseIdx_eq_take_drop_succ l q, List.eraseIdx_append_of_lt_length (by simp; omega), List.eraseIdx_eq_take_drop_succ, List.take_take, Nat.min_eq_left (by omega), List.append_assoc]
theorem holes_two {l : List Pg} (h : Num l) {p q : Nat} (hpq : p < q) (hq : q + 1 < l.length) {t : Int} (ht : t ≤ (l.length : Int) - 1) :
    holesP ((l.eraseIdx q).eraseIdx p) t = if q = p + 1 then [⟨(p : Int), (q : Int)⟩] else [⟨(p : Int), (p : Int)⟩, ⟨(q : Int), (q : Int)⟩] := by
  have h1 := holes_seg h [] (a := 0) (b := p) (by omega) (by omega)
  rw [List.drop_zero] at h1
  have e : holesS ((l.eraseIdx q).eraseIdx p) = (if q = p + 1 then [⟨(p : Int), (q : Int)⟩] else [⟨(p : Int), (p : Int)⟩, ⟨(q : Int), (q : Int)⟩], (l.length : Int)) := by
    rw [erase_two hpq (by omega)]
    unfold holesS
    rw [List.foldl_append, show ((0 : Int)) = ((0 : Nat) : Int) from rfl, h1, List.foldl_append]
    by_cases hc : q = p + 1
    · subst hc
      have h0 : (l.take (p + 1)).drop (p + 1) = [] := by rw [List.drop_eq_nil_iff]; simp; omega
      have h2 := holes_gap h [] (p := p) (a := p + 1 + 1) (b := l.length) (by omega) hq (Nat.le_refl _)
      rw [← take_all, List.nil_append] at h2
      rw [h0, List.foldl_nil, h2, if_pos rfl]
      congr 3; simp
    · have h2 := holes_gap h [] (p := p) (a := p + 1) (b := q) (by omega) (by omega) (by omega)
      rw [List.nil_append] at h2
      have h3 := holes_gap h [⟨(p : Int), ((p + 1 : Nat) : Int) - 1⟩] (p := q) (a := q + 1) (b := l.length) (by omega) hq (Nat.le_refl _)
      rw [← take_all] at h3
      rw [h2, h3, if_neg hc]
      simp
  unfold holesP
  rw [e, if_neg (by show ¬ (l.length : Int) ≤ t; omega)]

def lostL (n x y : Nat) (i : Nat) : Bool := decide (i = 9 * n + x ∨ i = 9 * n + y)
theorem Num.erase_mem {l : List Pg} (h : Num l) {i : Nat} {r : Pg} : r ∈ l.eraseIdx i ↔ r ∈ l ∧ r.seq ≠ (i : Int) := by
  rw [List.mem_eraseIdx_iff_getElem]
  constructor
  · rintro ⟨j, hj, hne, rfl⟩
    exact ⟨List.getElem_mem hj, by rw [h.seq hj]; omega⟩
  · rintro ⟨hr, hne⟩
    obtain ⟨j, hj, rfl, hs⟩ := h.inj hr
    exact ⟨j, hj, by omega, rfl⟩
theorem sorted_sub {l m : List Pg} (h : l.Pairwise (fun a b => a.seq < b.seq)) (hs : m.Sublist l) : m.Pairwise (fun a b => a.seq < b.seq) := h.sublist hs
theorem Num.erase2_mem {l : List Pg} (h : Num l) {p q : Nat} (hpq : p < q) (hq : q < l.length) {r : Pg} : r ∈ (l.eraseIdx q).eraseIdx p ↔ r ∈ l ∧ r.seq ≠ (p : Int) ∧ r.seq ≠ (q : Int) := by
  rw [List.mem_eraseIdx_iff_getElem]
  have hlen : (l.eraseIdx q).length = l.length - 1 := by rw [List.length_eraseIdx, if_pos hq]
  have hget : ∀ j (hj : j < (l.eraseIdx q).length), (l.eraseIdx q)[j].seq = if j < q then (j : Int) else ((j + 1 : Nat) : Int) := fun j hj => by
    rw [List.getElem_eraseIdx]
    split
    · rw [h.seq (by omega)]
    · rw [h.seq (by omega)]
  constructor
  · rintro ⟨j, hj, hne, rfl⟩
    have h1 := h.erase_mem.1 (List.getElem_mem hj)
    refine ⟨h1.1, ?_, h1.2⟩
    rw [hget j hj]
    split <;> omega
  · rintro ⟨hr, hp, hq'⟩
    obtain ⟨j, hj, e⟩ := List.getElem_of_mem (h.erase_mem.2 ⟨hr, hq'⟩)
    refine ⟨j, hj, fun hjp => ?_, e⟩
    apply hp
    rw [← e, hget j hj, hjp, if_pos hpq]
section
variable {l : List Pg}
theorem lost_left (h : Num l) {n x y : Nat} (hx : x < 8) (hy : y ≤ 8) (hn : 8 * n + 16 ≤ l.length) {r : Pg} (hr : r ∈ l) (hl : r ∉ keepL (guarded l) (lostL n x y) (guarded l).length) : r.seq = ((8 * n + x : Nat) : Int) ∨ (y < 8 ∧ r.seq = ((8 * n + y : Nat) : Int)) := by
  obtain ⟨i, hi, rfl, hs⟩ := h.inj hr
  have hk : i / 8 < nGrp l := by unfold nGrp; omega
  have hg := grp_len l (i / 8)
  have hj : i % 8 < (grp l (i / 8)).length := by omega
  obtain ⟨a1, a2⟩ := guarded_pg hk hj
  have hpe : (grp l (i / 8))[i % 8] = l[i] := by
    obtain ⟨h1, h2⟩ := grp_get hj
    rw [h2]; congr 1; omega
  by_cases hL : lostL n x y (9 * (i / 8) + i % 8) = true
  · simp only [lostL, decide_eq_true_eq] at hL
    rcases hL with hL | hL
    · left; rw [hs]; omega
    · right
      have : y < 8 := by omega
      exact ⟨this, by rw [hs]; omega⟩
  · exact absurd (keepL_mem.2 ⟨_, a1, by simpa using hL, by rw [a2, hpe]⟩) hl
theorem left_not (h : Num l) {n x y z : Nat} (hz : z < 8) (hzz : z = x ∨ z = y) (hn : 8 * n + 16 ≤ l.length) {r : Pg} (hr : r ∈ l) (hs : r.seq = ((8 * n + z : Nat) : Int)) : r ∉ keepL (guarded l) (lostL n x y) (guarded l).length := by
  intro hm
  obtain ⟨i, hi, hL, e⟩ := keepL_mem.1 hm
  obtain ⟨hk, ⟨hj, he⟩ | ⟨_, he⟩⟩ := guarded_at hi
  · obtain ⟨h1, h2⟩ := grp_get hj
    have hlen := grp_len l (i / 9)
    have h3 : r.seq = ((8 * (i / 9) + i % 9 : Nat) : Int) := by rw [e, he, h2, h.seq h1]
    have h4 : i = 9 * n + z := by omega
    simp only [lostL, decide_eq_false_iff_not] at hL
    rcases hzz with rfl | rfl
    · exact hL (.inl h4)
    · exact hL (.inr h4)
  · rw [he] at e
    obtain ⟨j, hj, rfl, _⟩ := h.inj hr
    have := (h j hj).g
    rw [e] at this; cases this
theorem gd_not (h : Num l) {n x : Nat} (hn : 8 * n + 16 ≤ l.length) : guardG (grp l n) ∉ keepL (guarded l) (lostL n x 8) (guarded l).length := by
  intro hm
  have hkn : n < nGrp l := by unfold nGrp; omega
  obtain ⟨i, hi, hL, e⟩ := keepL_mem.1 hm
  obtain ⟨hk, ⟨hj, he⟩ | ⟨hj, he⟩⟩ := guarded_at hi
  · have hg := (h.grpOk _).g _ (List.getElem_mem hj)
    rw [← he, ← e] at hg; cases hg
  · rw [he] at e
    have := congrArg Pg.seq e
    rw [h.guard_seq hkn, h.guard_seq hk] at this
    have hlen := grp_len l (i / 9)
    simp only [lostL, decide_eq_false_iff_not] at hL
    exact hL (.inr (by omega))
/-- Two of a group, or its guard and one of it: just these are holes. -/
theorem mend_lost {ys : List Pg} (h : Num l) (hl : l.length ≤ 100000) {n x y : Nat} (hx : x < 8) (hy : y ≤ 8) (hxy : x ≠ y) (hn : 8 * n + 16 ≤ l.length)
    (hp : ys.Perm (mendO (keepL (guarded l) (lostL n x y) (guarded l).length))) (ho : ys.Pairwise (fun a b => a.seq ≤ b.seq)) :
    (y = 8 → ys.length = l.length - 1 ∧ holesP ys (mendT (keepL (guarded l) (lostL n x y) (guarded l).length)) = [⟨((8 * n + x : Nat) : Int), ((8 * n + x : Nat) : Int)⟩]) ∧
    (y < 8 → ys.length = l.length - 2 ∧ holesP ys (mendT (keepL (guarded l) (lostL n x y) (guarded l).length)) = if 8 * n + max x y = 8 * n + min x y + 1 then [⟨((8 * n + min x y : Nat) : Int), ((8 * n + max x y : Nat) : Int)⟩] else [⟨((8 * n + min x y : Nat) : Int), ((8 * n + min x y : Nat) : Int)⟩, ⟨((8 * n + max x y : Nat) : Int), ((8 * n + max x y : Nat) : Int)⟩]) := by
  have hLe := left_keep h (lostL n x y) (s := keepL (guarded l) (lostL n x y) (guarded l).length) (fun x => Iff.rfl)
  obtain ⟨m1, m2, m3, m4⟩ := mend_mem h hl hLe
  have hkn : n < nGrp l := by unfold nGrp; omega
  have hd := difS_perm m3.dif hp
  have hgl : (grp l n).length = 8 := by rw [grp_len]; omega
  have hin : ∀ z, z < 8 → ∃ hz : 8 * n + z < l.length, l[8 * n + z] ∈ grp l n := fun z hz => by
    obtain ⟨h1, h2⟩ := grp_get (l := l) (k := n) (i := z) (by omega)
    exact ⟨h1, by rw [← h2]; exact List.getElem_mem _⟩
  have hgrp : ∀ {r : Pg} {k z : Nat}, z < 8 → r.seq = ((8 * n + z : Nat) : Int) → r ∈ grp l k → k = n := fun {r k z} hz hs hr => by
    obtain ⟨j, hj, rfl⟩ := List.getElem_of_mem hr
    obtain ⟨h1, h2⟩ := grp_get hj
    rw [h2, h.seq h1] at hs
    have := grp_len l k
    omega
  constructor
  · rintro rfl
    have hmem : ∀ r, r ∈ ys ↔ r ∈ l.eraseIdx (8 * n + x) := fun r => by
      rw [hp.mem_iff, h.erase_mem]
      constructor
      · intro hr
        refine ⟨m2 r hr, fun hs => ?_⟩
        rcases (m1 r).1 hr with ⟨h1, _⟩ | ⟨k, _, h1, h2, _⟩
        · exact left_not h hx (.inl rfl) hn (m2 r hr) hs h1
        · have := hgrp hx hs h2
          subst this
          exact gd_not h hn h1
      · rintro ⟨hr, hs⟩
        refine (m1 r).2 (.inl ⟨?_, ?_⟩)
        · by_cases hk : r ∈ keepL (guarded l) (lostL n x 8) (guarded l).length
          · exact hk
          · rcases lost_left h hx (Nat.le_refl _) hn hr hk with h1 | ⟨h1, _⟩
            · exact absurd h1 hs
            · omega
        · obtain ⟨j, hj, rfl, _⟩ := h.inj hr
          exact (h j hj).g
    have he := sorted_mem (sorted_sub h.sorted (List.eraseIdx_sublist ..)) ho hd hmem
    rw [he]
    refine ⟨by rw [List.length_eraseIdx, if_pos (by omega)], holes_one h (by omega) m4⟩
  · intro hy8
    have hpq : 8 * n + min x y < 8 * n + max x y := by omega
    have hmem : ∀ r, r ∈ ys ↔ r ∈ (l.eraseIdx (8 * n + max x y)).eraseIdx (8 * n + min x y) := fun r => by
      rw [hp.mem_iff, h.erase2_mem hpq (by omega)]
      have hnot : ∀ z w, z < 8 → w < 8 → z ≠ w → (z = x ∨ z = y) → (w = x ∨ w = y) → r ∈ mendO (keepL (guarded l) (lostL n x y) (guarded l).length) → r.seq ≠ ((8 * n + z : Nat) : Int) := fun z u hz hu hzu hzz huu hr hs => by
        rcases (m1 r).1 hr with ⟨h1, _⟩ | ⟨k, _, _, h2, h3⟩
        · exact left_not h hz hzz hn (m2 r hr) hs h1
        · have := hgrp hz hs h2
          subst this
          obtain ⟨hw1, hw2⟩ := hin u hu
          have hsu := h.seq hw1
          refine left_not h hu huu hn (List.getElem_mem hw1) hsu (h3 _ hw2 (fun e => ?_))
          rw [← e, hsu] at hs
          omega
      constructor
      · intro hr
        refine ⟨m2 r hr, ?_, ?_⟩
        · exact hnot (min x y) (max x y) (by omega) (by omega) (by omega) (by omega) (by omega) hr
        · exact hnot (max x y) (min x y) (by omega) (by omega) (by omega) (by omega) (by omega) hr
      · rintro ⟨hr, hs1, hs2⟩
        refine (m1 r).2 (.inl ⟨?_, ?_⟩)
        · by_cases hk : r ∈ keepL (guarded l) (lostL n x y) (guarded l).length
          · exact hk
          · rcases lost_left h hx hy hn hr hk with h1 | ⟨_, h1⟩
            · rcases (show x = min x y ∨ x = max x y by omega) with e | e
              · rw [e] at h1; exact absurd h1 hs1
              · rw [e] at h1; exact absurd h1 hs2
            · rcases (show y = min x y ∨ y = max x y by omega) with e | e
              · rw [e] at h1; exact absurd h1 hs1
              · rw [e] at h1; exact absurd h1 hs2
        · obtain ⟨j, hj, rfl, _⟩ := h.inj hr
          exact (h j hj).g
    have he := sorted_mem (sorted_sub h.sorted ((List.eraseIdx_sublist ..).trans (List.eraseIdx_sublist ..))) ho hd hmem
    rw [he]
    refine ⟨?_, holes_two h hpq (by omega) m4⟩
    have hl1 : (l.eraseIdx (8 * n + max x y)).length = l.length - 1 := by rw [List.length_eraseIdx, if_pos (by omega)]
    rw [List.length_eraseIdx, if_pos (by rw [hl1]; omega), hl1]
    omega
end
end Go.Proofs.Ytdnkdjaokmibjaa
