/- What octet's Reader.Lump, Big and Small, and octet.Big and Small compute. -/
import Derived.Test.YtpohinbhmlcfkaaOctTake
namespace Go.Proofs.Ytpohinbhmlcfkaa
open Go.RowKit

set_option maxHeartbeats 1000000 in
theorem rlump_any {w : World} {lo hi g : Nat} {s : Rs} (h : Rdr w 56 lo hi g s) (most : Int) (hm0 : -9223372036854775808 ≤ most) (hm1 : most ≤ 9223372036854775807) :
    Calls Try.prog 22 #[.pointer (some ⟨g, 0, none⟩), .int .i64 most] w fun e w' => ∃ v, e = .returned v ∧
      OwnI w' w.heap.size 5 .u8 v (s.lump (if most < 0 then 0 else most)).1 ∧ Rdr w' 56 lo hi g (s.lump (if most < 0 then 0 else most)).2 ∧ w.grownBy w' (some g) := by
  obtain ⟨A, c, c0, c1, c2, ⟨f1, f2⟩, hc, hr, ha, hl, hby, he0, he1⟩ := h.cells
  have hm : 0 ≤ (if most < 0 then 0 else most) ∧ (if most < 0 then 0 else most) ≤ 9223372036854775807 := by split <;> omega
  have HL := Lib.hid (show s.lump (if most < 0 then 0 else most) =
    (if ((s.num (if most < 0 then 0 else most)).2.take (s.num (if most < 0 then 0 else most)).1.toNat).2.err ≠ 0 then ([], { ((s.num (if most < 0 then 0 else most)).2.take (s.num (if most < 0 then 0 else most)).1.toNat).2 with at_ := s.at_ })
     else ((s.num (if most < 0 then 0 else most)).2.take (s.num (if most < 0 then 0 else most)).1.toNat)) from rfl)
  have hnb := Rs.num_bounds s _ hm.1 hby
  have HA := Lib.hid (show s.at_ ≤ ((s.num (if most < 0 then 0 else most)).2.take (s.num (if most < 0 then 0 else most)).1.toNat).2.data.length by rw [Rs.take_data, Rs.num_data]; exact ha)
  have HC1 := Lib.hid (num_any h (if most < 0 then 0 else most))
  generalize hmm : (if most < 0 then 0 else most) = m at *
  have HC2 : ∀ w1 : World, Rdr w1 56 lo hi g (s.num m).2 → Calls Try.prog 19 #[.pointer (some ⟨g, 0, none⟩), .int .i64 (s.num m).1] w1 fun e w' => ∃ v, e = .returned v ∧ OwnI w' w1.heap.size 5 .u8 v ((s.num m).2.take (s.num m).1.toNat).1 ∧
      Rdr w' 56 lo hi g ((s.num m).2.take (s.num m).1.toNat).2 ∧ w1.grownBy w' (some g) := fun w1 h1 => take_any h1 _ (by omega) (by omega)
  have HC2' := Lib.hid HC2
  clear HC2
  generalize (s.num m).2.take (s.num m).1.toNat = r2 at *
  generalize s.num m = r1 at *
  obtain ⟨x, s1⟩ := r1
  obtain ⟨o, s2⟩ := r2
  simp only at *
  by_cases herr : s2.err = 0
  all_goals
    first
    | have hb : (s2.err != 0) = false := by simpa using herr
      have HF := Lib.hid (show s.lump m = (o, s2) by rw [HL.out]; simp [herr])
    | have hb : (s2.err != 0) = true := by simpa using herr
      have HF := Lib.hid (show s.lump m = ([], { s2 with at_ := s.at_ }) by rw [HL.out]; simp [herr])
    clear herr
    by_cases hneg : most < 0
    all_goals
      first
      | rw [if_pos hneg] at hmm
      | rw [if_neg hneg] at hmm
      subst hmm
      go_enter Try.func22, Try.ntmps22
      go_wp2_with (first
        | (go_at_call 13; go_must (refine HC1.out.mono ?_); rintro e w1 ⟨rfl, h1, hg1⟩)
        | (go_at_call 19; go_must (refine (HC2'.out _ h1).mono ?_); rintro e w2 ⟨v2, rfl, hown2, h2, hg2⟩; obtain ⟨_, _, _, d1, d2, ⟨e1, _⟩, _⟩ := h2.cells))
      go_ret
      rw [HF.out]
      first
      | exact ⟨_, rfl, hown2.base_ hg1.size, h2, only_trans hg1 hg2⟩
      | exact ⟨_, rfl, OwnI.nil_ _ _ _ _, h2.setAt s.at_ HA.out, only_setCell (only_trans hg1 hg2) (.inl rfl) _⟩

theorem clamp_any (n : Int) (hn0 : -9223372036854775808 ≤ n) (hn1 : n ≤ 9223372036854775807) (k : Nat) (hk : min n.toNat 8 = k) (w : World) :
    Calls Try.prog 35 #[.int .i64 n] w fun e w' => e = .returned (.int .i64 (k : Int)) ∧ w = w' := by
  have HK := Lib.hid hk
  clear hk
  by_cases h0 : n < 0
  · skip
    go_enter Try.func35, Try.ntmps35
    go_wp2
    go_ret
    exact ⟨ret_int (by have := HK.out; omega), rfl⟩
  · by_cases h8 : n ≤ 8
    · skip
      go_enter Try.func35, Try.ntmps35
      go_wp2
      all_goals
        go_ret
        exact ⟨ret_int (by have := HK.out; omega), rfl⟩
    · skip
      go_enter Try.func35, Try.ntmps35
      go_wp2
      go_ret
      exact ⟨ret_int (by have := HK.out; omega), rfl⟩

theorem pow_256_le {k : Nat} (h : k ≤ 7) : (256 : Int) ^ k ≤ 72057594037927936 := by
  rcases (show k = 0 ∨ k = 1 ∨ k = 2 ∨ k = 3 ∨ k = 4 ∨ k = 5 ∨ k = 6 ∨ k = 7 by omega) with rfl | rfl | rfl | rfl | rfl | rfl | rfl | rfl <;> omega

set_option maxHeartbeats 1000000 in
theorem rbig_any {w : World} {lo hi g : Nat} {s : Rs} (h : Rdr w 56 lo hi g s) (n : Int) (hn0 : -9223372036854775808 ≤ n) (hn1 : n ≤ 9223372036854775807) :
    Calls Try.prog 25 #[.pointer (some ⟨g, 0, none⟩), .int .i64 n] w fun e w' => e = .returned (.int .u64 (big (s.take (min n.toNat 8)).1)) ∧
      Rdr w' 56 lo hi g (s.take (min n.toNat 8)).2 ∧ w.grownBy w' (some g) := by
  obtain ⟨A, c, c0, c1, c2, ⟨f1, f2⟩, hc, hr, ha, hl, hby, he0, he1⟩ := h.cells
  have HC1 := Lib.hid (clamp_any n hn0 hn1 _ rfl)
  have HC2 := Lib.hid (take_any h ((min n.toNat 8 : Nat) : Int) (by omega) (by omega))
  rw [Int.toNat_natCast] at HC2
  have hlen := Rs.take_len s (min n.toNat 8)
  have hmem : ∀ x ∈ (s.take (min n.toNat 8)).1, 0 ≤ x ∧ x ≤ 255 := fun x hx => hby x (Rs.take_mem s _ x hx)
  have hk8 : min n.toNat 8 ≤ 8 := by omega
  generalize min n.toNat 8 = k at *
  generalize s.take k = r at *
  obtain ⟨o, s2⟩ := r
  simp only at *
  clear c0 c1 c2 f1 f2 hn0 hn1
  go_enter Try.func25, Try.ntmps25
  go_wp2_with (first
    | (go_at_call 35; go_must (refine (HC1.out _).mono ?_); rintro e w1 ⟨rfl, rfl⟩)
    | (go_at_call 19; go_must (refine HC2.out.mono ?_); rintro e w2 ⟨v2, rfl, hown2, h2, hg2⟩; obtain ⟨A2, c2', rfl, hc2', hr2, _⟩ := hown2.form))
  go_loop [5, 13] (fun m i => ∃ (j : Nat), j ≤ o.length ∧ i = .int .i64 j ∧ m = .int .u64 (big (o.take j))) (fun _ i => o.length - (intOf i).toNat)
  case atStart => exact ⟨0, Nat.zero_le _, rfl, rfl⟩
  case round =>
    obtain ⟨j, hj, rfl, rfl⟩ := hrel
    by_cases hlt : j < o.length
    · obtain ⟨ad, rfl, hadB, hcell⟩ := hr2.at_ hlt
      obtain ⟨hx0, hx1⟩ := hmem (o.getD j 0) (by rw [List.getD_eq_getElem?_getD, List.getElem?_eq_getElem hlt]; exact List.getElem_mem hlt)
      have HS := Lib.hid (show big (o.take (j + 1)) = big (o.take j) * 256 + o.getD j 0 by rw [take_snoc hlt, big_snoc])
      obtain ⟨hb0, hb1⟩ := big_bound (o.take j) (fun x hx => hmem x (List.mem_of_mem_take hx))
      rw [List.length_take, Nat.min_eq_left hj] at hb1
      have hb2 : big (o.take j) < 72057594037927936 := Int.lt_of_lt_of_le hb1 (pow_256_le (by omega))
      clear hb1 hmem
      generalize big (o.take j) = b at *
      generalize o.getD j 0 = x at *
      go_wp2
      go_round
      case rel => exact ⟨j + 1, by omega, by go_num, by rw [HS.out]⟩
      case measure => simp [intOf]; omega
    · have hjl : j = o.length := by omega
      subst hjl
      go_wp2
      go_ret
      exact ⟨by first | rfl | rw [List.take_length], h2, hg2⟩

theorem pow_256_of {j : Nat} (hj : j ≤ 7) (x s : Int) (hx1 : x ≤ 255) (hs1 : s < 256 ^ j) : s + x * 256 ^ j < 18446744073709551616 := by
  have h1 := pow_256_le hj
  have hp : (0 : Int) < 256 ^ j := Int.pow_pos (by omega)
  have h2 : x * 256 ^ j ≤ 255 * 256 ^ j := Int.mul_le_mul_of_nonneg_right hx1 (by omega)
  omega

set_option maxHeartbeats 1000000 in
theorem rsmall_any {w : World} {lo hi g : Nat} {s : Rs} (h : Rdr w 56 lo hi g s) (n : Int) (hn0 : -9223372036854775808 ≤ n) (hn1 : n ≤ 9223372036854775807) :
    Calls Try.prog 27 #[.pointer (some ⟨g, 0, none⟩), .int .i64 n] w fun e w' => e = .returned (.int .u64 (small (s.take (min n.toNat 8)).1)) ∧
      Rdr w' 56 lo hi g (s.take (min n.toNat 8)).2 ∧ w.grownBy w' (some g) := by
  obtain ⟨A, c, c0, c1, c2, ⟨f1, f2⟩, hc, hr, ha, hl, hby, he0, he1⟩ := h.cells
  have HC1 := Lib.hid (clamp_any n hn0 hn1 _ rfl)
  have HC2 := Lib.hid (take_any h ((min n.toNat 8 : Nat) : Int) (by omega) (by omega))
  rw [Int.toNat_natCast] at HC2
  have hlen := Rs.take_len s (min n.toNat 8)
  have hmem : ∀ x ∈ (s.take (min n.toNat 8)).1, 0 ≤ x ∧ x ≤ 255 := fun x hx => hby x (Rs.take_mem s _ x hx)
  have hk8 : min n.toNat 8 ≤ 8 := by omega
  generalize min n.toNat 8 = k at *
  generalize s.take k = r at *
  obtain ⟨o, s2⟩ := r
  simp only at *
  clear c0 c1 c2 f1 f2 hn0 hn1
  go_enter Try.func27, Try.ntmps27
  go_wp2_with (first
    | (go_at_call 35; go_must (refine (HC1.out _).mono ?_); rintro e w1 ⟨rfl, rfl⟩)
    | (go_at_call 19; go_must (refine HC2.out.mono ?_); rintro e w2 ⟨v2, rfl, hown2, h2, hg2⟩; obtain ⟨A2, c2', rfl, hc2', hr2, _⟩ := hown2.form))
  go_loop [5, 13] (fun m i => ∃ (j : Nat), j ≤ o.length ∧ i = .int .i64 j ∧ m = .int .u64 (small (o.take j))) (fun _ i => o.length - (intOf i).toNat)
  case atStart => exact ⟨0, Nat.zero_le _, rfl, rfl⟩
  case round =>
    obtain ⟨j, hj, rfl, rfl⟩ := hrel
    by_cases hlt : j < o.length
    · obtain ⟨ad, rfl, hadB, hcell⟩ := hr2.at_ hlt
      obtain ⟨hx0, hx1⟩ := hmem (o.getD j 0) (by rw [List.getD_eq_getElem?_getD, List.getElem?_eq_getElem hlt]; exact List.getElem_mem hlt)
      have HS := Lib.hid (show small (o.take (j + 1)) = small (o.take j) + o.getD j 0 * 256 ^ j by rw [take_snoc hlt, small_snoc, List.length_take, Nat.min_eq_left hj])
      obtain ⟨hb0, hb1⟩ := small_bound (o.take j) (fun x hx => hmem x (List.mem_of_mem_take hx))
      rw [List.length_take, Nat.min_eq_left hj] at hb1
      have HO := Lib.hid (or_dig (small (o.take j)) (o.getD j 0) (8 * j) (256 ^ j) (pow_256 j) hb0 hb1 hx0 (pow_256_of (by omega) _ _ hx1 hb1))
      rw [pow_256 j] at HO
      clear hb1 hmem
      generalize small (o.take j) = b at *
      generalize o.getD j 0 = x at *
      go_wp2
      go_round
      case rel => exact ⟨j + 1, by omega, by go_num, by rw [HS.out, pow_256, ← HO.out]⟩
      case measure => simp [intOf]; omega
    · have hjl : j = o.length := by omega
      subst hjl
      go_wp2
      go_ret
      exact ⟨by first | rfl | rw [List.take_length], h2, hg2⟩

theorem sm_snoc (n : Int) (k : Nat) : sm n (k + 1) = sm n k ++ [n / 256 ^ k % 256] := by
  induction k generalizing n with
  | zero => simp [sm]
  | succ k ih =>
    rw [sm, ih]
    conv => rhs; rw [sm]
    rw [List.cons_append, Int.pow_succ, Int.mul_comm, Int.ediv_ediv_of_nonneg (by omega)]

theorem div_256 (n : Int) (k : Nat) : n / 256 ^ k / 256 = n / 256 ^ (k + 1) := by
  rw [Int.ediv_ediv_of_nonneg (Int.le_of_lt (Int.pow_pos (by omega))), Int.pow_succ]

set_option maxHeartbeats 1000000 in
theorem small_any (n : Int) (h0 : 0 ≤ n) (h1 : n ≤ 18446744073709551615) (z : Int) (hz0 : -9223372036854775808 ≤ z) (hz1 : z ≤ 9223372036854775807) (w : World) :
    Calls Try.prog 33 #[.int .u64 n, .int .i64 z] w fun e w' => ∃ v, e = .returned v ∧ OwnI w' w.heap.size 5 .u8 v (sm n (min z.toNat 8)) ∧ Below w.heap.size w w' := by
  have HC1 := Lib.hid (clamp_any z hz0 hz1 _ rfl)
  have hk8 : min z.toNat 8 ≤ 8 := by omega
  generalize min z.toNat 8 = k at *
  clear hz0 hz1
  go_enter Try.func33, Try.ntmps33
  go_wp2_with (first
    | (go_at_call 35; go_must (refine (HC1.out _).mono ?_); rintro e w1 ⟨rfl, rfl⟩))
  go_loopw [0, 5, 8] (fun m o i wr => ∃ (j : Nat) (q : Int), j ≤ k ∧ i = .int .i64 j ∧ m = .int .u64 q ∧ n / 256 ^ j = q ∧ 0 ≤ q ∧ q ≤ 18446744073709551615 ∧ OwnI wr w.heap.size 5 .u8 o (sm n j) ∧ Below w.heap.size w wr) (fun _ _ i _ => k - (intOf i).toNat)
  case atStart => exact ⟨0, n, Nat.zero_le _, rfl, rfl, by simp, h0, h1, OwnI.nil_ _ _ _ _, Below.refl _ _⟩
  case round =>
    obtain ⟨j, q, hj, rfl, rfl, hq, hq0, hq1, hown, hbel⟩ := hrel
    by_cases hlt : j < k
    · have HS := Lib.hid (sm_snoc n j)
      have HD := Lib.hid (div_256 n j)
      rw [hq] at HS HD
      clear hq
      have hl := sm_length n j
      have hl2 : (sm n j).length ≤ 8 := by omega
      clear hl
      generalize sm n j = done at *
      go_wp2_with (first
        | (at_builtin; go_must (refine wpList_push_int _ rfl (.tmp 10) (.tmp 14) _ rfl w w.heap.size w.heap.size 5 .u8 1 Try.underlying24 info_u8 _ done rfl hown _ 1 (q % 256) rfl (by simp [World.setCell]) (by omega) (by omega) hbel (Nat.le_refl _) hbel.size ?_); intro v1 w1 hown2 hbel2))
      go_roundw
      case rel => exact ⟨j + 1, q / 256, by omega, by go_num, rfl, HD.out.symm, by omega, by omega, by rw [HS.out]; exact hown2, hbel2⟩
      case measure => simp [intOf]; omega
    · have hjk : j = k := by omega
      subst hjk
      clear hq
      go_wp2
      go_ret
      exact ⟨_, rfl, hown, hbel⟩

end Go.Proofs.Ytpohinbhmlcfkaa
