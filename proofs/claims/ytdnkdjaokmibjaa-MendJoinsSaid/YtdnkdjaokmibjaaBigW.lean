/- octet.Small, Reverse, octet.Big. -/
import Derived.Test.YtdnkdjaokmibjaaRdTake
import Derived.BigRegion
set_option linter.unusedSimpArgs false
set_option linter.unusedVariables false
namespace Go.Proofs.Ytdnkdjaokmibjaa
open Go.RowKit

theorem clamp_any (n : Int) (hn0 : -9223372036854775808 ≤ n) (hn1 : n ≤ 9223372036854775807) (k : Nat) (hk : min n.toNat 8 = k) (w : World) :
    Calls Try.prog 82 #[.int .i64 n] w fun e w' => e = .returned (.int .i64 (k : Int)) ∧ w = w' := by
  have HK := Lib.hid hk
  clear hk
  by_cases h0 : n < 0
  · skip
    go_enter Try.func82, Try.ntmps82
    go_wp2
    go_ret
    exact ⟨ret_int (by have := HK.out; omega), rfl⟩
  · by_cases h8 : n ≤ 8
    · skip
      go_enter Try.func82, Try.ntmps82
      go_wp2
      all_goals
        go_ret
        exact ⟨ret_int (by have := HK.out; omega), rfl⟩
    · skip
      go_enter Try.func82, Try.ntmps82
      go_wp2
      go_ret
      exact ⟨ret_int (by have := HK.out; omega), rfl⟩

theorem pow_256_le {k : Nat} (h : k ≤ 7) : (256 : Int) ^ k ≤ 72057594037927936 := by
  rcases (show k = 0 ∨ k = 1 ∨ k = 2 ∨ k = 3 ∨ k = 4 ∨ k = 5 ∨ k = 6 ∨ k = 7 by omega) with rfl | rfl | rfl | rfl | rfl | rfl | rfl | rfl <;> omega

set_option maxHeartbeats 1000000 in
theorem rbig_any {w : World} {lo hi g : Nat} {s : Rs} (h : Rdr w 126 lo hi g s) (n : Int) (hn0 : -9223372036854775808 ≤ n) (hn1 : n ≤ 9223372036854775807) :
    Calls Try.prog 62 #[.pointer (some ⟨g, 0, none⟩), .int .i64 n] w fun e w' => e = .returned (.int .u64 (big (s.take (min n.toNat 8)).1)) ∧
      Rdr w' 126 lo hi g (s.take (min n.toNat 8)).2 ∧ w.grownBy w' (some g) := by
  obtain ⟨A, c, c0, c1, c2, ⟨f1, f2⟩, hc, hr, ha, hl, hby, he0, he1⟩ := h.cells
  have HC1 := Lib.hid (clamp_any n hn0 hn1 _ rfl)
  have HC2 := Lib.hid (take_any h ((min n.toNat 8 : Nat) : Int) (by omega) (by omega))
  rw [Int.toNat_natCast] at HC2
  have hlen := Rs.take_len s (min n.toNat 8)
  have hmem : ∀ x ∈ (s.take (min n.toNat 8)).1, 0 ≤ x ∧ x ≤ 255 := fun x hx => hby x (Rs.take_mem s _ x hx)
  have hk8 : min n.toNat 8 ≤ 8 := by omega
  generalize min n.toNat 8 = k at *
  generalize s.take k = r at *
  obtain ⟨o, s2⟩ := r
  simp only at *
  clear c0 c1 c2 f1 f2 hn0 hn1
  go_enter Try.func62, Try.ntmps62
  go_wp2_with (first
    | (go_at_call 82; go_must (refine (HC1.out _).mono ?_); rintro e w1 ⟨rfl, rfl⟩)
    | (go_at_call 81; go_must (refine HC2.out.mono ?_); rintro e w2 ⟨v2, rfl, hown2, h2, hg2⟩; obtain ⟨A2, c2', rfl, hc2', hr2, _⟩ := hown2.form))
  go_loop [5, 13] (fun m i => ∃ (j : Nat), j ≤ o.length ∧ i = .int .i64 j ∧ m = .int .u64 (big (o.take j))) (fun _ i => o.length - (intOf i).toNat)
  case atStart => exact ⟨0, Nat.zero_le _, rfl, rfl⟩
  case round =>
    obtain ⟨j, hj, rfl, rfl⟩ := hrel
    by_cases hlt : j < o.length
    · obtain ⟨ad, rfl, hadB, hcell⟩ := hr2.at_ hlt
      obtain ⟨hx0, hx1⟩ := hmem (o.getD j 0) (by rw [List.getD_eq_getElem?_getD, List.getElem?_eq_getElem hlt]; exact List.getElem_mem hlt)
      have HS := Lib.hid (show big (o.take (j + 1)) = big (o.take j) * 256 + o.getD j 0 by rw [take_snoc hlt, big_snoc])
      obtain ⟨hb0, hb1⟩ := big_bound (o.take j) (fun x hx => hmem x (List.mem_of_mem_take hx))
      rw [List.length_take, Nat.min_eq_left hj] at hb1
      have hb2 : big (o.take j) < 72057594037927936 := Int.lt_of_lt_of_le hb1 (pow_256_le (by omega))
      clear hb1 hmem
      generalize big (o.take j) = b at *
      generalize o.getD j 0 = x at *
      go_wp2
      go_round
      case rel => exact ⟨j + 1, by omega, by go_num, by rw [HS.out]⟩
      case measure => simp [intOf]; omega
    · have hjl : j = o.length := by omega
      subst hjl
      go_wp2
      go_ret
      exact ⟨by first | rfl | rw [List.take_length], h2, hg2⟩

end Go.Proofs.Ytdnkdjaokmibjaa

namespace Go.Proofs.Ytdnkdjaokmibjaa
open Go.RowKit

theorem pow_256_of {j : Nat} (hj : j ≤ 7) (x s : Int) (hx1 : x ≤ 255) (hs1 : s < 256 ^ j) : s + x * 256 ^ j < 18446744073709551616 := by
  have h1 := pow_256_le hj
  have hp : (0 : Int) < 256 ^ j := Int.pow_pos (by omega)
  have h2 : x * 256 ^ j ≤ 255 * 256 ^ j := Int.mul_le_mul_of_nonneg_right hx1 (by omega)
  omega

theorem sm_snoc (n : Int) (k : Nat) : sm n (k + 1) = sm n k ++ [n / 256 ^ k % 256] := by
  induction k generalizing n with
  | zero => simp [sm]
  | succ k ih =>
    rw [sm, ih]
    conv => rhs; rw [sm]
    rw [List.cons_append, Int.pow_succ, Int.mul_comm, Int.ediv_ediv_of_nonneg (by omega)]

theorem div_256 (n : Int) (k : Nat) : n / 256 ^ k / 256 = n / 256 ^ (k + 1) := by
  rw [Int.ediv_ediv_of_nonneg (Int.le_of_lt (Int.pow_pos (by omega))), Int.pow_succ]

set_option maxHeartbeats 1000000 in
theorem small_any (n : Int) (h0 : 0 ≤ n) (h1 : n ≤ 18446744073709551615) (z : Int) (hz0 : -9223372036854775808 ≤ z) (hz1 : z ≤ 9223372036854775807) (w : World) :
    Calls Try.prog 64 #[.int .u64 n, .int .i64 z] w fun e w' => ∃ v, e = .returned v ∧ OwnI w' w.heap.size 5 .u8 v (sm n (min z.toNat 8)) ∧ Below w.heap.size w w' := by
  have HC1 := Lib.hid (clamp_any z hz0 hz1 _ rfl)
  have hk8 : min z.toNat 8 ≤ 8 := by omega
  generalize min z.toNat 8 = k at *
  clear hz0 hz1
  go_enter Try.func64, Try.ntmps64
  go_wp2_with (first
    | (go_at_call 82; go_must (refine (HC1.out _).mono ?_); rintro e w1 ⟨rfl, rfl⟩))
  go_loopw [0, 5, 8] (fun m o i wr => ∃ (j : Nat) (q : Int), j ≤ k ∧ i = .int .i64 j ∧ m = .int .u64 q ∧ n / 256 ^ j = q ∧ 0 ≤ q ∧ q ≤ 18446744073709551615 ∧ OwnI wr w.heap.size 5 .u8 o (sm n j) ∧ Below w.heap.size w wr) (fun _ _ i _ => k - (intOf i).toNat)
  case atStart => exact ⟨0, n, Nat.zero_le _, rfl, rfl, by simp, h0, h1, OwnI.nil_ _ _ _ _, Below.refl _ _⟩
  case round =>
    obtain ⟨j, q, hj, rfl, rfl, hq, hq0, hq1, hown, hbel⟩ := hrel
    by_cases hlt : j < k
    · have HS := Lib.hid (sm_snoc n j)
      have HD := Lib.hid (div_256 n j)
      rw [hq] at HS HD
      clear hq
      have hl := sm_length n j
      have hl2 : (sm n j).length ≤ 8 := by omega
      clear hl
      generalize sm n j = done at *
      go_wp2_with (first
        | (at_builtin; go_must (refine wpList_push_int _ rfl (.tmp 10) (.tmp 14) _ rfl w w.heap.size w.heap.size 5 .u8 1 Try.underlying31 info_u8 _ done rfl hown _ 1 (q % 256) rfl (by simp [World.setCell]) (by omega) (by omega) hbel (Nat.le_refl _) hbel.size ?_); intro v1 w1 hown2 hbel2))
      go_roundw
      case rel => exact ⟨j + 1, q / 256, by omega, by go_num, rfl, HD.out.symm, by omega, by omega, by rw [HS.out]; exact hown2, hbel2⟩
      case measure => simp [intOf]; omega
    · have hjk : j = k := by omega
      subst hjk
      clear hq
      go_wp2
      go_ret
      exact ⟨_, rfl, hown, hbel⟩

/-- the first i and the last i elements have changed places -/
def sw (l : List Int) : Nat → List Int
  | 0 => l
  | i + 1 => ((sw l i).set i ((sw l i).getD (l.length - 1 - i) 0)).set (l.length - 1 - i) ((sw l i).getD i 0)
theorem sw_length (l : List Int) (i : Nat) : (sw l i).length = l.length := by
  induction i with
  | zero => rfl
  | succ i ih => simp [sw, ih]
theorem getD_lt {l : List Int} {k : Nat} (h : k < l.length) : l[k]? = some (l.getD k 0) := by
  simp [List.getD, List.getElem?_eq_getElem h]
theorem sw_get (l : List Int) (i : Nat) (hi : 2 * i ≤ l.length) (k : Nat) (hk : k < l.length) : (sw l i).getD k 0 = if k < i ∨ l.length - i ≤ k then l.getD (l.length - 1 - k) 0 else l.getD k 0 := by
  induction i generalizing k with
  | zero => simp [sw]; omega
  | succ i ih =>
    have h1 := ih (by omega) i (by omega)
    have h2 := ih (by omega) (l.length - 1 - i) (by omega)
    have h3 := ih (by omega) k hk
    rw [if_neg (by omega)] at h1 h2
    simp only [sw, List.getD_eq_getElem?_getD, List.getElem?_set, List.length_set, sw_length] at h1 h2 h3 ⊢
    by_cases e1 : l.length - 1 - i = k
    · have : l.length - 1 - k = i := by omega
      rw [if_pos e1, if_pos (by omega), if_pos (by omega), this]
      simpa using h1
    · rw [if_neg e1]
      by_cases e2 : i = k
      · subst e2
        rw [if_pos rfl, if_pos (by omega), if_pos (by omega)]
        simpa using h2
      · rw [if_neg e2, h3]
        by_cases e3 : k < i ∨ l.length - i ≤ k
        · rw [if_pos e3, if_pos (by omega)]
        · rw [if_neg e3, if_neg (by omega)]
theorem sw_rev (l : List Int) (i : Nat) (hi : 2 * i ≤ l.length) (hi2 : l.length ≤ 2 * i + 1) : sw l i = l.reverse := by
  apply List.ext_getElem?
  intro k
  by_cases hk : k < l.length
  · rw [getD_lt (by rw [sw_length]; exact hk), sw_get l i hi k hk, List.getElem?_reverse hk, getD_lt (by omega)]
    by_cases e : k < i ∨ l.length - i ≤ k
    · rw [if_pos e]
    · rw [if_neg e, show l.length - 1 - k = k by omega]
  · rw [List.getElem?_eq_none (by rw [sw_length]; omega), List.getElem?_eq_none (by simp; omega)]

set_option maxHeartbeats 1000000 in
theorem rev_any {w : World} {base : Nat} {v : Value} {l : List Int} (h : OwnI w base 5 .u8 v l) (hn : l.length ≤ 1000000000) :
    Calls Try.prog 65 #[v] w fun e w' => e = .returned (.tuple #[]) ∧ OwnI w' base 5 .u8 v l.reverse ∧ Below base w w' := by
  obtain ⟨A, c, rfl, hc, hr, hA⟩ := h.form
  go_enter Try.func65, Try.ntmps65
  go_wp2
  go_loopw [2, 3] (fun a b wr => ∃ i : Nat, 2 * i ≤ l.length ∧ a = .int .i64 i ∧ b = .int .i64 ((l.length : Int) - 1 - (i : Int)) ∧ OwnI wr base 5 .u8 (.slice A l.length c) (sw l i) ∧ Below base w wr)
    (fun a _ _ => l.length - (intOf a).toNat)
  case atStart => exact ⟨0, by omega, rfl, by simp, h, Below.refl _ _⟩
  case round =>
    obtain ⟨i, hi, rfl, rfl, hown, hbel⟩ := hrel
    by_cases hlt : 2 * i + 1 < l.length
    · obtain ⟨g, cap, hv, hgb, hgl⟩ := World.ownsRow.form hown (by rw [sw_length]; omega)
      simp only [Value.slice.injEq, sw_length] at hv
      obtain ⟨rfl, _, rfl⟩ := hv
      obtain ⟨j, hj⟩ : ∃ j : Nat, l.length - 1 - i = j := ⟨_, rfl⟩
      have hji : (l.length : Int) - 1 - (i : Int) = (j : Int) := by omega
      have hown1 : wr.ownsRow base 5 1 (.slice (some ⟨g, 0, none⟩) l.length c) l.length (ic .u8 (sw l i)) := by have := hown; unfold OwnI at this; rwa [sw_length] at this
      have ci : wr.cell? ⟨g, i, none⟩ = some (.int .u8 ((sw l i).getD i 0)) := by rw [hown1.cellAt i (by omega), ic_get (by rw [sw_length]; omega)]
      have cj : wr.cell? ⟨g, j, none⟩ = some (.int .u8 ((sw l i).getD j 0)) := by rw [hown1.cellAt j (by omega), ic_get (by rw [sw_length]; omega)]
      have fi := hown1.frozenAt i
      have fj := hown1.frozenAt j
      have hij : i < j := by omega
      have hjl : j < l.length := by omega
      have HS : Hid (((sw l i).set i ((sw l i).getD j 0)).set j ((sw l i).getD i 0) = sw l (i + 1)) := by
        show _ = _
        simp only [sw, hj]
      have HJ := Lib.hid hj
      have HO := Lib.hid hown1
      rw [hji]
      clear hj hji hown1 hown h hr
      generalize (sw l i).getD i 0 = x at *
      generalize (sw l i).getD j 0 = y at *
      go_wp2
      go_region
      go_wp2
      go_roundw
      case rel =>
        have h1 := (World.ownsRow.stored HO.out i (.int .u8 y)).1
        rw [ic_set] at h1
        have h2 := (World.ownsRow.stored h1 j (.int .u8 x)).1
        rw [ic_set, HS.out] at h2
        refine ⟨i + 1, by omega, by go_num, ?_, ?_, ((hbel.setCell (by exact hgb) _).setCell (by exact hgb) _).drew⟩
        · have := HJ.out
          exact congrArg (Value.int .i64) (by omega)
        · unfold OwnI
          rw [sw_length]
          exact h2
      case measure => simp [intOf]; omega
    · have hge : ¬ ((i : Int) < (l.length : Int) - 1 - (i : Int)) := by omega
      clear hr
      go_wp2
      go_end0
      rw [sw_rev l i hi (by omega)] at hown
      exact ⟨rfl, hown, hbel⟩

def bg (n : Int) (k : Nat) : List Int := (sm n k).reverse
theorem big_any (n : Int) (h0 : 0 ≤ n) (h1 : n ≤ 18446744073709551615) (z : Int) (hz0 : -9223372036854775808 ≤ z) (hz1 : z ≤ 9223372036854775807) (w : World) :
    Calls Try.prog 49 #[.int .u64 n, .int .i64 z] w fun e w' => ∃ v, e = .returned v ∧ OwnI w' w.heap.size 5 .u8 v (bg n (min z.toNat 8)) ∧ Below w.heap.size w w' := by
  have HC := Lib.hid (small_any n h0 h1 z hz0 hz1 w)
  have hl := sm_length n (min z.toNat 8)
  have hk8 : min z.toNat 8 ≤ 8 := by omega
  have HB := Lib.hid (show bg n (min z.toNat 8) = (sm n (min z.toNat 8)).reverse from rfl)
  generalize min z.toNat 8 = k at *
  have hl2 : (sm n k).length ≤ 8 := by omega
  clear hl
  generalize sm n k = l at *
  go_enter Try.func49, Try.ntmps49
  go_wp2_with (first
    | (go_at_call 64; go_must (refine HC.out.mono ?_); rintro e w1 ⟨v1, rfl, hown1, hbel1⟩)
    | (go_at_call 65; go_must (refine (rev_any hown1 (by omega)).mono ?_); rintro e w2 ⟨rfl, hown2, hbel2⟩))
  go_ret
  rw [HB.out]
  exact ⟨_, rfl, hown2, hbel1.trans hbel2⟩

end Go.Proofs.Ytdnkdjaokmibjaa
