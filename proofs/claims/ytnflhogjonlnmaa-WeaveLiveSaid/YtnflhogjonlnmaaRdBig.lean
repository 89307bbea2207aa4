/- octet.Reader: Big; clamp. -/
import Derived.Test.YtnflhogjonlnmaaRdTake
set_option linter.unusedSimpArgs false
set_option linter.unusedVariables false
namespace Go.Proofs.Ytnflhogjonlnmaa
open Go.RowKit

theorem clamp_any (n : Int) (hn0 : -9223372036854775808 ≤ n) (hn1 : n ≤ 9223372036854775807) (k : Nat) (hk : min n.toNat 8 = k) (w : World) :
    Calls Try.prog 80 #[.int .i64 n] w fun e w' => e = .returned (.int .i64 (k : Int)) ∧ w = w' := by
  have HK := Lib.hid hk
  clear hk
  by_cases h0 : n < 0
  · skip
    go_enter Try.func80, Try.ntmps80
    go_wp2
    go_ret
    exact ⟨ret_int (by have := HK.out; omega), rfl⟩
  · by_cases h8 : n ≤ 8
    · skip
      go_enter Try.func80, Try.ntmps80
      go_wp2
      all_goals
        go_ret
        exact ⟨ret_int (by have := HK.out; omega), rfl⟩
    · skip
      go_enter Try.func80, Try.ntmps80
      go_wp2
      go_ret
      exact ⟨ret_int (by have := HK.out; omega), rfl⟩

theorem pow_256_le {k : Nat} (h : k ≤ 7) : (256 : Int) ^ k ≤ 72057594037927936 := by
  rcases (show k = 0 ∨ k = 1 ∨ k = 2 ∨ k = 3 ∨ k = 4 ∨ k = 5 ∨ k = 6 ∨ k = 7 by omega) with rfl | rfl | rfl | rfl | rfl | rfl | rfl | rfl <;> omega

set_option maxHeartbeats 1000000 in
theorem rbig_any {w : World} {lo hi g : Nat} {s : Rs} (h : Rdr w 136 lo hi g s) (n : Int) (hn0 : -9223372036854775808 ≤ n) (hn1 : n ≤ 9223372036854775807) :
    Calls Try.prog 72 #[.pointer (some ⟨g, 0, none⟩), .int .i64 n] w fun e w' => e = .returned (.int .u64 (big (s.take (min n.toNat 8)).1)) ∧
      Rdr w' 136 lo hi g (s.take (min n.toNat 8)).2 ∧ w.grownBy w' (some g) := by
  obtain ⟨A, c, c0, c1, c2, ⟨f1, f2⟩, hc, hr, ha, hl, hby, he0, he1⟩ := h.cells
  have HC1 := Lib.hid (clamp_any n hn0 hn1 _ rfl)
  have HC2 := Lib.hid (take_any h ((min n.toNat 8 : Nat) : Int) (by omega) (by omega))
  rw [Int.toNat_natCast] at HC2
  have hlen := Rs.take_len s (min n.toNat 8)
  have hmem : ∀ x ∈ (s.take (min n.toNat 8)).1, 0 ≤ x ∧ x ≤ 255 := fun x hx => hby x (Rs.take_mem s _ x hx)
  have hk8 : min n.toNat 8 ≤ 8 := by omega
  generalize min n.toNat 8 = k at *
  generalize s.take k = r at *
  obtain ⟨o, s2⟩ := r
  simp only at *
  clear c0 c1 c2 f1 f2 hn0 hn1
  go_enter Try.func72, Try.ntmps72
  go_wp2_with (first
    | (go_at_call 80; go_must (refine (HC1.out _).mono ?_); rintro e w1 ⟨rfl, rfl⟩)
    | (go_at_call 79; go_must (refine HC2.out.mono ?_); rintro e w2 ⟨v2, rfl, hown2, h2, hg2⟩; obtain ⟨A2, c2', rfl, hc2', hr2, _⟩ := hown2.form))
  go_loop [5, 13] (fun m i => ∃ (j : Nat), j ≤ o.length ∧ i = .int .i64 j ∧ m = .int .u64 (big (o.take j))) (fun _ i => o.length - (intOf i).toNat)
  case atStart => exact ⟨0, Nat.zero_le _, rfl, rfl⟩
  case round =>
    obtain ⟨j, hj, rfl, rfl⟩ := hrel
    by_cases hlt : j < o.length
    · obtain ⟨ad, rfl, hadB, hcell⟩ := hr2.at_ hlt
      obtain ⟨hx0, hx1⟩ := hmem (o.getD j 0) (by rw [List.getD_eq_getElem?_getD, List.getElem?_eq_getElem hlt]; exact List.getElem_mem hlt)
      have HS := Lib.hid (show big (o.take (j + 1)) = big (o.take j) * 256 + o.getD j 0 by rw [take_snoc hlt, big_snoc])
      obtain ⟨hb0, hb1⟩ := big_bound (o.take j) (fun x hx => hmem x (List.mem_of_mem_take hx))
      rw [List.length_take, Nat.min_eq_left hj] at hb1
      have hb2 : big (o.take j) < 72057594037927936 := Int.lt_of_lt_of_le hb1 (pow_256_le (by omega))
      clear hb1 hmem
      generalize big (o.take j) = b at *
      generalize o.getD j 0 = x at *
      go_wp2
      go_round
      case rel => exact ⟨j + 1, by omega, by go_num, by rw [HS.out]⟩
      case measure => simp [intOf]; omega
    · have hjl : j = o.length := by omega
      subst hjl
      go_wp2
      go_ret
      exact ⟨by first | rfl | rw [List.take_length], h2, hg2⟩

end Go.Proofs.Ytnflhogjonlnmaa
