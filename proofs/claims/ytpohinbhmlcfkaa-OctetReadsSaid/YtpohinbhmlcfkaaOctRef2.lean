/- What the reference's reader computes: Big, Small, Num, Lump. -/
import Derived.Test.YtpohinbhmlcfkaaOctRef
namespace Go.Proofs.Ytpohinbhmlcfkaa
open Go.RowKit

theorem min8 (n : Int) : (min n 8).toNat = min n.toNat 8 := by omega

set_option maxHeartbeats 1000000 in
theorem bigref_any {w : World} {lo hi g : Nat} {s : Rs} (hR : Rdr w 52 lo hi g s) (n : Int) (hn0 : -9223372036854775808 ≤ n) (hn1 : n ≤ 9223372036854775807) :
    Calls Try.prog 26 #[.pointer (some ⟨g, 0, none⟩), .int .i64 n] w fun e w' => e = .returned (.int .u64 (big (s.take (min n.toNat 8)).1)) ∧
      Rdr w' 52 lo hi g (s.take (min n.toNat 8)).2 ∧ w.grownBy w' (some g) := by
  obtain ⟨A, c, c0, c1, c2, ⟨f1, f2⟩, hc, hr, ha, hl, hby, he0, he1⟩ := hR.cells
  have HC : ∀ m : Int, m = min n 8 → Calls Try.prog 29 #[.pointer (some ⟨g, 0, none⟩), .int .i64 m] w fun e w' => ∃ v, e = .returned v ∧ OwnI w' w.heap.size 5 .u8 v (s.take (min n.toNat 8)).1 ∧
      Rdr w' 52 lo hi g (s.take (min n.toNat 8)).2 ∧ w.grownBy w' (some g) := fun m hm => by
    have h := takeref_any hR m (by omega) (by omega)
    rw [hm, min8] at h
    rw [hm]
    exact h
  have HC2 := Lib.hid HC
  have hlen := Rs.take_len s (min n.toNat 8)
  have hmem : ∀ x ∈ (s.take (min n.toNat 8)).1, 0 ≤ x ∧ x ≤ 255 := fun x hx => hby x (Rs.take_mem s _ x hx)
  have hk8 : min n.toNat 8 ≤ 8 := by omega
  clear HC
  generalize min n.toNat 8 = k at *
  generalize s.take k = r at *
  obtain ⟨o, s2⟩ := r
  simp only at *
  have ho8 : o.length ≤ 8 := by omega
  clear c0 c1 c2 f1 f2 hn0 hn1 hlen hk8
  by_cases hn8 : n ≤ 8
  all_goals
    go_enter Try.func26, Try.ntmps26
    go_wp2_with (first
      | (go_at_call 29; go_must (refine (HC2.out _ (by omega)).mono ?_); rintro e w2 ⟨v2, rfl, hown2, h2, hg2⟩; obtain ⟨A2, c2', rfl, hc2', hr2, _⟩ := hown2.form))
    go_loop [6, 7] (fun m i => ∃ (j : Nat), j ≤ o.length ∧ i = .int .i64 j ∧ m = .int .u64 (big (o.take j))) (fun _ i => o.length - (intOf i).toNat)
    case atStart => exact ⟨0, Nat.zero_le _, rfl, rfl⟩
    case round =>
      obtain ⟨j, hj, rfl, rfl⟩ := hrel
      by_cases hlt : j < o.length
      · obtain ⟨ad, rfl, hadB, hcell⟩ := hr2.at_ hlt
        obtain ⟨hx0, hx1⟩ := hmem (o.getD j 0) (by rw [List.getD_eq_getElem?_getD, List.getElem?_eq_getElem hlt]; exact List.getElem_mem hlt)
        have HS := Lib.hid (show big (o.take (j + 1)) = big (o.take j) * 256 + o.getD j 0 by rw [take_snoc hlt, big_snoc])
        obtain ⟨hb0, hb1⟩ := big_bound (o.take j) (fun x hx => hmem x (List.mem_of_mem_take hx))
        rw [List.length_take, Nat.min_eq_left hj] at hb1
        have hb2 : big (o.take j) < 72057594037927936 := Int.lt_of_lt_of_le hb1 (pow_256_le (by omega))
        have HO := Lib.hid (or_low (big (o.take j)) (o.getD j 0) hb0 hb2 hx0 hx1)
        clear hb1 hmem
        generalize big (o.take j) = b at *
        generalize o.getD j 0 = x at *
        go_wp2
        go_round
        case rel => exact ⟨j + 1, by omega, by go_num, by rw [HS.out, ← HO.out]⟩
        case measure => simp [intOf]; omega
      · have hjl : j = o.length := by omega
        subst hjl
        go_wp2
        go_ret
        exact ⟨by first | rfl | rw [List.take_length], h2, hg2⟩

set_option maxHeartbeats 1000000 in
theorem smallref_any {w : World} {lo hi g : Nat} {s : Rs} (hR : Rdr w 52 lo hi g s) (n : Int) (hn0 : -9223372036854775808 ≤ n) (hn1 : n ≤ 9223372036854775807) :
    Calls Try.prog 28 #[.pointer (some ⟨g, 0, none⟩), .int .i64 n] w fun e w' => e = .returned (.int .u64 (small (s.take (min n.toNat 8)).1)) ∧
      Rdr w' 52 lo hi g (s.take (min n.toNat 8)).2 ∧ w.grownBy w' (some g) := by
  obtain ⟨A, c, c0, c1, c2, ⟨f1, f2⟩, hc, hr, ha, hl, hby, he0, he1⟩ := hR.cells
  have HC : ∀ m : Int, m = min n 8 → Calls Try.prog 29 #[.pointer (some ⟨g, 0, none⟩), .int .i64 m] w fun e w' => ∃ v, e = .returned v ∧ OwnI w' w.heap.size 5 .u8 v (s.take (min n.toNat 8)).1 ∧
      Rdr w' 52 lo hi g (s.take (min n.toNat 8)).2 ∧ w.grownBy w' (some g) := fun m hm => by
    have h := takeref_any hR m (by omega) (by omega)
    rw [hm, min8] at h
    rw [hm]
    exact h
  have HC2 := Lib.hid HC
  have hlen := Rs.take_len s (min n.toNat 8)
  have hmem : ∀ x ∈ (s.take (min n.toNat 8)).1, 0 ≤ x ∧ x ≤ 255 := fun x hx => hby x (Rs.take_mem s _ x hx)
  have hk8 : min n.toNat 8 ≤ 8 := by omega
  clear HC
  generalize min n.toNat 8 = k at *
  generalize s.take k = r at *
  obtain ⟨o, s2⟩ := r
  simp only at *
  have ho8 : o.length ≤ 8 := by omega
  have HM := Lib.hid hmem
  clear c0 c1 c2 f1 f2 hn0 hn1 hlen hk8 hmem
  by_cases hn8 : n ≤ 8
  all_goals
    go_enter Try.func28, Try.ntmps28
    go_wp2_with (first
      | (go_at_call 29; go_must (refine (HC2.out _ (by omega)).mono ?_); rintro e w2 ⟨v2, rfl, hown2, h2, hg2⟩; obtain ⟨A2, c2', rfl, hc2', hr2, _⟩ := hown2.form))
    go_loop [6, 7] (fun m i => ∃ (j : Nat), j ≤ o.length ∧ i = .int .i64 ((j : Int) - 1) ∧ m = .int .u64 (small (o.drop j))) (fun _ i => (intOf i + 1).toNat)
    case atStart => exact ⟨o.length, Nat.le_refl _, rfl, by simp [small]⟩
    case round =>
      obtain ⟨j, hj, rfl, rfl⟩ := hrel
      by_cases hlt : 0 < j
      · obtain ⟨p, rfl⟩ : ∃ p, j = p + 1 := ⟨j - 1, by omega⟩
        obtain ⟨ad, rfl, hadB, hcell⟩ := hr2.at_ (j := p) (by omega)
        obtain ⟨hx0, hx1⟩ := HM.out (o.getD p 0) (by rw [List.getD_eq_getElem?_getD, List.getElem?_eq_getElem (by omega)]; exact List.getElem_mem (by omega))
        have HS := Lib.hid (show small (o.drop p) = o.getD p 0 + 256 * small (o.drop (p + 1)) by rw [drop_cons (show p < o.length by omega), small])
        obtain ⟨hb0, hb1⟩ := small_bound (o.drop (p + 1)) (fun x hx => HM.out x (List.mem_of_mem_drop hx))
        rw [List.length_drop] at hb1
        have hb2 : small (o.drop (p + 1)) < 72057594037927936 := Int.lt_of_lt_of_le hb1 (pow_256_le (by omega))
        have HO := Lib.hid (or_low (small (o.drop (p + 1))) (o.getD p 0) hb0 hb2 hx0 hx1)
        rw [show ((p + 1 : Nat) : Int) - 1 = (p : Int) by omega]
        clear hb1
        generalize small (o.drop (p + 1)) = b at *
        generalize o.getD p 0 = x at *
        go_wp2
        go_round
        case rel => exact ⟨p, by omega, rfl, by rw [HS.out, HO.out]; exact congrArg (Value.int .u64) (by omega)⟩
        case measure => simp [intOf]
      · have hj0 : j = 0 := by omega
        subst hj0
        go_wp2
        go_ret
        exact ⟨by first | rfl | simp, h2, hg2⟩

end Go.Proofs.Ytpohinbhmlcfkaa
