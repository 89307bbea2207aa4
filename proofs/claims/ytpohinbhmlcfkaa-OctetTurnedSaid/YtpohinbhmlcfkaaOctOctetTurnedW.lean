/- The walk of OctetTurned. -/
import Derived.Test.YtpohinbhmlcfkaaOctKnown
import Derived.Test.YtpohinbhmlcfkaaOctLaws
import Derived.Deep.DeepCutAuto
namespace Go.Proofs.Ytpohinbhmlcfkaa.octetTurned
open Go.RowKit

theorem take_all (l : List Int) : Rs.take ⟨l, 0, 0⟩ l.length = (l, ⟨l, l.length, 0⟩) := by simp [Rs.take]
theorem sm_get (n : Int) (k : Nat) : (bg n k).length = k ∧ ∀ j, j < k → (bg n k).getD j 0 = (sm n k).getD (k - 1 - j) 0 := by
  have hl := sm_length n k
  refine ⟨by simp [bg, hl], fun j hj => ?_⟩
  unfold bg
  rw [List.getD_eq_getElem?_getD, List.getD_eq_getElem?_getD, List.getElem?_reverse (by omega), hl]

theorem and_mask (n : Int) (j : Nat) (h0 : 0 ≤ n) (h1 : n ≤ 18446744073709551615) (hj : j < 8) : bits .and .u64 n (IntKind.u64.wrap (IntKind.u64.wrap (2 ^ (8 * j)) - 1)) = n % 256 ^ j := by
  have hp : ((2 ^ (8 * j) : Nat) : Int) = 2 ^ (8 * j) := by simp
  have hle : (2 ^ (8 * j) : Nat) ≤ 2 ^ 56 := Nat.pow_le_pow_right (by omega) (by omega)
  have hpos : 0 < (2 ^ (8 * j) : Nat) := Nat.two_pow_pos _
  have hw : IntKind.u64.wrap (IntKind.u64.wrap (2 ^ (8 * j)) - 1) = ((2 ^ (8 * j) - 1 : Nat) : Int) := by
    rw [IntKind.wrap_u64, IntKind.wrap_u64, ← hp]
    omega
  rw [hw, u64_and n _ h0 (by omega) (by omega) (by omega), Int.toNat_natCast, Nat.and_two_pow_sub_one_eq_mod, pow_256, ← hp, Int.natCast_emod, Int.toNat_of_nonneg h0]

set_option maxRecDepth 100000 in
set_option maxHeartbeats 1000000 in
theorem walk (w : World) (n : Int) (n0 : 0 ≤ n) (n1 : n ≤ 18446744073709551615) (z : Int) (z0 : -9223372036854775808 ≤ z) (z1 : z ≤ 9223372036854775807) :
    Calls Try.prog 9 #[.int .u64 n, .int .i64 z] w fun e w' => e = .returned (.bool true) ∧ Below w.heap.size w w' := by
  have C1 := Lib.hid (fun W : World => small_any n n0 n1 z z0 z1 W)
  have C2 := Lib.hid (fun W : World => big_any n n0 n1 z z0 z1 W)
  have hk8 : min z.toNat 8 ≤ 8 := by omega
  have HM : Hid ((min z.toNat 8 : Nat) = (min (max z 0) 8).toNat) := by show _ = _; omega
  have hs256 := small_sm (min z.toNat 8) n
  have HBS := Lib.hid (sm_bytes (min z.toNat 8) n)
  have hb256 : big (bg n (min z.toNat 8)) = n % 256 ^ (min z.toNat 8) := by rw [bg, big_rev, hs256]
  have HBB : Hid (∀ x ∈ bg n (min z.toNat 8), 0 ≤ x ∧ x ≤ 255) := fun x hx => HBS.out x (by simpa [bg] using hx)
  obtain ⟨la, hget⟩ := sm_get n (min z.toNat 8)
  have lb := sm_length n (min z.toNat 8)
  have C3 : Hid (∀ (W : World) (lo hi g : Nat), Rdr W 56 lo hi g ⟨bg n (min z.toNat 8), 0, 0⟩ → Calls Try.prog 25 #[.pointer (some ⟨g, 0, none⟩), .int .i64 z] W fun e w' =>
      e = .returned (.int .u64 (n % 256 ^ (min z.toNat 8))) ∧ Rdr w' 56 lo hi g ⟨bg n (min z.toNat 8), (bg n (min z.toNat 8)).length, 0⟩ ∧ W.grownBy w' (some g)) := fun W lo hi g h => by
    have h2 := rbig_any h z z0 z1
    have h3 := take_all (bg n (min z.toNat 8))
    rw [la] at h3
    rw [h3] at h2
    simp only at h2
    rw [hb256] at h2
    rw [la]
    exact h2
  have C4 : Hid (∀ (W : World) (lo hi g : Nat), Rdr W 56 lo hi g ⟨sm n (min z.toNat 8), 0, 0⟩ → Calls Try.prog 27 #[.pointer (some ⟨g, 0, none⟩), .int .i64 z] W fun e w' =>
      e = .returned (.int .u64 (n % 256 ^ (min z.toNat 8))) ∧ Rdr w' 56 lo hi g ⟨sm n (min z.toNat 8), (sm n (min z.toNat 8)).length, 0⟩ ∧ W.grownBy w' (some g)) := fun W lo hi g h => by
    have h2 := rsmall_any h z z0 z1
    have h3 := take_all (sm n (min z.toNat 8))
    rw [lb] at h3
    rw [h3] at h2
    simp only at h2
    rw [hs256] at h2
    rw [lb]
    exact h2
  generalize min z.toNat 8 = k at *
  have HS := Lib.hid hs256
  have HB := Lib.hid hb256
  have HGet := Lib.hid hget
  clear hs256 hb256 hget
  generalize bg n k = ba at *
  generalize sm n k = sb at *
  have t1 : ((ba.length : Int) != (k : Int)) = false := by simp [la]
  have t2 : ((sb.length : Int) != (k : Int)) = false := by simp [lb]
  have LA := Lib.hid la
  have LB := Lib.hid lb
  clear la lb
  go_enter Try.func9, Try.ntmps9
  go_upto_region 3 with (first
    | (go_at_call 10; refine (known_any _).mono ?_; rintro e w1 ⟨rfl, hbel⟩))
  go_cut [5] (fun s wx => s = .int .i64 (k : Int) ∧ wx = w1)
  case first =>
    go_wp2_with fail
    all_goals
      go_meet
      exact ⟨congrArg (Value.int .i64) (by have := HM.out; omega), rfl⟩
  case rest =>
    obtain ⟨rfl, rfl⟩ := hcut
    go_wp2_with (first
      | (go_at_call 32; (with_reducible refine (C2.out _).mono ?_); rintro e w3 ⟨v3, rfl, hown3, hbel3⟩; obtain ⟨A3, c3, rfl, hc3, hr3, _⟩ := hown3.form)
      | (go_at_call 33; (with_reducible refine (C1.out _).mono ?_); rintro e w4 ⟨v4, rfl, hown4, hbel4⟩; obtain ⟨A4, c4, rfl, hc4, hr4, _⟩ := hown4.form))
    have hr3' := hr3.below hbel4 (Nat.le_refl _)
    go_loopw [8] (fun i wr => ∃ j : Nat, j ≤ k ∧ i = .int .i64 j ∧ ∃ m, wr = w4.drewN m) (fun i _ => k - (intOf i).toNat)
    case atStart => exact ⟨0, Nat.zero_le _, rfl, 0, rfl⟩
    case round =>
      obtain ⟨j, hj, rfl, m, rfl⟩ := hrel
      by_cases hlt : j < k
      · obtain ⟨ad3, rfl, _, cell3⟩ := hr3'.at_ (j := j) (by have := LA.out; omega)
        obtain ⟨ad4, rfl, _, cell4⟩ := hr4.at_ (j := k - 1 - j) (by have := LB.out; omega)
        rw [HGet.out j hlt] at cell3
        generalize sb.getD (k - 1 - j) 0 = x at *
        have i1 : (j : Int) < (ba.length : Int) := by have := LA.out; omega
        have i2 : (k : Int) - 1 - (j : Int) < (sb.length : Int) := by have := LB.out; omega
        have i3 : 0 ≤ (k : Int) - 1 - (j : Int) := by omega
        have i4 : ((k : Int) - 1 - (j : Int)).toNat = k - 1 - j := by omega
        have e1 := IntWalk.i64_in ((k : Int) - 1) (by omega)
        have e2 := IntWalk.i64_in ((k : Int) - 1 - (j : Int)) (by omega)
        go_wp2
        go_quiet (fail)
        clear e1 e2
        go_wp2
        go_roundw
        case rel => exact ⟨j + 1, by omega, by go_num, _, rfl⟩
        case measure => simp [intOf]; omega
      · have hjk : j = k := by omega
        subst hjk
        clear hj hlt
        by_cases h8 : j < 8
        · have HW : (n % 256 ^ j == bits .and .u64 n (IntKind.u64.wrap (IntKind.u64.wrap (2 ^ (8 * j)) - 1))) = true := by rw [and_mask n j n0 n1 h8]; simp
          go_wp2_with (first
            | (go_at_call 12; (with_reducible refine (new_n A3 c3 ba.length ba rfl HBB.out (by have := LA.out; omega) _ _ (hr3'.drewN m)).mono ?_); rintro e w5 ⟨g5, rfl, hgl5, h5, hbel5⟩)
            | (go_at_call 12; (with_reducible refine (new_n A4 c4 sb.length sb rfl HBS.out (by have := LB.out; omega) _ _ ((hr4.drewN m).below hbel5 (Nat.le_refl _))).mono ?_); rintro e w6 ⟨g6, rfl, hgl6, h6, hbel6⟩; have h5' := h5.below hbel6)
            | (go_at_call 25; (with_reducible refine (C3.out _ _ _ _ h5').mono ?_); rintro e w7 ⟨rfl, h7, hg7⟩; have h6' := h6.keep hg7 (by have := h5.lt; omega) (.inl (by have := h5.lt; omega)))
            | (go_at_call 27; (with_reducible refine (C4.out _ _ _ _ h6').mono ?_); rintro e w8 ⟨rfl, h8', hg8⟩; have h7' := h7.keep hg8 (by have := h5.lt; omega) (.inr (by have := h5.lt; omega)))
            | (go_at_call 18; (with_reducible refine (left_any h7').mono ?_); rintro e w9 ⟨rfl, nq, rfl⟩)
            | (go_at_call 18; (with_reducible refine (left_any (h8'.drewN _)).mono ?_); rintro e w10 ⟨rfl, nq2, rfl⟩))
          go_ret
          have k1 := below_then (below_then hbel hbel3) hbel4
          have k2 := below_then (below_then (below_drewN k1 m) hbel5) hbel6
          have k3 := below_one k2 hg7 (by have := k1.size; simp at hgl5; omega)
          exact ⟨rfl, below_drewN (below_one k3 hg8 (by have := k1.size; have := h5.lt; simp at hgl5; omega)) _⟩
        · have HW : (n % 256 ^ j == n) = true := by
            have : j = 8 := by omega
            subst this
            simp
            omega
          go_wp2_with (first
            | (go_at_call 12; (with_reducible refine (new_n A3 c3 ba.length ba rfl HBB.out (by have := LA.out; omega) _ _ (hr3'.drewN m)).mono ?_); rintro e w5 ⟨g5, rfl, hgl5, h5, hbel5⟩)
            | (go_at_call 12; (with_reducible refine (new_n A4 c4 sb.length sb rfl HBS.out (by have := LB.out; omega) _ _ ((hr4.drewN m).below hbel5 (Nat.le_refl _))).mono ?_); rintro e w6 ⟨g6, rfl, hgl6, h6, hbel6⟩; have h5' := h5.below hbel6)
            | (go_at_call 25; (with_reducible refine (C3.out _ _ _ _ h5').mono ?_); rintro e w7 ⟨rfl, h7, hg7⟩; have h6' := h6.keep hg7 (by have := h5.lt; omega) (.inl (by have := h5.lt; omega)))
            | (go_at_call 27; (with_reducible refine (C4.out _ _ _ _ h6').mono ?_); rintro e w8 ⟨rfl, h8', hg8⟩; have h7' := h7.keep hg8 (by have := h5.lt; omega) (.inr (by have := h5.lt; omega)))
            | (go_at_call 18; (with_reducible refine (left_any h7').mono ?_); rintro e w9 ⟨rfl, nq, rfl⟩)
            | (go_at_call 18; (with_reducible refine (left_any (h8'.drewN _)).mono ?_); rintro e w10 ⟨rfl, nq2, rfl⟩))
          go_ret
          have k1 := below_then (below_then hbel hbel3) hbel4
          have k2 := below_then (below_then (below_drewN k1 m) hbel5) hbel6
          have k3 := below_one k2 hg7 (by have := k1.size; simp at hgl5; omega)
          exact ⟨rfl, below_drewN (below_one k3 hg8 (by have := k1.size; have := h5.lt; simp at hgl5; omega)) _⟩
end Go.Proofs.Ytpohinbhmlcfkaa.octetTurned
