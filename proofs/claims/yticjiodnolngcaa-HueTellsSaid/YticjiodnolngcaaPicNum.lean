/- pic.Wrap, pic.Fold and the reference's: plain functions and walks. -/
import Derived.Test.YticjiodnolngcaaProg
import Derived.Test.YticjiodnolngcaaLib
import Derived.Laws.BitsAllLaws
import Derived.WalkSpells
import Derived.BigQuiet
set_option linter.unusedSimpArgs false
set_option linter.unusedVariables false
namespace Go.Proofs.Yticjiodnolngcaa
open Go.RowKit

def wrapP (v d : Int) : Int := if 1 ≤ d ∧ d ≤ 16 then v % 2 ^ d.toNat else 0
def foldP (v d : Int) : Int := if 1 ≤ d ∧ d ≤ 16 then (if v % 2 ^ d.toNat < 2 ^ (d.toNat - 1) then v % 2 ^ d.toNat else v % 2 ^ d.toNat - 2 ^ d.toNat) else 0

theorem and_mask64 (v : Int) (k : Nat) (hk : k ≤ 62) : bits .and .i64 v (2 ^ k - 1) = v % 2 ^ k := by
  have hp : ((2 ^ k : Nat) : Int) = 2 ^ k := by simp
  have hle : (2 ^ k : Nat) ≤ 2 ^ 62 := Nat.pow_le_pow_right (by omega) hk
  have hpos : 0 < (2 ^ k : Nat) := Nat.two_pow_pos _
  have h1 : bits .and .i64 v (2 ^ k - 1) = IntKind.i64.wrap ((BitVec.ofInt 64 v &&& BitVec.ofInt 64 (2 ^ k - 1)).toNat : Int) := rfl
  have h2 : (BitVec.ofInt 64 (2 ^ k - 1)).toNat = 2 ^ k - 1 := by
    rw [← hp, show ((2 ^ k : Nat) : Int) - 1 = ((2 ^ k - 1 : Nat) : Int) by omega, BitVec.ofInt_natCast, BitVec.toNat_ofNat]
    exact Nat.mod_eq_of_lt (by omega)
  rw [h1, BitVec.toNat_and, h2, Nat.and_two_pow_sub_one_eq_mod, BitVec.toNat_ofInt]
  have hv := Int.emod_nonneg v (show ((2 ^ 64 : Nat) : Int) ≠ 0 by omega)
  have h3 : (((v % ((2 ^ 64 : Nat) : Int)).toNat % 2 ^ k : Nat) : Int) = v % 2 ^ k := by
    rw [Int.natCast_emod, Int.toNat_of_nonneg hv, hp]
    refine Int.emod_emod_of_dvd v ⟨2 ^ (64 - k), ?_⟩
    rw [← Int.pow_add, show k + (64 - k) = 64 by omega]
    rfl
  have h4 : (v % ((2 ^ 64 : Nat) : Int)).toNat % 2 ^ k < 2 ^ k := Nat.mod_lt _ hpos
  rw [h3, IntKind.wrap_i64]
  omega

theorem pow_16 {k : Nat} (h0 : 1 ≤ k) (h1 : k ≤ 16) : (2 : Int) ≤ 2 ^ k ∧ (2 : Int) ^ k ≤ 65536 ∧ (2 : Int) ^ k = 2 * 2 ^ (k - 1) := by
  rcases (show k = 1 ∨ k = 2 ∨ k = 3 ∨ k = 4 ∨ k = 5 ∨ k = 6 ∨ k = 7 ∨ k = 8 ∨ k = 9 ∨ k = 10 ∨ k = 11 ∨ k = 12 ∨ k = 13 ∨ k = 14 ∨ k = 15 ∨ k = 16 by omega) with
    rfl | rfl | rfl | rfl | rfl | rfl | rfl | rfl | rfl | rfl | rfl | rfl | rfl | rfl | rfl | rfl <;> decide

theorem wrap_any (v d : Int) (w : World) : Calls Try.prog 45 #[.int .i64 v, .int .i64 d] w fun e w' => e = .returned (.int .i64 (wrapP v d)) ∧ w = w' := by
  by_cases h1 : d < 1
  · have HF := Lib.hid (show wrapP v d = 0 by rw [wrapP, if_neg (by omega)])
    go_enter Try.func45, Try.ntmps45
    go_wp2
    go_ret
    rw [HF.out]
    exact ⟨rfl, rfl⟩
  · by_cases h2 : 16 < d
    · have HF := Lib.hid (show wrapP v d = 0 by rw [wrapP, if_neg (by omega)])
      go_enter Try.func45, Try.ntmps45
      go_wp2
      go_ret
      rw [HF.out]
      exact ⟨rfl, rfl⟩
    · obtain ⟨k, rfl⟩ := Int.eq_ofNat_of_zero_le (show 0 ≤ d by omega)
      have HF := Lib.hid (show wrapP v k = v % 2 ^ k by rw [wrapP, if_pos (by omega)]; rfl)
      have HM := Lib.hid (and_mask64 v k (by omega))
      have p0 := (pow_16 (k := k) (by omega) (by omega)).1
      have p1 := (pow_16 (k := k) (by omega) (by omega)).2.1
      go_enter Try.func45, Try.ntmps45
      go_wp2
      go_ret
      exact ⟨ret_int (by rw [HF.out, HM.out]), rfl⟩

theorem fold_no (v d : Int) (h : ¬ (1 ≤ d ∧ d ≤ 16)) : foldP v d = 0 := by rw [foldP, if_neg h]
theorem fold_lo (v : Int) (k : Nat) (h : 1 ≤ k ∧ k ≤ 16) (h2 : v % 2 ^ k < 2 ^ (k - 1)) : foldP v k = v % 2 ^ k := by
  rw [foldP, if_pos (by omega), Int.toNat_natCast, if_pos h2]
theorem fold_hi (v : Int) (k : Nat) (h : 1 ≤ k ∧ k ≤ 16) (h2 : ¬ v % 2 ^ k < 2 ^ (k - 1)) : foldP v k = v % 2 ^ k - 2 ^ k := by
  rw [foldP, if_pos (by omega), Int.toNat_natCast, if_neg h2]

theorem fold_any (v d : Int) (w : World) : Calls Try.prog 33 #[.int .i64 v, .int .i64 d] w fun e w' => e = .returned (.int .i64 (foldP v d)) ∧ w = w' := by
  by_cases h1 : d < 1
  · have HF := Lib.hid (fold_no v d (by omega))
    go_enter Try.func33, Try.ntmps33
    go_wp2
    go_ret
    rw [HF.out]
    exact ⟨rfl, rfl⟩
  · by_cases h2 : 16 < d
    · have HF := Lib.hid (fold_no v d (by omega))
      go_enter Try.func33, Try.ntmps33
      go_wp2
      go_ret
      rw [HF.out]
      exact ⟨rfl, rfl⟩
    · obtain ⟨k, rfl⟩ := Int.eq_ofNat_of_zero_le (show 0 ≤ d by omega)
      have HW : Hid (∀ W : World, Calls Try.prog 45 #[.int .i64 v, .int .i64 (k : Int)] W fun e w' => e = .returned (.int .i64 (v % 2 ^ k)) ∧ W = w') := fun W => by
        have h := wrap_any v k W
        rw [show wrapP v k = v % 2 ^ k by rw [wrapP, if_pos (by omega)]; rfl] at h
        exact h
      have p0 := (pow_16 (k := k) (by omega) (by omega)).1
      have p1 := (pow_16 (k := k) (by omega) (by omega)).2.1
      have p2 : (1 : Int) ≤ 2 ^ (k - 1) ∧ (2 : Int) ^ (k - 1) ≤ 32768 := by have := (pow_16 (k := k) (by omega) (by omega)).2.2; omega
      have m0 : 0 ≤ v % 2 ^ k := Int.emod_nonneg _ (by omega)
      have m1 : v % 2 ^ k < 2 ^ k := Int.emod_lt_of_pos _ (by omega)
      have e1 : ((k : Int) - 1).toNat = k - 1 := by omega
      by_cases hlo : v % 2 ^ k < 2 ^ (k - 1)
      all_goals
        first
        | have HF := Lib.hid (fold_lo v k (by omega) hlo)
        | have HF := Lib.hid (fold_hi v k (by omega) hlo)
        generalize v % 2 ^ k = x at *
        go_enter Try.func33, Try.ntmps33
        go_wp2_with (first
          | (go_at_call 45; go_must (refine (HW.out _).mono ?_); rintro e w1 ⟨rfl, rfl⟩))
        go_ret
        exact ⟨ret_int (by rw [HF.out]), rfl⟩

theorem depth_any (d : Int) (w : World) : Calls Try.prog 38 #[.int .i64 d] w fun e w' => e = .returned (.bool (decide (1 ≤ d) && decide (d ≤ 16))) ∧ w = w' := by
  by_cases h1 : 1 ≤ d
  · have hd : decide (1 ≤ d) = true := by simpa using h1
    go_enter Try.func38, Try.ntmps38
    go_wp2
    go_ret
    exact ⟨by simp [h1], rfl⟩
  · have hd : decide (1 ≤ d) = false := by simpa using h1
    go_enter Try.func38, Try.ntmps38
    go_wp2
    go_ret
    exact ⟨by simp [h1], rfl⟩

theorem wrapref_any (v d : Int) (w : World) : Calls Try.prog 22 #[.int .i64 v, .int .i64 d] w fun e w' => e = .returned (.int .i64 (wrapP v d)) ∧ w = w' := by
  have HD := Lib.hid (depth_any d w)
  by_cases h : 1 ≤ d ∧ d ≤ 16
  · obtain ⟨k, rfl⟩ := Int.eq_ofNat_of_zero_le (show 0 ≤ d by omega)
    have hd : (decide (1 ≤ (k : Int)) && decide ((k : Int) ≤ 16)) = true := by simpa using h
    rw [hd] at HD
    have HF := Lib.hid (show wrapP v k = v % 2 ^ k by rw [wrapP, if_pos (by omega)]; rfl)
    have HM := Lib.hid (and_mask64 v k (by omega))
    have p0 := (pow_16 (k := k) (by omega) (by omega)).1
    have p1 := (pow_16 (k := k) (by omega) (by omega)).2.1
    clear hd
    go_enter Try.func22, Try.ntmps22
    go_wp2_with (first
      | (go_at_call 38; go_must (refine HD.out.mono ?_); rintro e w1 ⟨rfl, rfl⟩))
    go_ret
    exact ⟨ret_int (by rw [HF.out, HM.out]), rfl⟩
  · have hd : (decide (1 ≤ d) && decide (d ≤ 16)) = false := by simpa using h
    rw [hd] at HD
    have HF := Lib.hid (show wrapP v d = 0 by rw [wrapP, if_neg h])
    clear hd h
    go_enter Try.func22, Try.ntmps22
    go_wp2_with (first
      | (go_at_call 38; go_must (refine HD.out.mono ?_); rintro e w1 ⟨rfl, rfl⟩))
    go_ret
    exact ⟨ret_int (by rw [HF.out]), rfl⟩

theorem foldref_any (v d : Int) (w : World) : Calls Try.prog 42 #[.int .i64 v, .int .i64 d] w fun e w' => e = .returned (.int .i64 (foldP v d)) ∧ w = w' := by
  have HD := Lib.hid (fun W => depth_any d W)
  have HW := Lib.hid (fun W => wrapref_any v d W)
  by_cases h : 1 ≤ d ∧ d ≤ 16
  · obtain ⟨k, rfl⟩ := Int.eq_ofNat_of_zero_le (show 0 ≤ d by omega)
    have hd : (decide (1 ≤ (k : Int)) && decide ((k : Int) ≤ 16)) = true := by simpa using h
    rw [hd] at HD
    rw [show wrapP v k = v % 2 ^ k by rw [wrapP, if_pos (by omega)]; rfl] at HW
    clear hd
    have p0 := (pow_16 (k := k) (by omega) (by omega)).1
    have p1 := (pow_16 (k := k) (by omega) (by omega)).2.1
    have p2 : (1 : Int) ≤ 2 ^ (k - 1) ∧ (2 : Int) ^ (k - 1) ≤ 32768 := by have := (pow_16 (k := k) (by omega) (by omega)).2.2; omega
    have m0 : 0 ≤ v % 2 ^ k := Int.emod_nonneg _ (by omega)
    have m1 : v % 2 ^ k < 2 ^ k := Int.emod_lt_of_pos _ (by omega)
    have e1 : ((k : Int) - 1).toNat = k - 1 := by omega
    by_cases hlo : v % 2 ^ k < 2 ^ (k - 1)
    all_goals
      first
      | have HF := Lib.hid (fold_lo v k (by omega) hlo)
      | have HF := Lib.hid (fold_hi v k (by omega) hlo)
      generalize v % 2 ^ k = x at *
      go_enter Try.func42, Try.ntmps42
      go_wp2_with (first
        | (go_at_call 22; go_must (refine (HW.out _).mono ?_); rintro e w1 ⟨rfl, rfl⟩)
        | (go_at_call 38; go_must (refine (HD.out _).mono ?_); rintro e w1 ⟨rfl, rfl⟩))
      go_ret
      exact ⟨ret_int (by rw [HF.out]), rfl⟩
  · have hd : (decide (1 ≤ d) && decide (d ≤ 16)) = false := by simpa using h
    rw [hd] at HD
    rw [show wrapP v d = 0 by rw [wrapP, if_neg h]] at HW
    have HF := Lib.hid (fold_no v d h)
    clear hd h
    go_enter Try.func42, Try.ntmps42
    go_wp2_with (first
      | (go_at_call 22; go_must (refine (HW.out _).mono ?_); rintro e w1 ⟨rfl, rfl⟩)
      | (go_at_call 38; go_must (refine (HD.out _).mono ?_); rintro e w1 ⟨rfl, rfl⟩))
    go_ret
    exact ⟨ret_int (by rw [HF.out]), rfl⟩

/-! Wrap and Fold undo each other. -/
theorem wrap_fold (v d : Int) : wrapP (foldP v d) d = wrapP v d := by
  by_cases h : 1 ≤ d ∧ d ≤ 16
  · obtain ⟨k, rfl⟩ := Int.eq_ofNat_of_zero_le (show 0 ≤ d by omega)
    rw [wrapP, wrapP, if_pos h, if_pos h, Int.toNat_natCast]
    by_cases hlo : v % 2 ^ k < 2 ^ (k - 1)
    · rw [fold_lo v k (by omega) hlo, Int.emod_emod_of_dvd v (Int.dvd_refl _)]
    · rw [fold_hi v k (by omega) hlo, Int.sub_emod_right, Int.emod_emod_of_dvd v (Int.dvd_refl _)]
  · rw [wrapP, wrapP, if_neg h, if_neg h]
theorem fold_wrap (v d : Int) : foldP (wrapP v d) d = foldP v d := by
  by_cases h : 1 ≤ d ∧ d ≤ 16
  · have : wrapP v d % 2 ^ d.toNat = v % 2 ^ d.toNat := by rw [wrapP, if_pos h, Int.emod_emod_of_dvd v (Int.dvd_refl _)]
    rw [foldP, foldP, if_pos h, if_pos h, this]
  · rw [foldP, foldP, if_neg h, if_neg h]
end Go.Proofs.Yticjiodnolngcaa
