/- Pictures: powers of two, masks, the depth of the reference. -/
import Derived.Test.YtbbflddhbamjbaaProg
import Derived.Test.YtbbflddhbamjbaaLib
import Derived.Laws.BitsAllLaws
import Derived.WalkSpells
import Derived.BigQuiet
set_option linter.unusedSimpArgs false
set_option linter.unusedVariables false
namespace Go.Proofs.Ytbbflddhbamjbaa
open Go.RowKit
theorem and_mask64 (v : Int) (k : Nat) (hk : k ≤ 62) : bits .and .i64 v (2 ^ k - 1) = v % 2 ^ k := by
  have hp : ((2 ^ k : Nat) : Int) = 2 ^ k := by simp
  have hle : (2 ^ k : Nat) ≤ 2 ^ 62 := Nat.pow_le_pow_right (by omega) hk
  have hpos : 0 < (2 ^ k : Nat) := Nat.two_pow_pos _
  have h1 : bits .and .i64 v (2 ^ k - 1) = IntKind.i64.wrap ((BitVec.ofInt 64 v &&& BitVec.ofInt 64 (2 ^ k - 1)).toNat : Int) := rfl
  have h2 : (BitVec.ofInt 64 (2 ^ k - 1)).toNat = 2 ^ k - 1 := by
    rw [← hp, show ((2 ^ k : Nat) : Int) - 1 = ((2 ^ k - 1 : Nat) : Int) by omega, BitVec.ofInt_natCast, BitVec.toNat_ofNat]
    exact Nat.mod_eq_of_lt (by omega)
  rw [h1, BitVec.toNat_and, h2, Nat.and_two_pow_sub_one_eq_mod, BitVec.toNat_ofInt]
  have hv := Int.emod_nonneg v (show ((2 ^ 64 : Nat) : Int) ≠ 0 by omega)
  have h3 : (((v % ((2 ^ 64 : Nat) : Int)).toNat % 2 ^ k : Nat) : Int) = v % 2 ^ k := by
    rw [Int.natCast_emod, Int.toNat_of_nonneg hv, hp]
    refine Int.emod_emod_of_dvd v ⟨2 ^ (64 - k), ?_⟩
    rw [← Int.pow_add, show k + (64 - k) = 64 by omega]
    rfl
  have h4 : (v % ((2 ^ 64 : Nat) : Int)).toNat % 2 ^ k < 2 ^ k := Nat.mod_lt _ hpos
  rw [h3, IntKind.wrap_i64]
  omega

theorem pow_16 {k : Nat} (h0 : 1 ≤ k) (h1 : k ≤ 16) : (2 : Int) ≤ 2 ^ k ∧ (2 : Int) ^ k ≤ 65536 ∧ (2 : Int) ^ k = 2 * 2 ^ (k - 1) := by
  rcases (show k = 1 ∨ k = 2 ∨ k = 3 ∨ k = 4 ∨ k = 5 ∨ k = 6 ∨ k = 7 ∨ k = 8 ∨ k = 9 ∨ k = 10 ∨ k = 11 ∨ k = 12 ∨ k = 13 ∨ k = 14 ∨ k = 15 ∨ k = 16 by omega) with
    rfl | rfl | rfl | rfl | rfl | rfl | rfl | rfl | rfl | rfl | rfl | rfl | rfl | rfl | rfl | rfl <;> decide

theorem depth_any (d : Int) (w : World) : Calls Try.prog 55 #[.int .i64 d] w fun e w' => e = .returned (.bool (decide (1 ≤ d) && decide (d ≤ 16))) ∧ w = w' := by
  by_cases h1 : 1 ≤ d
  · have hd : decide (1 ≤ d) = true := by simpa using h1
    go_enter Try.func55, Try.ntmps55
    go_wp2
    go_ret
    exact ⟨by simp [h1], rfl⟩
  · have hd : decide (1 ≤ d) = false := by simpa using h1
    go_enter Try.func55, Try.ntmps55
    go_wp2
    go_ret
    exact ⟨by simp [h1], rfl⟩
end Go.Proofs.Ytbbflddhbamjbaa
