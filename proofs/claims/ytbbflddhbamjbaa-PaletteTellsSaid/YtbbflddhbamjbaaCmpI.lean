/- cmp.Compare at numbers. -/
import Derived.Test.YtbbflddhbamjbaaLib
import Derived.Test.YtbbflddhbamjbaaProg
import Derived.Deep.DeepCutAuto
set_option linter.unusedSimpArgs false
set_option linter.unusedVariables false
namespace Go.Proofs.Ytbbflddhbamjbaa
open Go.RowKit

def cmp3 (a b : Int) : Int := if a < b then -1 else if b < a then 1 else 0
theorem cmp3_bd (a b : Int) : -1 ≤ cmp3 a b ∧ cmp3 a b ≤ 1 := by unfold cmp3; split <;> (try split) <;> omega
theorem nan_any (a : Int) (w : World) : Calls Try.prog 78 #[.int .i64 a] w fun e w' => e = .returned (.bool false) ∧ w = w' := by
  have hq : (a != a) = false := by simp
  go_enter Try.func78, Try.ntmps78
  go_wp2
  go_ret
  exact ⟨rfl, rfl⟩
theorem cmpi_any (a b : Int) (w : World) : Calls Try.prog 66 #[.int .i64 a, .int .i64 b] w fun e w' => e = .returned (.int .i64 (cmp3 a b)) ∧ w = w' := by
  have HN := Lib.hid (fun a W => nan_any a W)
  by_cases h1 : a < b
  · have HC := Lib.hid (show cmp3 a b = -1 by simp [cmp3, h1])
    go_enter Try.func66, Try.ntmps66
    go_wp2_with (first | (go_at_call 78; (with_reducible refine (HN.out _ _).mono ?_); rintro e w1 ⟨rfl, rfl⟩))
    go_ret
    exact ⟨by rw [HC.out]; rfl, rfl⟩
  · by_cases h2 : b < a
    · have HC := Lib.hid (show cmp3 a b = 1 by simp [cmp3, h1, h2])
      go_enter Try.func66, Try.ntmps66
      go_wp2_with (first | (go_at_call 78; (with_reducible refine (HN.out _ _).mono ?_); rintro e w1 ⟨rfl, rfl⟩))
      go_ret
      exact ⟨by rw [HC.out]; rfl, rfl⟩
    · have HC := Lib.hid (show cmp3 a b = 0 by simp [cmp3, h1, h2])
      go_enter Try.func66, Try.ntmps66
      go_wp2_with (first | (go_at_call 78; (with_reducible refine (HN.out _ _).mono ?_); rintro e w1 ⟨rfl, rfl⟩))
      go_ret
      exact ⟨by rw [HC.out]; rfl, rfl⟩
end Go.Proofs.Ytbbflddhbamjbaa
