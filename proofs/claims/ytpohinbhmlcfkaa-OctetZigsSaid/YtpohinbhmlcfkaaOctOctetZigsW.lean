/- The walk of OctetZigs. -/
import Derived.Test.YtpohinbhmlcfkaaOctKnown
import Derived.WalkSmall
namespace Go.Proofs.Ytpohinbhmlcfkaa.octetZigs
open Go.RowKit
theorem zag_zig (a : Int) : zag (zig a) = a := by unfold zag zig; split <;> split <;> omega
theorem zig_zag (u : Int) (h : 0 ≤ u) : zig (zag u) = u := by unfold zag zig; split <;> split <;> omega
theorem zig_bounds (a : Int) (h1 : -9223372036854775808 ≤ a) (h2 : a ≤ 9223372036854775807) : 0 ≤ zig a ∧ zig a ≤ 18446744073709551615 := by unfold zig; split <;> omega
theorem zag_bounds (a : Int) (h1 : 0 ≤ a) (h2 : a ≤ 18446744073709551615) : -9223372036854775808 ≤ zag a ∧ zag a ≤ 9223372036854775807 := by unfold zag; split <;> omega

theorem walk (w : World) (a0 : Int) (b0 : -9223372036854775808 ≤ a0) (b1 : a0 ≤ 9223372036854775807) (a1 : Int) (b2 : 0 ≤ a1) (b3 : a1 ≤ 18446744073709551615) :
    Calls Try.prog 4 #[.int .i64 a0, .int .u64 a1] w fun e w' => e = .returned (.bool true) ∧ Below w.heap.size w w' := by
  obtain ⟨z0, z1⟩ := zig_bounds a0 b0 b1
  obtain ⟨z2, z3⟩ := zag_bounds a1 b2 b3
  have h1 : (zag (zig a0) != a0) = false := by simp [zag_zig]
  have h2 : (zig (zag a1) != a1) = false := by simp [zig_zag a1 b2]
  have hand : bits .and .u64 (zig a0) 1 = zig a0 % 2 := and_one_u64 (zig a0) z0 (by omega)
  by_cases hneg : a0 < 0
  · have hd : decide (a0 < 0) = true := by simpa using hneg
    have hd2 : decide (0 ≤ a0) = false := by simpa using hneg
    have hb : (bits .and .u64 (zig a0) 1 == 1) = true := by rw [hand]; simp [zig]; split <;> omega
    have hq : (zig a0 / 2 == -(a0 + 1)) = true := by simp [zig]; split <;> omega
    clear hand
    go_enter Try.func4, Try.ntmps4
    go_wp2_with (first
      | (go_at_call 10; refine (known_any _).mono ?_; rintro e w1 ⟨rfl, hbel⟩)
      | (go_at_call 16; refine (zig_any _ (by omega) (by omega) _).mono ?_; rintro e w2 ⟨rfl, rfl⟩)
      | (go_at_call 17; refine (zag_any _ (by omega) (by omega) _).mono ?_; rintro e w2 ⟨rfl, rfl⟩))
    go_ret
    exact ⟨rfl, hbel⟩
  · have hd : decide (a0 < 0) = false := by simpa using hneg
    have hb : (bits .and .u64 (zig a0) 1 == 1) = false := by rw [hand]; simp [zig]; split <;> omega
    have hq : (zig a0 / 2 == a0) = true := by simp [zig]; split <;> omega
    clear hand
    go_enter Try.func4, Try.ntmps4
    go_wp2_with (first
      | (go_at_call 10; refine (known_any _).mono ?_; rintro e w1 ⟨rfl, hbel⟩)
      | (go_at_call 16; refine (zig_any _ (by omega) (by omega) _).mono ?_; rintro e w2 ⟨rfl, rfl⟩)
      | (go_at_call 17; refine (zag_any _ (by omega) (by omega) _).mono ?_; rintro e w2 ⟨rfl, rfl⟩))
    go_ret
    exact ⟨rfl, hbel⟩
end Go.Proofs.Ytpohinbhmlcfkaa.octetZigs
