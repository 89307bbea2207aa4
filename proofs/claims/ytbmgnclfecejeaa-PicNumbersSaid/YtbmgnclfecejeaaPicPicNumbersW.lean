/- PicNumbers: the walk. -/
import Derived.Test.YtbmgnclfecejeaaPicKnown
namespace Go.Proofs.Ytbmgnclfecejeaa.picNumbers
open Go.RowKit

set_option maxHeartbeats 4000000 in
theorem walk (w : World) (v : Int) (a0 : -9223372036854775808 ≤ v) (a1 : v ≤ 9223372036854775807) (dep : Int) (b0 : -9223372036854775808 ≤ dep) (b1 : dep ≤ 9223372036854775807) :
    Calls Try.prog 3 #[.int .i64 v, .int .i64 dep] w fun e w' => e = .returned (.bool true) ∧ Below w.heap.size w w' := by
  have K := Lib.hid (fun W => known_any W)
  go_enter Try.func3, Try.ntmps3
  go_wp2
  go_loop [5] (fun i => ∃ d : Int, -1 ≤ d ∧ d ≤ 18 ∧ i = .int .i64 d) (fun i => (18 - intOf i).toNat)
  case atStart => exact ⟨-1, by omega, by omega, rfl⟩
  case round =>
    obtain ⟨d, hd0, hd1, rfl⟩ := hrel
    have e1 := wrap_fold v d
    have e2 := fold_wrap v d
    go_wp2_with (first
      | (go_at_call 9; go_must (refine (wrap_any _ _ _).mono ?_); rintro e w1 ⟨rfl, rfl⟩)
      | (go_at_call 11; go_must (refine (fold_any _ _ _).mono ?_); rintro e w1 ⟨rfl, rfl⟩)
      | (go_at_call 10; go_must (refine (wrapref_any _ _ _).mono ?_); rintro e w1 ⟨rfl, rfl⟩)
      | (go_at_call 12; go_must (refine (foldref_any _ _ _).mono ?_); rintro e w1 ⟨rfl, rfl⟩)
      | (go_at_call 13; go_must (refine (K.out _).mono ?_); rintro e w1 ⟨rfl, hb⟩))
    · exact ⟨⟨d + 1, by omega, by omega, rfl⟩, by simp [intOf]; omega⟩
    · go_ret
      exact ⟨rfl, hb⟩
end Go.Proofs.Ytbmgnclfecejeaa.picNumbers
