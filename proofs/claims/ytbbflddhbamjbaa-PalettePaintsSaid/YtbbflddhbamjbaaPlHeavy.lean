/- HeavyPalette. -/
import Derived.Test.YtbbflddhbamjbaaPlL
import Derived.Test.YtbbflddhbamjbaaPicFacts
import Derived.Deep.DeepCutAuto
set_option linter.unusedSimpArgs false
set_option linter.unusedVariables false
namespace Go.Proofs.Ytbbflddhbamjbaa
open Go.RowKit

set_option maxHeartbeats 4000000 in
theorem heavypal_any {w : World} {B : Nat} {P : Pal} {A : Option Addr} {c : Nat} (hr : RdLL w B .i64 A P.c) (hB : B ≤ w.heap.size) (h63 : Len63 P.c) :
    Calls Try.prog 7 #[palV P A c] w fun e w' => (e = .returned (.bool true) ∨ e = .returned (.bool false)) ∧ Below w.heap.size w w' := by
  obtain ⟨pd, pn, pc⟩ := P
  simp only [palV] at *
  obtain ⟨s1, s2⟩ := h63
  have HS := Lib.hid s2
  clear s2
  go_enter Try.func7, Try.ntmps7
  go_wp2
  have k0 := (Blk.new w 25 #[.int .i64 pd, .int .i64 pn, .slice A pc.length c])
  have bxa := below_alloc (Below.refl w.heap.size w) (.cells #[.int .i64 pd, .int .i64 pn, .slice A pc.length c] 25)
  generalize w.alloc (.cells #[.int .i64 pd, .int .i64 pn, .slice A pc.length c] 25) = wa at *
  have hra := hr.below bxa hB
  have y3 := k0.cell 2
  go_loop [3, 4] (fun u i => ∃ (j : Nat) (n : Int), j ≤ pc.length ∧ i = .int .i64 j ∧ u = .int .i64 n) (fun _ i => pc.length - (intOf i).toNat)
  case atStart => exact ⟨0, 0, Nat.zero_le _, rfl, rfl⟩
  case round =>
    obtain ⟨j, n, hj, rfl, rfl⟩ := hrel
    by_cases hlt : j < pc.length
    · obtain ⟨ad, Aj, cj, rfl, hadB, hcell, hcj, hrj⟩ := hra j hlt
      clear hrj
      generalize (pc.getD j []).length = m at *
      go_wp2
      · go_ret
        exact ⟨.inl rfl, bxa⟩
      · exact ⟨⟨j + 1, _, by omega, by go_num, rfl⟩, by simp [intOf]; omega⟩
    · have hjl : j = pc.length := by omega
      subst hjl
      go_wp2
      go_ret
      exact ⟨.inr rfl, bxa⟩
end Go.Proofs.Ytbbflddhbamjbaa
