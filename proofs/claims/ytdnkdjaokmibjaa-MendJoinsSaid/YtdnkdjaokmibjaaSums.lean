/- The reference's ThirtyTwo. -/
import Derived.Test.YtdnkdjaokmibjaaSum32
set_option linter.unusedSimpArgs false
set_option linter.unusedVariables false
namespace Go.Proofs.Ytdnkdjaokmibjaa
open Go.RowKit

set_option maxHeartbeats 2000000 in
theorem rthirtytwo_any {w : World} {B : Nat} {A : Option Addr} {l : List Int} {c : Nat} (hl : ∀ x ∈ l, 0 ≤ x ∧ x ≤ 255) (hr : RdI w B .u8 A l) (hlen : l.length ≤ 1099511627776) :
    Calls Try.prog 79 #[.slice A l.length c] w fun e w' => e = .returned (.int .u32 (crc l)) ∧ w = w' := by
  go_enter Try.func79, Try.ntmps79
  go_wp2
  go_loop [3, 4] (fun s i => ∃ k : Nat, k ≤ l.length ∧ i = .int .i64 k ∧ s = .int .u32 (crun (l.take k) 4294967295)) (fun _ i => l.length - (intOf i).toNat)
  case atStart => exact ⟨0, Nat.zero_le _, rfl, rfl⟩
  case round =>
    obtain ⟨k, hk, rfl, rfl⟩ := hrel
    obtain ⟨s0, s1⟩ := crun_bd (l.take k) (s := 4294967295) (by omega)
    by_cases hlt : k < l.length
    · obtain ⟨ad, rfl, _, hcell⟩ := hr.at_ hlt
      have HT := Lib.hid (show crun (l.take (k + 1)) 4294967295 = cbyte (crun (l.take k) 4294967295) (l.getD k 0) by rw [take_next hlt, crun_snoc])
      obtain ⟨x0, x1⟩ := hl _ (show l.getD k 0 ∈ l by simp [List.getD, List.getElem?_eq_getElem hlt])
      generalize crun (l.take k) 4294967295 = s at *
      generalize l.getD k 0 = x at *
      go_wp2
      have HB := Lib.hid (show cbyte s x = cbits 8 (bits .xor .u32 s x) from rfl)
      obtain ⟨y0, y1⟩ := xor32 s x
      generalize bits .xor .u32 s x = y at *
      go_loop [3, 5] (fun s i => ∃ j : Nat, j ≤ 8 ∧ i = .int .i64 j ∧ s = .int .u32 (cbits j y)) (fun _ i => 8 - (intOf i).toNat)
      case atStart => exact ⟨0, Nat.zero_le _, rfl, rfl⟩
      case round =>
        obtain ⟨j, hj, rfl, rfl⟩ := hrel
        obtain ⟨z0, z1⟩ := cbits_bd ⟨y0, y1⟩ j
        by_cases hj8 : j < 8
        · have HS := Lib.hid (show cbits (j + 1) y = cbit (cbits j y) from rfl)
          have ha := and_one_u32 (cbits j y) z0 z1
          generalize cbits j y = z at *
          by_cases hodd : z % 2 = 1
          · have t1 : (z % 2 == 1) = true := by simpa using hodd
            have HO := Lib.hid (cbit_odd hodd)
            clear hodd
            go_wp2
            go_round
            case rel => exact ⟨j + 1, by omega, by go_num, by rw [HS.out, HO.out]⟩
            case measure => simp [intOf]; omega
          · have t1 : (z % 2 == 1) = false := by simpa using hodd
            have HO := Lib.hid (cbit_even hodd)
            clear hodd
            go_wp2
            go_round
            case rel => exact ⟨j + 1, by omega, by go_num, by rw [HS.out, HO.out]⟩
            case measure => simp [intOf]; omega
        · obtain rfl : j = 8 := by omega
          go_wp2
          go_round
          case rel => exact ⟨k + 1, by omega, by go_num, by rw [HT.out, HB.out]⟩
          case measure => simp [intOf]; omega
    · obtain rfl : k = l.length := by omega
      have HC := Lib.hid (show crc l = 4294967295 - crun (l.take l.length) 4294967295 by rw [List.take_length]; rfl)
      generalize crun (l.take l.length) 4294967295 = s at *
      go_wp2
      go_ret
      exact ⟨ret_int (by rw [HC.out]; exact not32 s0 s1), rfl⟩
end Go.Proofs.Ytdnkdjaokmibjaa
