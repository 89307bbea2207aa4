/- The reference's big. -/
import Derived.Test.YtdnkdjaokmibjaaPkOpenL
import Derived.Test.YtdnkdjaokmibjaaR2Big
set_option linter.unusedSimpArgs false
set_option linter.unusedVariables false
namespace Go.Proofs.Ytdnkdjaokmibjaa
open Go.RowKit

set_option maxHeartbeats 1000000 in
theorem rbig35_any {o : List Int} {A : Option Addr} {c : Nat} {w : World} {B : Nat} (n : Nat) (hn : o.length = n) (hr : RdI w B .u8 A o) (hb : byteB o) (hl : n ≤ 8) :
    Calls Try.prog 80 #[.slice A n c] w fun e w' => e = .returned (.int .u64 (big o)) ∧ w = w' := by
  subst hn
  have HB := Lib.hid hb
  clear hb
  go_enter Try.func80, Try.ntmps80
  go_wp2
  go_loop [3, 4] (fun m i => ∃ (j : Nat), j ≤ o.length ∧ i = .int .i64 j ∧ m = .int .u64 (big (o.take j))) (fun _ i => o.length - (intOf i).toNat)
  case atStart => exact ⟨0, Nat.zero_le _, rfl, rfl⟩
  case round =>
    obtain ⟨j, hj, rfl, rfl⟩ := hrel
    by_cases hlt : j < o.length
    · obtain ⟨ad, rfl, hadB, hcell⟩ := hr.at_ hlt
      obtain ⟨hx0, hx1⟩ := HB.out (o.getD j 0) (by rw [List.getD_eq_getElem?_getD, List.getElem?_eq_getElem hlt]; exact List.getElem_mem hlt)
      have HS := Lib.hid (show big (o.take (j + 1)) = big (o.take j) * 256 + o.getD j 0 by rw [take_snoc hlt, big_snoc])
      obtain ⟨hb0, hb1⟩ := big_bound (o.take j) (fun x hx => HB.out x (List.mem_of_mem_take hx))
      rw [List.length_take, Nat.min_eq_left hj] at hb1
      have hb2 : big (o.take j) < 72057594037927936 := Int.lt_of_lt_of_le hb1 (pow_256_le (by omega))
      clear hb1
      generalize big (o.take j) = b at *
      generalize o.getD j 0 = x at *
      go_wp2
      go_round
      case rel => exact ⟨j + 1, by omega, by go_num, by rw [HS.out, or_low b x hb0 hb2 hx0 hx1]⟩
      case measure => simp [intOf]; omega
    · have hjl : j = o.length := by omega
      subst hjl
      go_wp2
      go_ret
      exact ⟨by first | rfl | rw [List.take_length], rfl⟩
end Go.Proofs.Ytdnkdjaokmibjaa
