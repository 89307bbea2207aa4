/- sums.ThirtyTwo: the plain checksum and the walk. -/
import Derived.Test.YtdnkdjaokmibjaaProg
import Derived.Test.YtdnkdjaokmibjaaLib
import Derived.Laws.BitsAllLaws
import Derived.WalkSpells
set_option linter.unusedSimpArgs false
set_option linter.unusedVariables false
namespace Go.Proofs.Ytdnkdjaokmibjaa
open Go.RowKit

/-- One bit, eight bits, one byte, all bytes of the checksum. -/
def cbit (s : Int) : Int := if s % 2 = 1 then bits .xor .u32 (s / 2) 3988292384 else s / 2
def cbits : Nat → Int → Int
  | 0, s => s
  | n + 1, s => cbit (cbits n s)
def cbyte (s c : Int) : Int := cbits 8 (bits .xor .u32 s c)
def crun (l : List Int) (s : Int) : Int := l.foldl cbyte s
def crc (l : List Int) : Int := 4294967295 - crun l 4294967295

theorem xor32 (a b : Int) : 0 ≤ bits .xor .u32 a b ∧ bits .xor .u32 a b ≤ 4294967295 := by
  have h : bits .xor .u32 a b = IntKind.u32.wrap ((BitVec.ofInt 32 a ^^^ BitVec.ofInt 32 b).toNat : Int) := rfl
  rw [h, IntKind.wrap_u32']
  omega
theorem and_one_u32 (a : Int) (h0 : 0 ≤ a) (h1 : a ≤ 4294967295) : bits .and .u32 a 1 = a % 2 := by
  rw [u32_and a 1 h0 (by omega) (by omega) (by omega)]
  have : a.toNat &&& (1 : Int).toNat = a.toNat % 2 := by simp
  rw [this]
  omega
theorem not32 {s : Int} (h0 : 0 ≤ s) (h1 : s ≤ 4294967295) : bits .xor .u32 IntKind.u32.max s = 4294967295 - s := by
  have hm : IntKind.u32.max = 4294967295 := by decide
  obtain ⟨S, rfl⟩ := Int.eq_ofNat_of_zero_le h0
  rw [hm, u32_xor 4294967295 S (by omega) (by omega) h0 (by omega)]
  have h2 : (BitVec.allOnes 32 ^^^ BitVec.ofNat 32 S).toNat = 4294967295 - S := by
    rw [BitVec.allOnes_xor, BitVec.toNat_not, BitVec.toNat_ofNat]
    omega
  rw [BitVec.toNat_xor, BitVec.toNat_allOnes, BitVec.toNat_ofNat, Nat.mod_eq_of_lt (by omega)] at h2
  have h3 : (4294967295 : Int).toNat ^^^ (S : Int).toNat = 4294967295 - S := by simpa using h2
  rw [h3]
  omega
theorem cbit_bd {s : Int} (h : 0 ≤ s ∧ s ≤ 4294967295) : 0 ≤ cbit s ∧ cbit s ≤ 4294967295 := by
  unfold cbit
  split
  · exact xor32 _ _
  · omega
theorem cbits_bd {s : Int} (h : 0 ≤ s ∧ s ≤ 4294967295) : ∀ n, 0 ≤ cbits n s ∧ cbits n s ≤ 4294967295
  | 0 => h
  | n + 1 => cbit_bd (cbits_bd h n)
theorem cbyte_bd (s c : Int) : 0 ≤ cbyte s c ∧ cbyte s c ≤ 4294967295 := cbits_bd (xor32 _ _) 8
theorem crun_bd (l : List Int) : ∀ {s : Int}, (0 ≤ s ∧ s ≤ 4294967295) → 0 ≤ crun l s ∧ crun l s ≤ 4294967295 := by
  induction l with
  | nil => intro s h; exact h
  | cons c l ih => intro s _; exact ih (cbyte_bd s c)
theorem crun_append (a b : List Int) (s : Int) : crun (a ++ b) s = crun b (crun a s) := by simp [crun]
theorem crun_snoc (l : List Int) (c s : Int) : crun (l ++ [c]) s = cbyte (crun l s) c := by simp [crun]
theorem crc_bd (l : List Int) : 0 ≤ crc l ∧ crc l ≤ 4294967295 := by
  have := crun_bd l (s := 4294967295) (by omega)
  unfold crc
  omega
theorem cbit_odd {s : Int} (h : s % 2 = 1) : cbit s = bits .xor .u32 (s / 2) 3988292384 := by rw [cbit, if_pos h]
theorem cbit_even {s : Int} (h : ¬ s % 2 = 1) : cbit s = s / 2 := by rw [cbit, if_neg h]
theorem take_next {l : List Int} {k : Nat} (h : k < l.length) : l.take (k + 1) = l.take k ++ [l.getD k 0] := by
  rw [List.take_succ_eq_append_getElem h]
  simp [List.getD, List.getElem?_eq_getElem h]

set_option maxHeartbeats 2000000 in
theorem thirtytwo_any {w : World} {B : Nat} {A : Option Addr} {l : List Int} {c : Nat} (hl : ∀ x ∈ l, 0 ≤ x ∧ x ≤ 255) (hr : RdI w B .u8 A l) (hlen : l.length ≤ 1099511627776) :
    Calls Try.prog 50 #[.slice A l.length c] w fun e w' => e = .returned (.int .u32 (crc l)) ∧ w = w' := by
  go_enter Try.func50, Try.ntmps50
  go_wp2
  go_loop [3, 9] (fun s i => ∃ k : Nat, k ≤ l.length ∧ i = .int .i64 k ∧ s = .int .u32 (crun (l.take k) 4294967295)) (fun _ i => l.length - (intOf i).toNat)
  case atStart => exact ⟨0, Nat.zero_le _, rfl, rfl⟩
  case round =>
    obtain ⟨k, hk, rfl, rfl⟩ := hrel
    obtain ⟨s0, s1⟩ := crun_bd (l.take k) (s := 4294967295) (by omega)
    by_cases hlt : k < l.length
    · obtain ⟨ad, rfl, _, hcell⟩ := hr.at_ hlt
      have HT := Lib.hid (show crun (l.take (k + 1)) 4294967295 = cbyte (crun (l.take k) 4294967295) (l.getD k 0) by rw [take_next hlt, crun_snoc])
      obtain ⟨x0, x1⟩ := hl _ (show l.getD k 0 ∈ l by simp [List.getD, List.getElem?_eq_getElem hlt])
      generalize crun (l.take k) 4294967295 = s at *
      generalize l.getD k 0 = x at *
      go_wp2
      have HB := Lib.hid (show cbyte s x = cbits 8 (bits .xor .u32 s x) from rfl)
      obtain ⟨y0, y1⟩ := xor32 s x
      generalize bits .xor .u32 s x = y at *
      go_loop [3, 17] (fun s i => ∃ j : Nat, j ≤ 8 ∧ i = .int .i64 j ∧ s = .int .u32 (cbits j y)) (fun _ i => 8 - (intOf i).toNat)
      case atStart => exact ⟨0, Nat.zero_le _, rfl, rfl⟩
      case round =>
        obtain ⟨j, hj, rfl, rfl⟩ := hrel
        obtain ⟨z0, z1⟩ := cbits_bd ⟨y0, y1⟩ j
        by_cases hj8 : j < 8
        · have HA := Lib.hid (and_one_u32 (cbits j y) z0 z1)
          have HS := Lib.hid (show cbits (j + 1) y = cbit (cbits j y) from rfl)
          have ha := and_one_u32 (cbits j y) z0 z1
          generalize cbits j y = z at *
          by_cases hodd : z % 2 = 1
          · have t1 : (z % 2 == 1) = true := by simpa using hodd
            have HO := Lib.hid (cbit_odd hodd)
            clear hodd
            go_wp2
            go_round
            case rel => exact ⟨j + 1, by omega, by go_num, by rw [HS.out, HO.out]⟩
            case measure => simp [intOf]; omega
          · have t1 : (z % 2 == 1) = false := by simpa using hodd
            have HO := Lib.hid (cbit_even hodd)
            clear hodd
            go_wp2
            go_round
            case rel => exact ⟨j + 1, by omega, by go_num, by rw [HS.out, HO.out]⟩
            case measure => simp [intOf]; omega
        · obtain rfl : j = 8 := by omega
          go_wp2
          go_round
          case rel => exact ⟨k + 1, by omega, by go_num, by rw [HT.out, HB.out]⟩
          case measure => simp [intOf]; omega
    · obtain rfl : k = l.length := by omega
      have HC := Lib.hid (show crc l = 4294967295 - crun (l.take l.length) 4294967295 by rw [List.take_length]; rfl)
      generalize crun (l.take l.length) 4294967295 = s at *
      go_wp2
      go_ret
      exact ⟨ret_int (by rw [HC.out]; exact not32 s0 s1), rfl⟩

end Go.Proofs.Ytdnkdjaokmibjaa
