/- What octet.Put, Zig and Zag compute. -/
import Derived.Test.YtaimjlnhdobgeaaOctInfo
import Derived.Test.YtaimjlnhdobgeaaLib
import Derived.Test.YtaimjlnhdobgeaaOctPlain
set_option linter.unusedSimpArgs false
set_option linter.unusedVariables false
namespace Go.Proofs.Ytaimjlnhdobgeaa
open Go.RowKit

theorem zig_any (a : Int) (h1 : -9223372036854775808 ≤ a) (h2 : a ≤ 9223372036854775807) (w : World) :
    Calls Try.prog 23 #[.int .i64 a] w fun e w' => e = .returned (.int .u64 (zig a)) ∧ w = w' := by
  by_cases h : 0 ≤ a
  · have HF := Lib.hid (show 2 * a = zig a by simp [zig, h])
    go_enter Try.func23, Try.ntmps23
    go_wp2
    go_ret
    exact ⟨by rw [← HF.out]; rfl, rfl⟩
  · have HF := Lib.hid (show 2 * -(a + 1) + 1 = zig a by simp [zig, h])
    go_enter Try.func23, Try.ntmps23
    go_wp2
    go_ret
    exact ⟨by rw [← HF.out]; rfl, rfl⟩

theorem zag_any (a : Int) (h1 : 0 ≤ a) (h2 : a ≤ 18446744073709551615) (w : World) :
    Calls Try.prog 30 #[.int .u64 a] w fun e w' => e = .returned (.int .i64 (zag a)) ∧ w = w' := by
  have h3 : 0 ≤ a / 2 := by omega
  have h4 : a / 2 ≤ 9223372036854775807 := by omega
  by_cases h : a % 2 = 0
  · have HF := Lib.hid (show a / 2 = zag a by simp [zag, h])
    have HB : (a % 2 == 0) = true := by simp [h]
    clear h
    go_enter Try.func30, Try.ntmps30
    go_wp2
    go_ret
    exact ⟨by rw [← HF.out]; rfl, rfl⟩
  · have HF := Lib.hid (show -(a / 2) - 1 = zag a by simp [zag, h])
    have HB : (a % 2 == 0) = false := by simpa using h
    clear h
    go_enter Try.func30, Try.ntmps30
    go_wp2
    go_ret
    exact ⟨by rw [← HF.out]; rfl, rfl⟩


theorem dig_lt (f : Nat) (m : Int) (h : m < 128) : dig f m = [m] := by
  cases f
  · rfl
  · simp [dig, h]
theorem dig_ge (f : Nat) (m : Int) (h : 128 ≤ m) : dig (f + 1) m = (m % 128 + 128) :: dig f (m / 128) := by
  have : ¬ m < 128 := by omega
  simp [dig, this]
theorem dig_zero_lt {f : Nat} {m : Int} (h : m < 2 * 128 ^ f) (h2 : 128 ≤ m) : ∃ g, f = g + 1 := by
  cases f with
  | zero => simp at h; omega
  | succ g => exact ⟨g, rfl⟩

set_option maxHeartbeats 1000000 in
theorem put_any (A : Option Addr) (c : Nat) (l : List Int) (hl : ∀ x ∈ l, 0 ≤ x ∧ x ≤ 18446744073709551615) (hn : l.length ≤ 1000000000) (w : World) (hr : RdI w w.heap.size .u64 A l) :
    Calls Try.prog 22 #[.slice A l.length c] w fun e w' => ∃ v, e = .returned v ∧ OwnI w' w.heap.size 5 .u8 v (put l) ∧ Below w.heap.size w w' := by
  go_enter Try.func22, Try.ntmps22
  go_wp2
  go_loopw [3, 8] (fun o i wr => ∃ k : Nat, k ≤ l.length ∧ i = .int .i64 k ∧ OwnI wr w.heap.size 5 .u8 o (put (l.take k)) ∧ Below w.heap.size w wr)
    (fun _ i _ => l.length - (intOf i).toNat)
  case atStart => exact ⟨0, Nat.zero_le _, rfl, OwnI.nil_ _ _ _ _, Below.refl _ _⟩
  case round =>
    obtain ⟨k, hk, rfl, hown, hbel⟩ := hrel
    by_cases hlt : k < l.length
    · obtain ⟨ad, rfl, hadB, hcell⟩ := (hr.below hbel (Nat.le_refl _)).at_ hlt
      obtain ⟨hx0, hx1⟩ := hl (l.getD k 0) (by rw [List.getD_eq_getElem?_getD, List.getElem?_eq_getElem hlt]; exact List.getElem_mem hlt)
      have HT := Lib.hid (put_take hlt)
      have hpl := put_length (l.take k)
      rw [List.length_take, Nat.min_eq_left hk] at hpl
      generalize l.getD k 0 = x at *
      generalize put (l.take k) = done at *
      go_wp2
      obtain ⟨wo, rfl⟩ : ∃ wo : World, wo = wr := ⟨_, rfl⟩
      clear hcell
      go_loopw [3, 5] (fun o i wr => ∃ (f : Nat) (m : Int) (ds : List Int), i = .int .u64 m ∧ 0 ≤ m ∧ m ≤ 18446744073709551615 ∧ m < 2 * 128 ^ f ∧ f ≤ 9 ∧ ds.length + f = 9 ∧ ds ++ dig f m = putOne x ∧
          OwnI wr w.heap.size 5 .u8 o (done ++ ds) ∧ Below w.heap.size w wr)
        (fun _ i _ => (intOf i).toNat)
      case atStart => exact ⟨9, x, [], rfl, hx0, hx1, by omega, by omega, by simp, rfl, by simpa using hown, hbel⟩
      case round =>
        obtain ⟨f, m, ds, rfl, hm0, hm1, hmf, hf9, hdf, hdig, hown1, hbel1⟩ := hrel
        clear hown hbel
        have HD := Lib.hid hdig
        have HL := Lib.hid hdf
        have hds : ds.length ≤ 9 := by omega
        have HM := Lib.hid hmf
        clear hdig hdf hmf
        by_cases hge : 128 ≤ m
        · have hq0 : 0 ≤ m % 128 := by omega
          have hq1 : m % 128 ≤ 127 := by omega
          obtain ⟨g, rfl⟩ := dig_zero_lt HM.out hge
          go_wp2_with (first
            | (at_builtin; refine wpList_push_int _ rfl (.tmp 14) (.tmp 19) _ rfl w _ w.heap.size 5 .u8 1 Try.underlying27 info_u8 _ (done ++ ds) rfl hown1 _ 1 (m % 128 + 128) rfl (by simp [World.setCell]) (by simp; omega) (by omega) hbel1 (Nat.le_refl _) hbel1.size ?_; intro v1 w1 hown2 hbel2))
          go_roundw
          case rel =>
            refine ⟨g, m / 128, ds ++ [m % 128 + 128], rfl, by omega, by omega, ?_, by omega, by have := HL.out; simp; omega, ?_, by rw [← List.append_assoc]; exact hown2, hbel2⟩
            · have := HM.out
              rw [Int.pow_succ] at this
              omega
            · rw [List.append_assoc, List.singleton_append, ← dig_ge g m hge]
              exact HD.out
          case measure => simp [intOf]; omega
        · have hq1 : m ≤ 127 := by omega
          have hq2 : m < 128 := by omega
          clear hge
          go_wp2_with (first
            | (at_builtin; refine wpList_push_int _ rfl (.tmp 23) (.tmp 26) _ rfl w _ w.heap.size 5 .u8 1 Try.underlying27 info_u8 _ (done ++ ds) rfl hown1 _ 1 m rfl (by simp [World.setCell]) (by simp; omega) (by omega) hbel1 (Nat.le_refl _) hbel1.size ?_; intro v1 w1 hown2 hbel2))
          go_roundw
          case rel =>
            refine ⟨k + 1, by omega, by go_num, ?_, hbel2⟩
            have h1 := HD.out
            rw [dig_lt f m hq2] at h1
            rw [HT.out, ← h1, ← List.append_assoc]
            exact hown2
          case measure => simp [intOf]; omega
    · have hkl : k = l.length := by omega
      subst hkl
      go_wp2
      go_ret
      exact ⟨_, rfl, by simpa using hown, hbel⟩

end Go.Proofs.Ytaimjlnhdobgeaa
