/- The reference's Side, lies, Within, Plane, PicIs. -/
import Derived.Test.YtbbflddhbamjbaaPicSame
set_option linter.unusedSimpArgs false
set_option linter.unusedVariables false
namespace Go.Proofs.Ytbbflddhbamjbaa
open Go.RowKit

theorem side_any (n : Int) (w : World) : Calls Try.prog 58 #[.int .i64 n] w fun e w' => e = .returned (.bool (decide (1 ≤ n ∧ n ≤ 64))) ∧ w = w' := by
  go_enter Try.func58, Try.ntmps58
  go_wp2
  all_goals
    go_ret
    exact ⟨ret_bool (by first | (simp; omega) | (rw [decide_eq_decide]; omega)), rfl⟩
set_option maxHeartbeats 2000000 in
theorem rwithin_any {w : World} {B : Nat} {A : Option Addr} {c : Nat} {l : List Int} (hr : RdI w B .i64 A l) (h63 : l.length ≤ 9223372036854775807) (d : Nat) (d1 : 1 ≤ d) (d2 : d ≤ 16) :
    Calls Try.prog 56 #[.slice A l.length c, .int .i64 (d : Int)] w fun e w' => e = .returned (.bool (l.all (okV d))) ∧ w = w' := by
  have p1 := (pow_16 (k := d) (by omega) (by omega)).2.1
  have p0 := (pow_16 (k := d) (by omega) (by omega)).1
  have HV := Lib.hid (show ∀ v : Int, okV d v = decide (0 ≤ v ∧ v < 2 ^ d) from fun v => by rw [okV]; rfl)
  go_enter Try.func56, Try.ntmps56
  go_wp2
  go_loop [5] (fun i => ∃ j : Nat, j ≤ l.length ∧ i = .int .i64 j ∧ (l.take j).all (okV d) = true) (fun i => l.length - (intOf i).toNat)
  case atStart => exact ⟨0, Nat.zero_le _, rfl, by simp⟩
  case round =>
    obtain ⟨j, hj, rfl, hall⟩ := hrel
    have HA := Lib.hid hall
    clear hall
    by_cases hlt : j < l.length
    · obtain ⟨ad, rfl, _, k0⟩ := hr.at_ hlt
      have HT := Lib.hid (List.take_succ_eq_append_getElem hlt)
      have HG := Lib.hid (show l.getD j 0 = l[j] by simp [List.getD, hlt])
      have HM := Lib.hid (List.getElem_mem hlt)
      have hg := HG.out
      generalize l.getD j 0 = x at *
      by_cases hx0 : x < 0
      · have HF := Lib.hid (show l.all (okV d) = false by
          rw [List.all_eq_false]
          exact ⟨_, HM.out, by rw [HV.out, ← HG.out]; simp; omega⟩)
        clear hg
        go_wp2
        go_ret
        exact ⟨ret_bool HF.out.symm, rfl⟩
      · by_cases hx1 : x < 2 ^ d
        · clear hg
          go_wp2
          go_roundw
          case rel =>
            refine ⟨j + 1, by omega, by go_num, ?_⟩
            rw [HT.out, List.all_append, HA.out]
            simp only [List.all_cons, List.all_nil, Bool.and_true, Bool.true_and]
            rw [HV.out, ← HG.out, decide_eq_true_eq]
            omega
          case measure => simp [intOf]; omega
        · have HF := Lib.hid (show l.all (okV d) = false by
            rw [List.all_eq_false]
            exact ⟨_, HM.out, by rw [HV.out, ← HG.out]; simp; omega⟩)
          clear hg
          go_wp2
          go_ret
          exact ⟨ret_bool HF.out.symm, rfl⟩
    · have hjl : j = l.length := by omega
      subst hjl
      have HF := Lib.hid (show l.all (okV d) = true by
        have := HA.out
        rwa [List.take_length] at this)
      go_wp2
      go_ret
      exact ⟨ret_bool HF.out.symm, rfl⟩

def planeB (W H d : Int) (l : List Int) : Bool := decide (1 ≤ W ∧ W ≤ 64) && decide (1 ≤ H ∧ H ≤ 64) && (decide (1 ≤ d) && decide (d ≤ 16)) && decide ((l.length : Int) = W * H) && l.all (okV d)
set_option maxHeartbeats 2000000 in
theorem rplane_any {w : World} {B : Nat} {A : Option Addr} {c : Nat} {l : List Int} (hr : RdI w B .i64 A l) (h63 : l.length ≤ 9223372036854775807) (W H d : Int) :
    Calls Try.prog 57 #[.slice A l.length c, .int .i64 W, .int .i64 H, .int .i64 d] w fun e w' => e = .returned (.bool (planeB W H d l)) ∧ w = w' := by
  have H1 := fun w => side_any W w
  have H2 := fun w => side_any H w
  have H3 := fun w => depth_any d w
  have HP := Lib.hid (show planeB W H d l = (decide (1 ≤ W ∧ W ≤ 64) && decide (1 ≤ H ∧ H ≤ 64) && (decide (1 ≤ d) && decide (d ≤ 16)) && decide ((l.length : Int) = W * H) && l.all (okV d)) from rfl)
  rw [HP.out]
  clear HP
  by_cases h1 : 1 ≤ W ∧ W ≤ 64
  · simp only [h1, and_self, decide_true, Bool.true_and] at H1 ⊢
    replace H1 := Lib.hid H1
    by_cases h2 : 1 ≤ H ∧ H ≤ 64
    · simp only [h2, and_self, decide_true, Bool.true_and] at H2 ⊢
      replace H2 := Lib.hid H2
      by_cases h3 : 1 ≤ d ∧ d ≤ 16
      · simp only [h3, decide_true, Bool.and_true, Bool.true_and] at H3 ⊢
        replace H3 := Lib.hid H3
        obtain ⟨Wn, rfl⟩ := Int.eq_ofNat_of_zero_le (show 0 ≤ W by omega)
        obtain ⟨Hn, rfl⟩ := Int.eq_ofNat_of_zero_le (show 0 ≤ H by omega)
        obtain ⟨dn, rfl⟩ := Int.eq_ofNat_of_zero_le (show 0 ≤ d by omega)
        obtain ⟨m1, m2⟩ := mul_64 h1 h2
        obtain ⟨N, hN⟩ : ∃ N : Nat, (Wn : Int) * (Hn : Int) = N := ⟨Wn * Hn, by simp⟩
        rw [hN] at m1 m2
        have hw := IntWalk.i64_in (N : Int) (by omega)
        by_cases hl : l.length = N
        · subst hl
          have H4 := Lib.hid (rwithin_any (c := c) hr h63 dn (by omega) (by omega))
          have HL := Lib.hid (show decide ((l.length : Int) = (Wn : Int) * (Hn : Int)) = true by rw [decide_eq_true_eq, hN])
          rw [HL.out, Bool.true_and]
          generalize l.all (okV dn) = r at *
          clear HL
          go_enter Try.func57, Try.ntmps57
          go_wp2_with (first
            | (go_at_call 58; (with_reducible refine (H1.out _).mono ?_); rintro e w1 ⟨rfl, rfl⟩)
            | (go_at_call 58; (with_reducible refine (H2.out _).mono ?_); rintro e w1 ⟨rfl, rfl⟩)
            | (go_at_call 55; go_must (refine (H3.out _).mono ?_); rintro e w1 ⟨rfl, rfl⟩)
            | (go_at_call 56; go_must (refine H4.out.mono ?_); rintro e w1 ⟨rfl, rfl⟩))
          go_ret
          exact ⟨rfl, rfl⟩
        · have HL := Lib.hid (show decide ((l.length : Int) = (Wn : Int) * (Hn : Int)) = false by rw [decide_eq_false_iff_not, hN]; omega)
          rw [HL.out, Bool.false_and]
          have hl' : ((l.length : Int) == (N : Int)) = false := by rw [beq_eq_false_iff_ne]; omega
          go_enter Try.func57, Try.ntmps57
          go_wp2_with (first
            | (go_at_call 58; (with_reducible refine (H1.out _).mono ?_); rintro e w1 ⟨rfl, rfl⟩)
            | (go_at_call 58; (with_reducible refine (H2.out _).mono ?_); rintro e w1 ⟨rfl, rfl⟩)
            | (go_at_call 55; go_must (refine (H3.out _).mono ?_); rintro e w1 ⟨rfl, rfl⟩))
          go_ret
          exact ⟨rfl, rfl⟩
      · have h3' : (decide (1 ≤ d) && decide (d ≤ 16)) = false := by
          rw [Bool.and_eq_false_iff, decide_eq_false_iff_not, decide_eq_false_iff_not]
          omega
        simp only [h3', Bool.false_and] at H3 ⊢
        replace H3 := Lib.hid H3
        clear h3'
        go_enter Try.func57, Try.ntmps57
        go_wp2_with (first
          | (go_at_call 58; (with_reducible refine (H1.out _).mono ?_); rintro e w1 ⟨rfl, rfl⟩)
          | (go_at_call 58; (with_reducible refine (H2.out _).mono ?_); rintro e w1 ⟨rfl, rfl⟩)
          | (go_at_call 55; go_must (refine (H3.out _).mono ?_); rintro e w1 ⟨rfl, rfl⟩))
        go_ret
        exact ⟨rfl, rfl⟩
    · simp only [h2, decide_false, Bool.false_and] at H2 ⊢
      replace H2 := Lib.hid H2
      clear h2 H3
      go_enter Try.func57, Try.ntmps57
      go_wp2_with (first
        | (go_at_call 58; (with_reducible refine (H1.out _).mono ?_); rintro e w1 ⟨rfl, rfl⟩)
        | (go_at_call 58; (with_reducible refine (H2.out _).mono ?_); rintro e w1 ⟨rfl, rfl⟩))
      go_ret
      exact ⟨rfl, rfl⟩
  · simp only [h1, decide_false, Bool.false_and] at H1 ⊢
    replace H1 := Lib.hid H1
    clear h1 H2 H3
    go_enter Try.func57, Try.ntmps57
    go_wp2_with (first
      | (go_at_call 58; (with_reducible refine (H1.out _).mono ?_); rintro e w1 ⟨rfl, rfl⟩))
    go_ret
    exact ⟨rfl, rfl⟩
end Go.Proofs.Ytbbflddhbamjbaa
