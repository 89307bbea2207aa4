/- slices.Equal, slices.EqualFunc, pic.Same. -/
import Derived.Test.YtbmgnclfecejeaaPicSame
set_option linter.unusedSimpArgs false
set_option linter.unusedVariables false
namespace Go.Proofs.Ytbmgnclfecejeaa
open Go.RowKit

set_option maxHeartbeats 2000000 in
theorem seq_any {w : World} {B : Nat} {A A2 : Option Addr} {c c2 : Nat} {a b : List Int} (hr : RdI w B .i64 A a) (hr2 : RdI w B .i64 A2 b) (h63 : a.length ≤ 9223372036854775807) :
    Calls Try.prog 47 #[.slice A a.length c, .slice A2 b.length c2] w fun e w' => e = .returned (.bool (decide (a = b))) ∧ ∃ n, w' = w.drewN n := by
  by_cases hl : a.length = b.length
  · have hlen := Lib.hid hl
    have hrl : Hid (RdI w B .i64 A2 b) := hr2
    clear hr2
    rw [← hl]
    clear hl
    go_enter Try.func47, Try.ntmps47
    go_wp2
    go_loopw [13] (fun i wr => ∃ (j n : Nat), j ≤ a.length ∧ i = .int .i64 j ∧ wr = w.drewN n ∧ a.take j = b.take j) (fun i _ => a.length - (intOf i).toNat)
    case atStart => exact ⟨0, 0, Nat.zero_le _, rfl, rfl, by simp⟩
    case round =>
      obtain ⟨j, n, hj, rfl, rfl, ht⟩ := hrel
      have HT := Lib.hid ht
      clear ht
      by_cases hlt : j < a.length
      · obtain ⟨ad, rfl, _, k0⟩ := hr.at_ hlt
        obtain ⟨ad2, rfl, _, k1⟩ := hrl.out.at_ (show j < b.length by rw [← hlen.out]; exact hlt)
        by_cases hx : a.getD j 0 = b.getD j 0
        · have HX := Lib.hid hx
          rw [← hx] at k1
          clear hx
          generalize a.getD j 0 = x at k0 k1
          go_wp2
          go_quiet (fail)
          go_wp2
          go_roundw
          case rel => exact ⟨j + 1, _, by omega, by go_num, rfl, take_eq_step hlen.out hlt HT.out HX.out⟩
          case measure => simp [intOf]; omega
        · have HF := Lib.hid (show decide (a = b) = false by
            rw [decide_eq_false_iff_not]
            intro h
            rw [h] at hx
            exact hx rfl)
          have hxf : (a.getD j 0 != b.getD j 0) = true := by simpa using hx
          generalize a.getD j 0 = x at *
          generalize b.getD j 0 = y at *
          go_wp2
          go_quiet (fail)
          go_wp2
          go_ret
          exact ⟨ret_bool HF.out.symm, _, World.drewN_drewN _ _ _⟩
      · have hjl : j = a.length := by omega
        subst hjl
        have HF := Lib.hid (show decide (a = b) = true by
          rw [decide_eq_true_eq]
          have h1 := HT.out
          rw [List.take_length, hlen.out, List.take_length] at h1
          exact h1)
        go_wp2
        go_ret
        exact ⟨ret_bool HF.out.symm, _, rfl⟩
  · have HF := Lib.hid (show decide (a = b) = false by
      rw [decide_eq_false_iff_not]
      intro h
      exact hl (by rw [h]))
    have hlf : ((a.length : Int) != (b.length : Int)) = true := by rw [bne_iff_ne]; omega
    have hne : ¬ ((a.length : Int) = (b.length : Int)) := by omega
    go_enter Try.func47, Try.ntmps47
    go_wp2
    go_ret
    exact ⟨ret_bool HF.out.symm, 0, rfl⟩

set_option maxHeartbeats 2000000 in
theorem seqf_any {w : World} {B : Nat} {A A2 : Option Addr} {c c2 : Nat} {a b : List (List Int)} (hr : RdLL w B .i64 A a) (hr2 : RdLL w B .i64 A2 b) (h63 : Len63 a) :
    Calls Try.prog 46 #[.slice A a.length c, .slice A2 b.length c2, .func (.func 47) #[] #[]] w fun e w' => e = .returned (.bool (decide (a = b))) ∧ ∃ n, w' = w.drewN n := by
  obtain ⟨h1, h2⟩ := h63
  have HL := Lib.hid h2
  clear h2
  by_cases hl : a.length = b.length
  · have hlen := Lib.hid hl
    have hrl : Hid (RdLL w B .i64 A2 b) := hr2
    clear hr2
    rw [← hl]
    clear hl
    go_enter Try.func46, Try.ntmps46
    go_wp2
    go_loopw [17] (fun i wr => ∃ (j n : Nat), j ≤ a.length ∧ i = .int .i64 j ∧ wr = w.drewN n ∧ a.take j = b.take j) (fun i _ => a.length - (intOf i).toNat)
    case atStart => exact ⟨0, 0, Nat.zero_le _, rfl, rfl, by simp⟩
    case round =>
      obtain ⟨j, n, hj, rfl, rfl, ht⟩ := hrel
      have HT := Lib.hid ht
      clear ht
      by_cases hlt : j < a.length
      · obtain ⟨ad, Aj, cj, rfl, _, k0, _, hrj⟩ := hr.at_ hlt
        obtain ⟨ad2, Ak, ck, rfl, _, k1, _, hrk⟩ := hrl.out.at_ (show j < b.length by rw [← hlen.out]; exact hlt)
        have HM := Lib.hid (HL.out _ (getDD_mem hlt))
        by_cases hx : a.getD j [] = b.getD j []
        · have HX := Lib.hid (take_eq_stepL hlen.out hlt HT.out hx)
          rw [← hx] at k1 hrk
          clear hx
          generalize a.getD j [] = x at *
          have HC := Lib.hid (seq_any (c := cj) (c2 := ck) (hrj.drewN n) (hrk.drewN n) HM.out)
          simp only [decide_true] at HC
          go_wp2_with (first
            | (go_at_call 47; go_must (refine HC.out.mono ?_); rintro e w1 ⟨rfl, m, rfl⟩))
          go_roundw
          case rel => exact ⟨j + 1, _, by omega, by go_num, rfl, HX.out⟩
          case measure => simp [intOf]; omega
        · have HF := Lib.hid (show decide (a = b) = false by
            rw [decide_eq_false_iff_not]
            intro h
            rw [h] at hx
            exact hx rfl)
          generalize a.getD j [] = x at *
          generalize b.getD j [] = y at *
          have HC := seq_any (c := cj) (c2 := ck) (hrj.drewN n) (hrk.drewN n) HM.out
          simp only [hx, decide_false] at HC
          replace HC := Lib.hid HC
          go_wp2_with (first
            | (go_at_call 47; go_must (refine HC.out.mono ?_); rintro e w1 ⟨rfl, m, rfl⟩))
          go_ret
          exact ⟨ret_bool HF.out.symm, _, rfl⟩
      · have hjl : j = a.length := by omega
        subst hjl
        have HF := Lib.hid (show decide (a = b) = true by
          rw [decide_eq_true_eq]
          have h1 := HT.out
          rw [List.take_length, hlen.out, List.take_length] at h1
          exact h1)
        go_wp2
        go_ret
        exact ⟨ret_bool HF.out.symm, _, rfl⟩
  · have HF := Lib.hid (show decide (a = b) = false by
      rw [decide_eq_false_iff_not]
      intro h
      exact hl (by rw [h]))
    have hne : ¬ ((a.length : Int) = (b.length : Int)) := by omega
    go_enter Try.func46, Try.ntmps46
    go_wp2
    go_ret
    exact ⟨ret_bool HF.out.symm, 0, rfl⟩

set_option maxHeartbeats 2000000 in
theorem psame_any {w : World} {B : Nat} {A A2 : Option Addr} {c c2 : Nat} {a b : Pc} (hr : RdLL w B .i64 A a.p) (hr2 : RdLL w B .i64 A2 b.p) (hB : B ≤ w.heap.size) (h63 : Len63 a.p) :
    Calls Try.prog 30 #[.agg #[.int .i64 a.w, .int .i64 a.h, .int .i64 a.d, .slice A a.p.length c], .agg #[.int .i64 b.w, .int .i64 b.h, .int .i64 b.d, .slice A2 b.p.length c2]] w fun e w' => e = .returned (.bool (sameB a b)) ∧ Below w.heap.size w w' := by
  obtain ⟨aw, ah, ad, ap⟩ := a
  obtain ⟨bw, bh, bd, bp⟩ := b
  simp only at *
  have HR := Lib.hid (fun W (hb : Below w.heap.size w W) => seqf_any (c := c) (c2 := c2) (hr.below hb hB) (hr2.below hb hB) h63)
  have HS := Lib.hid (show sameB ⟨aw, ah, ad, ap⟩ ⟨bw, bh, bd, bp⟩ = (decide (aw = bw) && decide (ah = bh) && decide (ad = bd) && decide (ap = bp)) by simp [sameB, Bool.and_assoc])
  generalize decide (ap = bp) = r at *
  rw [HS.out]
  clear HS
  go_enter Try.func30, Try.ntmps30
  go_wp2_with (first
    | (go_at_call 46; go_must (refine (HR.out _ (by repeat (first | exact Below.refl _ _ | assumption | refine Below.drew ?_ | refine below_drewN ?_ _ | refine below_alloc ?_ _))).mono ?_); rintro e w1 ⟨rfl, n, rfl⟩))
  all_goals
    go_ret
    refine ⟨ret_bool ?_, ?_⟩
    · simp_all
    · first | exact below_drewN (below_alloc (below_alloc (Below.refl _ _) _) _) _ | exact below_alloc (below_alloc (Below.refl _ _) _) _
end Go.Proofs.Ytbmgnclfecejeaa
