/- page.Open. -/
import Derived.Test.YtdnkdjaokmibjaaPkOpenL
set_option linter.unusedSimpArgs false
set_option linter.unusedVariables false
namespace Go.Proofs.Ytdnkdjaokmibjaa
open Go.RowKit

set_option maxHeartbeats 4000000 in
set_option maxRecDepth 100000 in
theorem open_any {b : List Int} {A : Option Addr} {c : Nat} {w : World} {B : Nat} (hr : RdI w B .u8 A b) (hB : B ≤ w.heap.size) (hb : byteB b) (hc : b.length ≤ c) (hl : b.length ≤ 1000000000) :
    Calls Try.prog 52 #[.slice A b.length c] w fun e w' => ∃ A' c', e = .returned (.tuple #[(openP b).val A' c', .int .i64 (openE b)]) ∧ OwnI w' w.heap.size 5 .u8 (.slice A' (openP b).data.length c') (openP b).data ∧ Below w.heap.size w w' := by
  have HE := Lib.hid (show openE b = if b.length < 18 then 3 else if 65554 < b.length then 4 else if openOk b = true then 0 else 2 from rfl)
  have HP := Lib.hid (show openP b = if openE b = 0 then ⟨b.getD 0 0, big ((b.drop 2).take 8), big ((b.drop 10).take 8), b.getD 1 0 % 2 != 0, b.getD 1 0 / 2 % 2 != 0, b.drop 18⟩ else Pk.zero from rfl)
  have HO := Lib.hid (show openOk b = decide (b.getD 0 0 < 4 ∧ b.getD 1 0 ≤ 3 ∧ big ((b.drop 2).take 8) ≤ 1125899906842624 ∧ big ((b.drop 10).take 8) ≤ 1125899906842624) from rfl)
  generalize openE b = E at *
  generalize openP b = P at *
  by_cases h18 : b.length < 18
  · have HE2 : E = 3 := by rw [HE.out, if_pos h18]
    subst HE2
    have HP2 : P = Pk.zero := by rw [HP.out, if_neg (by omega)]
    subst HP2
    have h18' : (b.length : Int) < 18 := by omega
    clear HE HP HO h18
    go_enter Try.func52, Try.ntmps52
    go_wp2
    exact bodyPost_ret (v := .tuple #[Pk.zero.val none 0, .int .i64 3]) (by simp [results, Try.results52, go_sem, Pk.zero]) rfl ⟨none, 0, rfl, OwnI.nil_ _ _ _ _, (by repeat (first | exact Below.refl _ _ | assumption | refine Below.drew ?_ | refine below_drewN ?_ _ | refine below_alloc ?_ _))⟩
  · by_cases h64 : 65554 < b.length
    · have HE2 : E = 4 := by rw [HE.out, if_neg h18, if_pos h64]
      subst HE2
      have HP2 : P = Pk.zero := by rw [HP.out, if_neg (by omega)]
      subst HP2
      have h64' : (65554 : Int) < b.length := by omega
      have h18' : decide ((b.length : Int) < 18) = false := by simp; omega
      clear HE HP HO h18 h64
      go_enter Try.func52, Try.ntmps52
      go_wp2
      exact bodyPost_ret (v := .tuple #[Pk.zero.val none 0, .int .i64 4]) (by simp [results, Try.results52, go_sem, Pk.zero]) rfl ⟨none, 0, rfl, OwnI.nil_ _ _ _ _, (by repeat (first | exact Below.refl _ _ | assumption | refine Below.drew ?_ | refine below_drewN ?_ _ | refine below_alloc ?_ _))⟩
    · have h18' : decide ((b.length : Int) < 18) = false := by simp; omega
      have h64' : decide (65554 < (b.length : Int)) = false := by simp; omega
      have HN := Lib.hid (fun (W : World) (hW : Below w.heap.size w W) => new_any A c b hb hl W B (hr.below hW hB))
      have HR1 := Lib.hid (fun (W : World) (lo hi g : Nat) (h : Rdr W 126 lo hi g ⟨b, 0, 0⟩) => rbig_any h 1 (by omega) (by omega))
      have HR2 := Lib.hid (fun (W : World) (lo hi g : Nat) (h : Rdr W 126 lo hi g ⟨b, 1, 0⟩) => rbig_any h 1 (by omega) (by omega))
      have HR3 := Lib.hid (fun (W : World) (lo hi g : Nat) (h : Rdr W 126 lo hi g ⟨b, 2, 0⟩) => rbig_any h 8 (by omega) (by omega))
      have HR4 := Lib.hid (fun (W : World) (lo hi g : Nat) (h : Rdr W 126 lo hi g ⟨b, 10, 0⟩) => rbig_any h 8 (by omega) (by omega))
      have e1 : min (Int.toNat 1) 8 = 1 := rfl
      have e8 : min (Int.toNat 8) 8 = 8 := rfl
      rw [e1, take_ok (by omega)] at HR1 HR2
      rw [e8, take_ok (by omega)] at HR3 HR4
      simp only [Nat.zero_add, Nat.reduceAdd, big_one (show 0 < b.length by omega), big_one (show 1 < b.length by omega)] at HR1 HR2 HR3 HR4
      obtain ⟨s0, s1⟩ := hb.getD 0
      obtain ⟨f0, f1⟩ := hb.getD 1
      obtain ⟨a0, a1⟩ := big8_bd hb 2
      obtain ⟨l0, l1⟩ := big8_bd hb 10
      obtain ⟨As, hrun, hrs, _⟩ := hr.slice_l Try.underlying31 info_u8 (lo := 18) (by omega) hc
      have HD := Lib.hid (show (b.drop 18).length = b.length - 18 from List.length_drop)
      have HC := Lib.hid (fun (W : World) (hW : Below w.heap.size w W) => clone_any As (c - 18) (b.drop 18) (by have := HD.out; omega) W B (hrs.below hW hB) (Nat.le_trans hB hW.size))
      rw [HD.out] at HC
      generalize b.drop 18 = d at *
      generalize b.getD 0 0 = s at *
      generalize b.getD 1 0 = f at *
      generalize big ((b.drop 2).take 8) = a at *
      generalize big ((b.drop 10).take 8) = l at *
      simp only [show ((18 : Nat) : Int) = 18 from rfl] at hrun
      clear hr hrs hb e1 e8
      have k1 := and2_64 f f0
      have k5 := and1_64 f f0
      by_cases hok : s < 4 ∧ f ≤ 3 ∧ a ≤ 1125899906842624 ∧ l ≤ 1125899906842624
      · have HE2 : E = 0 := by rw [HE.out, if_neg h18, if_neg h64, HO.out, if_pos (decide_eq_true hok)]
        subst HE2
        have HP2 : P = ⟨s, a, l, f % 2 != 0, f / 2 % 2 != 0, d⟩ := by rw [HP.out, if_pos rfl]
        subst HP2
        have k2 := k1 hok.2.1
        have k6 := k5 hok.2.1
        obtain ⟨o1, o2, o3, o4⟩ := hok
        have q1 : decide (4 ≤ s) = false := by simp; omega
        have q2 : decide (3 < f) = false := by simp; omega
        have q3 : decide (1125899906842624 < a) = false := by simp; omega
        have q4 : decide (1125899906842624 < l) = false := by simp; omega
        have hdl : d.length = b.length - 18 := HD.out
        clear HE HP HO h18 h64 k1 k5
        go_enter Try.func52, Try.ntmps52
        go_wp2_with fail
        have kb := Blk.new w 84 #[.int .i64 0, .int .i64 0, .int .i64 0, .bool false, .bool false, .slice none 0 0]
        have hbw : Below w.heap.size w (w.alloc (.cells #[.int .i64 0, .int .i64 0, .int .i64 0, .bool false, .bool false, .slice none 0 0] 84)) := below_alloc (Below.refl _ _) _
        generalize w.alloc (.cells #[.int .i64 0, .int .i64 0, .int .i64 0, .bool false, .bool false, .slice none 0 0] 84) = wb at *
        have hgl := kb.lt
        go_wp2_with (first
          | (go_at_call 61; (with_reducible refine (HN.out _ hbw).mono ?_); rintro e w1 ⟨g, rfl, hg, hR1, hb1⟩)
          | (go_at_call 62; (with_reducible refine (HR1.out _ _ _ _ hR1).mono ?_); rintro e w2 ⟨rfl, hR2, hg2⟩; have hb2 := below_one hb1 hg2 hg)
          | (go_at_call 62; (with_reducible refine (HR2.out _ _ _ _ hR2).mono ?_); rintro e w3 ⟨rfl, hR3, hg3⟩; have hb3 := below_one hb2 hg3 hg)
          | (go_at_call 62; (with_reducible refine (HR3.out _ _ _ _ hR3).mono ?_); rintro e w4 ⟨rfl, hR4, hg4⟩; have hb4 := below_one hb3 hg4 hg)
          | (go_at_call 62; (with_reducible refine (HR4.out _ _ _ _ hR4).mono ?_); rintro e w5 ⟨rfl, hR5, hg5⟩; have hb5 := below_one hb4 hg5 hg)
          | (go_at_call 46; (with_reducible refine (HC.out _ (below_then hbw hb5)).mono ?_); rintro e w6 ⟨v6, rfl, hown6, hb6⟩; have bb6 := below_then hb5 hb6; have kr := kb.below bb6 hgl; obtain ⟨A6, c6, rfl, hc6, hr6, _⟩ := hown6.form; have z0 := kr.cell 0; have z1 := kr.cell 1; have z2 := kr.cell 2; have z3 := kr.cell 3; have z4 := kr.cell 4; have z5 := kr.cell 5; have y0 := kr.frozen 0; have y1 := kr.frozen 1; have y2 := kr.frozen 2; have y3 := kr.frozen 3; have y4 := kr.frozen 4; have y5 := kr.frozen 5))
        exact bodyPost_ret (v := .tuple #[Pk.val ⟨s, a, l, f % 2 != 0, f / 2 % 2 != 0, d⟩ A6 c6, .int .i64 0]) (by simp [results, Try.results52, go_sem, z0, z1, z2, z3, z4, z5, *]) rfl ⟨A6, c6, rfl, OwnI.base_ (base := w5.heap.size) (by have hlt : w.heap.size < w5.heap.size := (by have := hb5.size; omega); repeat (first | with_reducible exact hown6 | refine own_put ?_ hlt)) (by have := hb5.size; omega), by have hz := below_then hbw bb6; repeat (first | with_reducible exact hz | refine below_put ?_ (Nat.le_refl _))⟩
      · have HE2 : E = 2 := by rw [HE.out, if_neg h18, if_neg h64, HO.out, decide_eq_false hok, if_neg (by simp)]
        subst HE2
        have HP2 : P = Pk.zero := by rw [HP.out, if_neg (by omega)]
        subst HP2
        have hcase : 4 ≤ s ∨ (s < 4 ∧ 3 < f) ∨ (s < 4 ∧ f ≤ 3 ∧ 1125899906842624 < a) ∨ (s < 4 ∧ f ≤ 3 ∧ a ≤ 1125899906842624 ∧ 1125899906842624 < l) := by omega
        clear HE HP HO h18 h64 k1 k5 hok HC hrun
        rcases hcase with h | h | h | h
        all_goals
          go_enter Try.func52, Try.ntmps52
          go_wp2_with fail
          have kb := Blk.new w 84 #[.int .i64 0, .int .i64 0, .int .i64 0, .bool false, .bool false, .slice none 0 0]
          have hbw : Below w.heap.size w (w.alloc (.cells #[.int .i64 0, .int .i64 0, .int .i64 0, .bool false, .bool false, .slice none 0 0] 84)) := below_alloc (Below.refl _ _) _
          generalize w.alloc (.cells #[.int .i64 0, .int .i64 0, .int .i64 0, .bool false, .bool false, .slice none 0 0] 84) = wb at *
          have hgl := kb.lt
          go_wp2_with (first
            | (go_at_call 61; (with_reducible refine (HN.out _ hbw).mono ?_); rintro e w1 ⟨g, rfl, hg, hR1, hb1⟩)
            | (go_at_call 62; (with_reducible refine (HR1.out _ _ _ _ hR1).mono ?_); rintro e w2 ⟨rfl, hR2, hg2⟩; have hb2 := below_one hb1 hg2 hg)
            | (go_at_call 62; (with_reducible refine (HR2.out _ _ _ _ hR2).mono ?_); rintro e w3 ⟨rfl, hR3, hg3⟩; have hb3 := below_one hb2 hg3 hg)
            | (go_at_call 62; (with_reducible refine (HR3.out _ _ _ _ hR3).mono ?_); rintro e w4 ⟨rfl, hR4, hg4⟩; have hb4 := below_one hb3 hg4 hg)
            | (go_at_call 62; (with_reducible refine (HR4.out _ _ _ _ hR4).mono ?_); rintro e w5 ⟨rfl, hR5, hg5⟩; have hb5 := below_one hb4 hg5 hg; have kr := kb.below hb5 hgl; have z0 := kr.cell 0; have z1 := kr.cell 1; have z2 := kr.cell 2; have z3 := kr.cell 3; have z4 := kr.cell 4; have z5 := kr.cell 5; have y0 := kr.frozen 0; have y1 := kr.frozen 1; have y2 := kr.frozen 2; have y3 := kr.frozen 3; have y4 := kr.frozen 4; have y5 := kr.frozen 5))
          exact bodyPost_ret (v := .tuple #[Pk.zero.val none 0, .int .i64 2]) (by simp [results, Try.results52, go_sem, Pk.zero, z0, z1, z2, z3, z4, z5]) rfl ⟨none, 0, rfl, OwnI.nil_ _ _ _ _, by have hz := below_then hbw hb5; repeat (first | with_reducible exact hz | refine below_put ?_ (Nat.le_refl _))⟩
end Go.Proofs.Ytdnkdjaokmibjaa
