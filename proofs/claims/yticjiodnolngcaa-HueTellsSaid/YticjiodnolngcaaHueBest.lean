/- hue.Best. -/
import Derived.Test.YticjiodnolngcaaHueCost
import Derived.Test.YticjiodnolngcaaHueF
set_option linter.unusedSimpArgs false
set_option linter.unusedVariables false
namespace Go.Proofs.Yticjiodnolngcaa
open Go.RowKit

/-- The cost of a picture's fore, by a kind. -/
def costF (W H d : Nat) (p : List (List Int)) (k : Nat) : Int := cstLL W d (hueLL (foreC k d) p (W * H)) p.length
def BestOf (W H d : Nat) (p : List (List Int)) (n : Nat) (b : Nat) : Prop := b < n ∧ mayB p.length b = true ∧ (∀ j, j < n → mayB p.length j = true → costF W H d p b ≤ costF W H d p j) ∧ (∀ j, j < b → mayB p.length j = true → costF W H d p b < costF W H d p j)
theorem costF_bd {W H d : Nat} {p : List (List Int)} (h : isB ⟨(W : Int), (H : Int), (d : Int), p⟩ = true) (k : Nat) : 0 ≤ costF W H d p k ∧ costF W H d p k ≤ 536870912 := by
  obtain ⟨b1, b2, b3, b4, b5, b6, b7, b8, b9⟩ := isB_all h
  have hi := hueLL_isB h (fun x hx => foreC_ok ⟨b5, b6⟩ (k : Int) hx)
  have hs := (isB_all hi).2.2.2.2.2.2.2.2
  have hWHm : W * H ≤ 4096 := Nat.mul_le_mul (show W ≤ 64 by omega) (show H ≤ 64 by omega)
  have := cstLL_bd (W := W) (d := d) ⟨b5, b6⟩ (p := hueLL (foreC k d) p (W * H)) (fun l hl => by have := (hs l hl).1; omega) p.length (by simp [hueLL])
  unfold costF
  omega
theorem may_zero {n : Nat} (h1 : 1 ≤ n) (h4 : n ≤ 4) : mayB n (0 : Nat) = true := by
  simp only [mayB, decide_eq_true_eq]
  omega

set_option maxHeartbeats 8000000 in
set_option maxRecDepth 100000 in
theorem best_yes {w : World} {B W H d : Nat} {p : List (List Int)} {A : Option Addr} {c : Nat} (hr : RdLL w B .i64 A p) (hB : B ≤ w.heap.size) (hI : isB ⟨(W : Int), (H : Int), (d : Int), p⟩ = true) :
    Calls Try.prog 14 #[.agg #[.int .i64 (W : Int), .int .i64 (H : Int), .int .i64 (d : Int), .slice A p.length c]] w fun e w' => ∃ b : Nat, e = .returned (.int .i64 (b : Int)) ∧ Hid (BestOf W H d p 5 b) ∧ Below w.heap.size w w' := by
  obtain ⟨b1, b2, b3, b4, b5, b6, b7, b8, b9⟩ := isB_all hI
  have hd : 1 ≤ (d : Int) ∧ (d : Int) ≤ 16 := ⟨b5, b6⟩
  have HY := Lib.hid (fun (k : Nat) (hm : mayB p.length k = true) W' (hb : Below w.heap.size w W') => huefore_yes (c := c) (hr.to hB hb) (Nat.le_refl _) hI k hm)
  have HN := Lib.hid (fun (k : Nat) (hm : mayB p.length k = false) W' (hb : Below w.heap.size w W') => huefore_no (q := ⟨(W : Int), (H : Int), (d : Int), p⟩) (c := c) (hr.to hB hb) (Nat.le_refl _) (by simp only; omega) k (by rw [hI, Bool.true_and]; exact hm))
  have HC : ∀ (k : Nat) (W' : World) (A' : Option Addr) (c' : Nat), RdLL W' W'.heap.size .i64 A' (hueLL (foreC k d) p (W * H)) → Calls Try.prog 15 #[.agg #[.int .i64 (W : Int), .int .i64 (H : Int), .int .i64 (d : Int), .slice A' p.length c']] W' fun e w' => e = .returned (.int .i64 (costF W H d p k)) ∧ Below W'.heap.size W' w' := fun k W' A' c' hr' => by
    have h := cost_any (c := c') hr' (Nat.le_refl _) (hueLL_isB hI (fun x hx => foreC_ok hd (k : Int) hx))
    rw [show (hueLL (foreC k d) p (W * H)).length = p.length by simp [hueLL]] at h
    exact h
  have HBd := Lib.hid (fun k => costF_bd hI k)
  have HM0 := Lib.hid (may_zero b7 b8)
  replace HC := Lib.hid HC
  clear b9 hI hr hd
  go_enter Try.func14, Try.ntmps14
  go_wp2
  have k0 := Blk.new w 27 #[.int .i64 (W : Int), .int .i64 (H : Int), .int .i64 (d : Int), .slice A p.length c]
  have bxa := below_alloc (Below.refl w.heap.size w) (.cells #[.int .i64 (W : Int), .int .i64 (H : Int), .int .i64 (d : Int), .slice A p.length c] 27)
  generalize w.alloc (.cells #[.int .i64 (W : Int), .int .i64 (H : Int), .int .i64 (d : Int), .slice A p.length c] 27) = wa at *
  go_loopw [10, 3, 4, 5] (fun i vb vc vf wr => ∃ (k b : Nat) (x : Int) (f : Bool), k ≤ 5 ∧ i = .int .i64 k ∧ vb = .int .i64 b ∧ vc = .int .i64 x ∧ vf = .bool f ∧ Below w.heap.size w wr ∧ Blk wr w.heap.size 27 #[.int .i64 (W : Int), .int .i64 (H : Int), .int .i64 (d : Int), .slice A p.length c] ∧
      f = decide (0 < k) ∧ (k = 0 → b = 0 ∧ x = 0) ∧ (0 < k → x = costF W H d p b ∧ BestOf W H d p k b)) (fun i _ _ _ _ => 5 - (intOf i).toNat)
  case atStart => exact ⟨0, 0, 0, false, by omega, rfl, rfl, rfl, rfl, bxa, k0, rfl, fun _ => ⟨rfl, rfl⟩, fun h => absurd h (by omega)⟩
  case round =>
    obtain ⟨k, b, x, f, hk, rfl, rfl, rfl, rfl, hbr, hkr, hf, hz, hpos⟩ := hrel
    obtain ⟨y0, y1, y2, y3, _⟩ := hkr.four
    have HPos := Lib.hid hpos
    have HZ := Lib.hid hz
    clear hpos hz
    by_cases hk5 : k < 5
    · have hk6 : (k : Int) < 5 := by omega
      cases hm : mayB p.length k
      · have HN1 := Lib.hid (HN.out k hm)
        have hk0 : 0 < k := by
          rcases Nat.eq_zero_or_pos k with h0 | h0
          · subst h0
            have := HM0.out
            rw [hm] at this
            cases this
          · exact h0
        have HNew := Lib.hid (show x = costF W H d p b ∧ BestOf W H d p (k + 1) b by
          obtain ⟨h1, h2, h3, h4, h5⟩ := HPos.out hk0
          refine ⟨h1, by omega, h3, fun j hj hmj => ?_, h5⟩
          rcases Nat.lt_or_eq_of_le (Nat.le_of_lt_succ hj) with hlt | rfl
          · exact h4 j hlt hmj
          · rw [hm] at hmj
            cases hmj)
        have HF0 := Lib.hid hf
        clear hm hf
        go_wp2_with (first
          | (go_at_call 11; go_must (refine (HN1.out _ hbr).mono ?_); rintro e v2 ⟨rfl, hv2⟩))
        have hb2 := hbr.trans (hv2.mono hbr.size)
        have k2 := (hkr.below hv2 hkr.lt).alloc (.cells #[.int .i64 0, .int .i64 0, .int .i64 0, .slice none 0 0] 27)
        go_roundw
        case rel => exact ⟨k + 1, b, x, f, by omega, by go_num, rfl, rfl, rfl, hb2.alloc hb2.size _, k2, by rw [HF0.out]; simp [hk0], fun h => absurd h (by omega), fun _ => HNew.out⟩
        case measure => simp [intOf]; omega
      · have HY1 := Lib.hid (HY.out k hm)
        have HC1 := Lib.hid (HC.out k)
        obtain ⟨c0, c1⟩ := HBd.out k
        have hm' := Lib.hid hm
        by_cases hk0 : k = 0
        · subst hk0
          obtain ⟨rfl, rfl⟩ := HZ.out rfl
          have hff : f = false := by rw [hf]; rfl
          subst hff
          have HNew := Lib.hid (show costF W H d p 0 = costF W H d p 0 ∧ BestOf W H d p (0 + 1) 0 from ⟨rfl, by omega, hm, fun j hj _ => (show j = 0 by omega) ▸ Int.le_refl _, fun j hj => absurd hj (by omega)⟩)
          generalize hcf : costF W H d p 0 = cf at *
          have HCf := Lib.hid hcf
          clear hm hf hcf
          go_wp2_with (first
            | (go_at_call 11; go_must (refine (HY1.out _ hbr).mono ?_); rintro e v2 ⟨A2, c2, rfl, ho2, hv2⟩; have ra := rdOwn ho2 (below_alloc (Below.refl _ _) (.cells #[.int .i64 (W : Int), .int .i64 (H : Int), .int .i64 (d : Int), .slice A2 p.length c2] 27)); have k2 := (hkr.below hv2 hkr.lt).alloc (.cells #[.int .i64 (W : Int), .int .i64 (H : Int), .int .i64 (d : Int), .slice A2 p.length c2] 27))
            | (go_at_call 15; go_must (refine (HC1.out _ _ _ ra).mono ?_); rintro e v3 ⟨rfl, hv3⟩; have k3 := k2.below hv3 k2.lt; have bb3 := hbr.trans ((below_then (below_then hv2 (below_alloc (Below.refl _ _) _)) hv3).mono hbr.size)))
          go_roundw
          case rel => exact ⟨0 + 1, 0, cf, true, by omega, by go_num, rfl, rfl, rfl, bb3, k3, rfl, fun h => absurd h (by omega), fun _ => ⟨HCf.out.symm, HNew.out.2⟩⟩
          case measure => simp [intOf]
        · have hk00 : 0 < k := by omega
          have hff : f = true := by rw [hf]; simp [hk00]
          subst hff
          obtain ⟨hx1, hbo⟩ := HPos.out hk00
          obtain ⟨z0, z1⟩ := HBd.out b
          rw [← hx1] at z0 z1
          by_cases hlt : costF W H d p k < x
          · have HNew := Lib.hid (show BestOf W H d p (k + 1) k by
              obtain ⟨h2, h3, h4, h5⟩ := hbo
              refine ⟨by omega, hm, fun j hj hmj => ?_, fun j hj hmj => ?_⟩
              · rcases Nat.lt_or_eq_of_le (Nat.le_of_lt_succ hj) with hl | rfl
                · have := h4 j hl hmj
                  omega
                · exact Int.le_refl _
              · have := h4 j hj hmj
                omega)
            have HX := Lib.hid hx1
            generalize hcf : costF W H d p k = cf at *
            have HCf := Lib.hid hcf
            have hd1 : decide (cf < x) = true := by simpa using hlt
            clear hm hf hcf hx1 hbo
            go_wp2_with (first
              | (go_at_call 11; go_must (refine (HY1.out _ hbr).mono ?_); rintro e v2 ⟨A2, c2, rfl, ho2, hv2⟩; have ra := rdOwn ho2 (below_alloc (Below.refl _ _) (.cells #[.int .i64 (W : Int), .int .i64 (H : Int), .int .i64 (d : Int), .slice A2 p.length c2] 27)); have k2 := (hkr.below hv2 hkr.lt).alloc (.cells #[.int .i64 (W : Int), .int .i64 (H : Int), .int .i64 (d : Int), .slice A2 p.length c2] 27))
              | (go_at_call 15; go_must (refine (HC1.out _ _ _ ra).mono ?_); rintro e v3 ⟨rfl, hv3⟩; have k3 := k2.below hv3 k2.lt; have bb3 := hbr.trans ((below_then (below_then hv2 (below_alloc (Below.refl _ _) _)) hv3).mono hbr.size)))
            go_roundw
            case rel => exact ⟨k + 1, k, cf, true, by omega, by go_num, rfl, rfl, rfl, bb3, k3, by simp, fun h => absurd h (by omega), fun _ => ⟨HCf.out.symm, HNew.out⟩⟩
            case measure => simp [intOf]; omega
          · have HNew := Lib.hid (show BestOf W H d p (k + 1) b by
              obtain ⟨h2, h3, h4, h5⟩ := hbo
              refine ⟨by omega, h3, fun j hj hmj => ?_, h5⟩
              rcases Nat.lt_or_eq_of_le (Nat.le_of_lt_succ hj) with hl | rfl
              · exact h4 j hl hmj
              · omega)
            have HX := Lib.hid hx1
            generalize hcf : costF W H d p k = cf at *
            have hd1 : decide (cf < x) = false := by simpa using hlt
            clear hm hf hcf hx1 hbo
            go_wp2_with (first
              | (go_at_call 11; go_must (refine (HY1.out _ hbr).mono ?_); rintro e v2 ⟨A2, c2, rfl, ho2, hv2⟩; have ra := rdOwn ho2 (below_alloc (Below.refl _ _) (.cells #[.int .i64 (W : Int), .int .i64 (H : Int), .int .i64 (d : Int), .slice A2 p.length c2] 27)); have k2 := (hkr.below hv2 hkr.lt).alloc (.cells #[.int .i64 (W : Int), .int .i64 (H : Int), .int .i64 (d : Int), .slice A2 p.length c2] 27))
              | (go_at_call 15; go_must (refine (HC1.out _ _ _ ra).mono ?_); rintro e v3 ⟨rfl, hv3⟩; have k3 := k2.below hv3 k2.lt; have bb3 := hbr.trans ((below_then (below_then hv2 (below_alloc (Below.refl _ _) _)) hv3).mono hbr.size)))
            go_roundw
            case rel => exact ⟨k + 1, b, x, true, by omega, by go_num, rfl, rfl, rfl, bb3, k3, by simp, fun h => absurd h (by omega), fun _ => ⟨HX.out, HNew.out⟩⟩
            case measure => simp [intOf]; omega
    · obtain rfl : k = 5 := by omega
      have HR := Lib.hid (HPos.out (by omega)).2
      clear hf
      go_wp2
      go_ret
      exact ⟨b, rfl, HR, hbr⟩
end Go.Proofs.Yticjiodnolngcaa
