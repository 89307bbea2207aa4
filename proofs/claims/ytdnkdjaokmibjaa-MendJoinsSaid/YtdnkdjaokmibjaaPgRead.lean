/- page.Read at a place that is there. -/
import Derived.Test.YtdnkdjaokmibjaaPgLaws
import Derived.Test.YtdnkdjaokmibjaaPgBytes
import Derived.Test.YtdnkdjaokmibjaaPgRead3
set_option linter.unusedSimpArgs false
set_option linter.unusedVariables false
namespace Go.Proofs.Ytdnkdjaokmibjaa
open Go.RowKit

set_option maxHeartbeats 8000000 in
set_option maxRecDepth 100000 in
theorem read_1 {b : List Int} {A : Option Addr} {c : Nat} {w : World} {B at_ : Nat} (hr : RdI w B .u8 A b) (hB : B ≤ w.heap.size) (hb : byteB b) (hc : b.length ≤ c) (hl : b.length ≤ 1000000000) (hat : at_ ≤ b.length) (hbad : (b.drop at_).length < 8 ∨ ¬ ((b.drop at_).getD 0 0 = 75 ∧ (b.drop at_).getD 1 0 = 80)) :
    Calls Try.prog 43 #[.slice A b.length c, .int .i64 (at_ : Int)] w fun e w' => ∃ A' c', e = .returned (.tuple #[(rdP (b.drop at_)).val A' c', .int .i64 (rdL (b.drop at_)), .int .i64 (rdE (b.drop at_))]) ∧ OwnI w' w.heap.size 5 .u8 (.slice A' (rdP (b.drop at_)).body.length c') (rdP (b.drop at_)).body ∧ Below w.heap.size w w' := by
  have HE := Lib.hid (rdE_eq (b.drop at_))
  have HP := Lib.hid (rdP_eq (b.drop at_))
  have HL := Lib.hid (rdL_eq (b.drop at_))
  have hbx : byteB (b.drop at_) := fun y hy => hb y (List.mem_of_mem_drop hy)
  have hxl : (b.drop at_).length = b.length - at_ := List.length_drop
  obtain ⟨Ax, hrun0, hrx, _⟩ := hr.slice_l Try.underlying31 info_u8 (lo := at_) hat hc
  rw [← hxl] at hrun0
  have hcx : (b.drop at_).length ≤ c - at_ := by omega
  have hat2 : (at_ : Int) ≤ (b.length : Int) := by omega
  have hxl2 : (b.drop at_).length ≤ 1000000000 := by omega
  generalize rdE (b.drop at_) = E at *
  generalize rdP (b.drop at_) = P at *
  generalize rdL (b.drop at_) = L at *
  generalize b.drop at_ = x at *
  generalize c - at_ = cx at *
  clear hr hb hxl
  by_cases h2 : x.length < 2
  · have HE2 : E = 3 := by rw [HE.out]; simp [h2]
    subst HE2
    have HP2 : P = Pg.zero := by rw [HP.out, if_neg (by omega)]
    subst HP2
    have HL2 : L = 0 := by rw [HL.out, if_neg (by omega)]
    subst HL2
    clear HE HP HL
    have t1 : decide ((x.length : Int) < 2) = true := by simp; omega
    clear hbad hbx
    go_enter Try.func43, Try.ntmps43
    go_wp2
    exact bodyPost_ret (v := .tuple #[Pg.zero.val none 0, .int .i64 0, .int .i64 3]) (by simp [results, Try.results43, go_sem, Pg.zero]) rfl ⟨none, 0, rfl, OwnI.nil_ _ _ _ _, (by repeat (first | exact Below.refl _ _ | assumption | refine Below.drew ?_ | refine below_drewN ?_ _ | refine below_alloc ?_ _))⟩
  · have t1 : decide ((x.length : Int) < 2) = false := by simp; omega
    obtain ⟨ad, rfl, hadB, x0⟩ := hrx.at_ (j := 0) (by omega)
    obtain ⟨ad', had, _, x1⟩ := hrx.at_ (j := 1) (by omega)
    obtain rfl : ad = ad' := by injection had
    have x0 : w.cell? ad = some (.int .u8 (x.getD 0 0)) := x0
    have hp0 : (0 : Int) < (x.length : Int) := by omega
    have hp1 : (1 : Int) < (x.length : Int) := by omega
    have hx1' : w.cell? ⟨ad.block, ad.off + 1, none⟩ = some (.int .u8 (x.getD 1 0)) := x1
    have hadw : ad.block < w.heap.size := by omega
    have hne0 : ad.block ≠ w.heap.size := by omega
    clear x1 had
    by_cases h75 : x.getD 0 0 = 75 ∧ x.getD 1 0 = 80
    · have h8 : x.length < 8 := hbad.resolve_right (fun h => h h75)
      have HE2 : E = 3 := by rw [HE.out]; rw [if_neg h2, if_neg (fun h => h h75), if_pos h8]
      subst HE2
      have HP2 : P = Pg.zero := by rw [HP.out, if_neg (by omega)]
      subst HP2
      have HL2 : L = 0 := by rw [HL.out, if_neg (by omega)]
      subst HL2
      clear HE HP HL
      rw [h75.1] at x0
      rw [h75.2] at hx1'
      have t2 : decide ((x.length : Int) < 8) = true := by simp; omega
      clear hbad hbx h75
      go_enter Try.func43, Try.ntmps43
      go_wp2
      exact bodyPost_ret (v := .tuple #[Pg.zero.val none 0, .int .i64 0, .int .i64 3]) (by simp [results, Try.results43, go_sem, Pg.zero]) rfl ⟨none, 0, rfl, OwnI.nil_ _ _ _ _, (by repeat (first | exact Below.refl _ _ | assumption | refine Below.drew ?_ | refine below_drewN ?_ _ | refine below_alloc ?_ _))⟩
    · have HE2 : E = 2 := by rw [HE.out]; rw [if_neg h2, if_pos h75]
      subst HE2
      have HP2 : P = Pg.zero := by rw [HP.out, if_neg (by omega)]
      subst HP2
      have HL2 : L = 0 := by rw [HL.out, if_neg (by omega)]
      subst HL2
      clear HE HP HL
      by_cases h0 : x.getD 0 0 = 75
      · have t2 : (x.getD 1 0 != 80) = true := by rw [bne_iff_ne]; exact fun h => h75 ⟨h0, h⟩
        rw [h0] at x0
        clear hbad hbx h75 h0
        generalize x.getD 1 0 = y1 at *
        go_enter Try.func43, Try.ntmps43
        go_wp2
        exact bodyPost_ret (v := .tuple #[Pg.zero.val none 0, .int .i64 0, .int .i64 2]) (by simp [results, Try.results43, go_sem, Pg.zero]) rfl ⟨none, 0, rfl, OwnI.nil_ _ _ _ _, (by repeat (first | exact Below.refl _ _ | assumption | refine Below.drew ?_ | refine below_drewN ?_ _ | refine below_alloc ?_ _))⟩
      · have t2 : (x.getD 0 0 != 75) = true := by rw [bne_iff_ne]; exact h0
        clear hbad hbx h75 h0
        generalize x.getD 0 0 = y0 at *
        generalize x.getD 1 0 = y1 at *
        go_enter Try.func43, Try.ntmps43
        go_wp2
        exact bodyPost_ret (v := .tuple #[Pg.zero.val none 0, .int .i64 0, .int .i64 2]) (by simp [results, Try.results43, go_sem, Pg.zero]) rfl ⟨none, 0, rfl, OwnI.nil_ _ _ _ _, (by repeat (first | exact Below.refl _ _ | assumption | refine Below.drew ?_ | refine below_drewN ?_ _ | refine below_alloc ?_ _))⟩
end Go.Proofs.Ytdnkdjaokmibjaa

namespace Go.Proofs.Ytdnkdjaokmibjaa
open Go.RowKit

set_option maxHeartbeats 8000000 in
set_option maxRecDepth 100000 in
theorem read_2 {b : List Int} {A : Option Addr} {c : Nat} {w : World} {B at_ : Nat} (hr : RdI w B .u8 A b) (hB : B ≤ w.heap.size) (hb : byteB b) (hc : b.length ≤ c) (hl : b.length ≤ 1000000000) (hat : at_ ≤ b.length) (h8 : ¬ (b.drop at_).length < 8) (h75 : (b.drop at_).getD 0 0 = 75 ∧ (b.drop at_).getD 1 0 = 80) (hok : rdOk (b.drop at_) = false) :
    Calls Try.prog 43 #[.slice A b.length c, .int .i64 (at_ : Int)] w fun e w' => ∃ A' c', e = .returned (.tuple #[(rdP (b.drop at_)).val A' c', .int .i64 (rdL (b.drop at_)), .int .i64 (rdE (b.drop at_))]) ∧ OwnI w' w.heap.size 5 .u8 (.slice A' (rdP (b.drop at_)).body.length c') (rdP (b.drop at_)).body ∧ Below w.heap.size w w' := by
  have HE := Lib.hid (rdE_eq (b.drop at_))
  have HP := Lib.hid (rdP_eq (b.drop at_))
  have HL := Lib.hid (rdL_eq (b.drop at_))
  have hbx : byteB (b.drop at_) := fun y hy => hb y (List.mem_of_mem_drop hy)
  have hxl : (b.drop at_).length = b.length - at_ := List.length_drop
  obtain ⟨Ax, hrun0, hrx, _⟩ := hr.slice_l Try.underlying31 info_u8 (lo := at_) hat hc
  rw [← hxl] at hrun0
  have hcx : (b.drop at_).length ≤ c - at_ := by omega
  have hat2 : (at_ : Int) ≤ (b.length : Int) := by omega
  have hxl2 : (b.drop at_).length ≤ 1000000000 := by omega
  generalize rdE (b.drop at_) = E at *
  generalize rdP (b.drop at_) = P at *
  generalize rdL (b.drop at_) = L at *
  generalize b.drop at_ = x at *
  generalize c - at_ = cx at *
  clear hr hb hxl
  have HE2 : E = 2 := by rw [HE.out]; rw [if_neg (by omega), if_neg (fun h => h h75), if_neg h8, if_pos hok]
  subst HE2
  have HP2 : P = Pg.zero := by rw [HP.out, if_neg (by omega)]
  subst HP2
  have HL2 : L = 0 := by rw [HL.out, if_neg (by omega)]
  subst HL2
  clear HE HP HL
  have hcase : ¬ (x.getD 2 0 ≤ 7 ∧ big ((x.drop 3).take 4) ≤ 2147483647 ∧ 1 ≤ x.getD 7 0 ∧ x.getD 7 0 ≤ mostB (x.getD 2 0 / 4 % 2 != 0)) := by simpa only [rdOk, decide_eq_false_iff_not] using hok
  obtain ⟨ad, rfl, hadB, x0⟩ := hrx.at_ (j := 0) (by omega)
  obtain ⟨ad', had, _, x1⟩ := hrx.at_ (j := 1) (by omega)
  obtain rfl : ad = ad' := by injection had
  have x0 : w.cell? ad = some (.int .u8 (x.getD 0 0)) := x0
  have hx1' : w.cell? ⟨ad.block, ad.off + 1, none⟩ = some (.int .u8 (x.getD 1 0)) := x1
  rw [h75.1] at x0
  rw [h75.2] at hx1'
  have hp0 : (0 : Int) < (x.length : Int) := by omega
  have hp1 : (1 : Int) < (x.length : Int) := by omega
  have hadw : ad.block < w.heap.size := by omega
  have hne0 : ad.block ≠ w.heap.size := by omega
  clear x1 had
  have t1 : decide ((x.length : Int) < 2) = false := by simp; omega
  have t2 : decide ((x.length : Int) < 8) = false := by simp; omega
  obtain ⟨f0, f1⟩ := hbx.getD 2
  obtain ⟨s0, s1⟩ := big4_bd hbx 3
  obtain ⟨n0, n1⟩ := hbx.getD 7
  obtain ⟨Ah, hrunh, hrh, _⟩ := hrx.slice_lh Try.underlying31 info_u8 (lo := 2) (hh := 8) (by omega) (by omega) hcx
  simp only [show ((2 : Nat) : Int) = 2 from rfl, show ((8 : Nat) : Int) = 8 from rfl, Nat.reduceSub] at hrunh hrh
  have hd6 : ((x.drop 2).take 6).length = 6 := by rw [List.length_take, List.length_drop]; omega
  have HN := Lib.hid (fun (W : World) (hW : Below w.heap.size w W) => new_n Ah (cx - 2) 6 ((x.drop 2).take 6) hd6 (hbx.part 2 6) (by omega) W B (hrh.below hW hB))
  have HR1 := Lib.hid (fun (W : World) (lo hi g : Nat) (h : Rdr W 126 lo hi g ⟨(x.drop 2).take 6, 0, 0⟩) => rbig_any h 1 (by omega) (by omega))
  have HR2 := Lib.hid (fun (W : World) (lo hi g : Nat) (h : Rdr W 126 lo hi g ⟨(x.drop 2).take 6, 1, 0⟩) => rbig_any h 4 (by omega) (by omega))
  have HR3 := Lib.hid (fun (W : World) (lo hi g : Nat) (h : Rdr W 126 lo hi g ⟨(x.drop 2).take 6, 5, 0⟩) => rbig_any h 1 (by omega) (by omega))
  rw [show min (Int.toNat 1) 8 = 1 from rfl, take_ok (by rw [hd6]; omega), big_one (by rw [hd6]; omega), getD_part (by omega) (by omega)] at HR1 HR3
  rw [show min (Int.toNat 4) 8 = 4 from rfl, take_ok (by rw [hd6]; omega), part_part (by omega)] at HR2
  simp only [Nat.zero_add, Nat.reduceAdd] at HR1 HR2 HR3
  have k4 := and_fl (x.getD 2 0) f0 f1
  have k1 := and7_1 (x.getD 2 0) f0 f1
  have k2 := and7_2 (x.getD 2 0) f0 f1
  have HM := Lib.hid (fun W => mostbody_any (x.getD 2 0 / 4 % 2 != 0) W)
  have hm := mostB_le (x.getD 2 0 / 4 % 2 != 0)
  generalize (x.drop 2).take 6 = d at *
  generalize x.getD 2 0 = f at *
  generalize big ((x.drop 3).take 4) = sq at *
  generalize x.getD 7 0 = n at *
  generalize (f / 4 % 2 != 0) = gd at *
  generalize (f % 2 != 0) = fi at *
  generalize (f / 2 % 2 != 0) = la at *
  generalize mostB gd = M at *
  have hc4 : 7 < f ∨ (f ≤ 7 ∧ 2147483647 < sq) ∨ (f ≤ 7 ∧ sq ≤ 2147483647 ∧ n < 1) ∨ (f ≤ 7 ∧ sq ≤ 2147483647 ∧ 1 ≤ n ∧ M < n) := by omega
  clear hok hcase h75 h8 hbx hrh hrx hd6
  rcases hc4 with h | h | h | h
  all_goals
    go_enter Try.func43, Try.ntmps43
    go_wp2_with fail
    have kb := Blk.new w 33 #[.int .i64 0, .bool false, .bool false, .bool false, .slice none 0 0]
    have hbw : Below w.heap.size w (w.alloc (.cells #[.int .i64 0, .bool false, .bool false, .bool false, .slice none 0 0] 33)) := below_alloc (Below.refl _ _) _
    generalize w.alloc (.cells #[.int .i64 0, .bool false, .bool false, .bool false, .slice none 0 0] 33) = wb at *
    have hgl := kb.lt
    go_wp2_with (first
      | (go_at_call 61; (with_reducible refine (HN.out _ hbw).mono ?_); rintro e w1 ⟨g, rfl, hg, hR1, hb1⟩)
      | (go_at_call 62; (with_reducible refine (HR1.out _ _ _ _ hR1).mono ?_); rintro e w2 ⟨rfl, hR2, hg2⟩; have hb2 := below_one hb1 hg2 hg)
      | (go_at_call 62; (with_reducible refine (HR2.out _ _ _ _ hR2).mono ?_); rintro e w3 ⟨rfl, hR3, hg3⟩; have hb3 := below_one hb2 hg3 hg)
      | (go_at_call 62; (with_reducible refine (HR3.out _ _ _ _ hR3).mono ?_); rintro e w4 ⟨rfl, hR4, hg4⟩; have hb4 := below_one hb3 hg4 hg; have kr := kb.below hb4 hgl; have z0 := kr.cell 0; have z1 := kr.cell 1; have z2 := kr.cell 2; have z3 := kr.cell 3; have z4 := kr.cell 4; have y0 := kr.frozen 0; have y1 := kr.frozen 1; have y2 := kr.frozen 2; have y3 := kr.frozen 3; have y4 := kr.frozen 4)
      | (go_at_call 47; (with_reducible refine (HM.out _).mono ?_); rintro e w5 ⟨rfl, rfl⟩))
    exact bodyPost_ret (v := .tuple #[Pg.zero.val none 0, .int .i64 0, .int .i64 2]) (by simp [results, Try.results43, go_sem, Pg.zero, z0, z1, z2, z3, z4]) rfl ⟨none, 0, rfl, OwnI.nil_ _ _ _ _, by have hz := below_then hbw hb4; repeat (first | with_reducible exact hz | refine below_put ?_ (Nat.le_refl _))⟩
end Go.Proofs.Ytdnkdjaokmibjaa

namespace Go.Proofs.Ytdnkdjaokmibjaa
open Go.RowKit

theorem read_any {b : List Int} {A : Option Addr} {c : Nat} {w : World} {B at_ : Nat} (hr : RdI w B .u8 A b) (hB : B ≤ w.heap.size) (hb : byteB b) (hc : b.length ≤ c) (hl : b.length ≤ 1000000000) (hat : at_ ≤ b.length) :
    Calls Try.prog 43 #[.slice A b.length c, .int .i64 (at_ : Int)] w fun e w' => ∃ A' c', e = .returned (.tuple #[(rdP (b.drop at_)).val A' c', .int .i64 (rdL (b.drop at_)), .int .i64 (rdE (b.drop at_))]) ∧
      OwnI w' w.heap.size 5 .u8 (.slice A' (rdP (b.drop at_)).body.length c') (rdP (b.drop at_)).body ∧ Below w.heap.size w w' := by
  by_cases h8 : (b.drop at_).length < 8
  · exact read_1 hr hB hb hc hl hat (.inl h8)
  · by_cases h75 : (b.drop at_).getD 0 0 = 75 ∧ (b.drop at_).getD 1 0 = 80
    · cases hok : rdOk (b.drop at_) with
      | true => exact read_3 hr hB hb hc hl hat h8 h75 hok
      | false => exact read_2 hr hB hb hc hl hat h8 h75 hok
    · exact read_1 hr hB hb hc hl hat (.inr h75)
end Go.Proofs.Ytdnkdjaokmibjaa
