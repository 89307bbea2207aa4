/- page.Read behind a header. -/
import Derived.Deep.RegionHeld3
import Derived.Test.YtdnkdjaokmibjaaPgLaws
import Derived.Test.YtdnkdjaokmibjaaPgBytes
set_option linter.unusedSimpArgs false
set_option linter.unusedVariables false
namespace Go.Proofs.Ytdnkdjaokmibjaa
open Go.RowKit

set_option maxHeartbeats 8000000 in
set_option maxRecDepth 100000 in
theorem read_3 {b : List Int} {A : Option Addr} {c : Nat} {w : World} {B at_ : Nat} (hr : RdI w B .u8 A b) (hB : B ≤ w.heap.size) (hb : byteB b) (hc : b.length ≤ c) (hl : b.length ≤ 1000000000) (hat : at_ ≤ b.length) (h8 : ¬ (b.drop at_).length < 8) (h75 : (b.drop at_).getD 0 0 = 75 ∧ (b.drop at_).getD 1 0 = 80) (hok : rdOk (b.drop at_) = true) :
    Calls Try.prog 43 #[.slice A b.length c, .int .i64 (at_ : Int)] w fun e w' => ∃ A' c', e = .returned (.tuple #[(rdP (b.drop at_)).val A' c', .int .i64 (rdL (b.drop at_)), .int .i64 (rdE (b.drop at_))]) ∧ OwnI w' w.heap.size 5 .u8 (.slice A' (rdP (b.drop at_)).body.length c') (rdP (b.drop at_)).body ∧ Below w.heap.size w w' := by
  have HE := Lib.hid (rdE_eq (b.drop at_))
  have HP := Lib.hid (rdP_eq (b.drop at_))
  have HL := Lib.hid (rdL_eq (b.drop at_))
  have hbx : byteB (b.drop at_) := fun y hy => hb y (List.mem_of_mem_drop hy)
  have hxl : (b.drop at_).length = b.length - at_ := List.length_drop
  obtain ⟨Ax, hrun0, hrx, _⟩ := hr.slice_l Try.underlying31 info_u8 (lo := at_) hat hc
  rw [← hxl] at hrun0
  have hcx : (b.drop at_).length ≤ c - at_ := by omega
  have hat2 : (at_ : Int) ≤ (b.length : Int) := by omega
  have hxl2 : (b.drop at_).length ≤ 1000000000 := by omega
  generalize rdE (b.drop at_) = E at *
  generalize rdP (b.drop at_) = P at *
  generalize rdL (b.drop at_) = L at *
  generalize b.drop at_ = x at *
  generalize c - at_ = cx at *
  clear hr hb hxl
  have hok2 : x.getD 2 0 ≤ 7 ∧ big ((x.drop 3).take 4) ≤ 2147483647 ∧ 1 ≤ x.getD 7 0 ∧ x.getD 7 0 ≤ mostB (x.getD 2 0 / 4 % 2 != 0) := by simpa only [rdOk, decide_eq_true_eq] using hok
  obtain ⟨ad, rfl, hadB, x0⟩ := hrx.at_ (j := 0) (by omega)
  obtain ⟨ad', had, _, x1⟩ := hrx.at_ (j := 1) (by omega)
  obtain rfl : ad = ad' := by injection had
  have x0 : w.cell? ad = some (.int .u8 (x.getD 0 0)) := x0
  have hx1' : w.cell? ⟨ad.block, ad.off + 1, none⟩ = some (.int .u8 (x.getD 1 0)) := x1
  rw [h75.1] at x0
  rw [h75.2] at hx1'
  have hp0 : (0 : Int) < (x.length : Int) := by omega
  have hp1 : (1 : Int) < (x.length : Int) := by omega
  have hadw : ad.block < w.heap.size := by omega
  have hne0 : ad.block ≠ w.heap.size := by omega
  clear x1 had
  have t1 : decide ((x.length : Int) < 2) = false := by simp; omega
  have t2 : decide ((x.length : Int) < 8) = false := by simp; omega
  obtain ⟨f0, f1⟩ := hbx.getD 2
  obtain ⟨s0, s1⟩ := big4_bd hbx 3
  obtain ⟨n0, n1⟩ := hbx.getD 7
  obtain ⟨Ah, hrunh, hrh, _⟩ := hrx.slice_lh Try.underlying31 info_u8 (lo := 2) (hh := 8) (by omega) (by omega) hcx
  simp only [show ((2 : Nat) : Int) = 2 from rfl, show ((8 : Nat) : Int) = 8 from rfl, Nat.reduceSub] at hrunh hrh
  have hd6 : ((x.drop 2).take 6).length = 6 := by rw [List.length_take, List.length_drop]; omega
  have HN := Lib.hid (fun (W : World) (hW : Below w.heap.size w W) => new_n Ah (cx - 2) 6 ((x.drop 2).take 6) hd6 (hbx.part 2 6) (by omega) W B (hrh.below hW hB))
  have HR1 := Lib.hid (fun (W : World) (lo hi g : Nat) (h : Rdr W 126 lo hi g ⟨(x.drop 2).take 6, 0, 0⟩) => rbig_any h 1 (by omega) (by omega))
  have HR2 := Lib.hid (fun (W : World) (lo hi g : Nat) (h : Rdr W 126 lo hi g ⟨(x.drop 2).take 6, 1, 0⟩) => rbig_any h 4 (by omega) (by omega))
  have HR3 := Lib.hid (fun (W : World) (lo hi g : Nat) (h : Rdr W 126 lo hi g ⟨(x.drop 2).take 6, 5, 0⟩) => rbig_any h 1 (by omega) (by omega))
  rw [show min (Int.toNat 1) 8 = 1 from rfl, take_ok (by rw [hd6]; omega), big_one (by rw [hd6]; omega), getD_part (by omega) (by omega)] at HR1 HR3
  rw [show min (Int.toNat 4) 8 = 4 from rfl, take_ok (by rw [hd6]; omega), part_part (by omega)] at HR2
  simp only [Nat.zero_add, Nat.reduceAdd] at HR1 HR2 HR3
  have k4 := and_fl (x.getD 2 0) f0 f1
  have k1 := and7_1 (x.getD 2 0) f0 f1
  have k2 := and7_2 (x.getD 2 0) f0 f1
  have HM := Lib.hid (fun W => mostbody_any (x.getD 2 0 / 4 % 2 != 0) W)
  have hm := mostB_le (x.getD 2 0 / 4 % 2 != 0)
  generalize (x.drop 2).take 6 = d at *
  have hE0 : E = if (x.length : Int) < x.getD 7 0 + 12 then 3 else if big ((x.drop ((x.getD 7 0).toNat + 8)).take 4) ≠ crc (x.take ((x.getD 7 0).toNat + 8)) then 5 else 0 := by
    rw [HE.out, if_neg (by omega), if_neg (fun h => h h75), if_neg h8, if_neg (by simp [hok])]
  have HE3 := Lib.hid hE0
  have hn2 := Int.toNat_of_nonneg n0
  generalize (x.getD 7 0).toNat = nn at *
  generalize x.getD 2 0 = f at *
  generalize big ((x.drop 3).take 4) = sq at *
  generalize x.getD 7 0 = n at *
  subst hn2
  generalize (f / 4 % 2 != 0) = gd at *
  generalize (f % 2 != 0) = fi at *
  generalize (f / 2 % 2 != 0) = la at *
  generalize mostB gd = M at *
  obtain ⟨o1, o2, o3, o4⟩ := hok2
  clear hok h75 h8 hrh hd6 HE hE0
  by_cases h12 : (x.length : Int) < (nn : Int) + 12
  · have HE2 : E = 3 := by rw [HE3.out, if_pos h12]
    subst HE2
    have HP2 : P = Pg.zero := by rw [HP.out, if_neg (by omega)]
    subst HP2
    have HL2 : L = 0 := by rw [HL.out, if_neg (by omega)]
    subst HL2
    clear HE3 HP HL hrx hbx
    have t3 : (x.length : Int) < 8 + (nn : Int) + 4 := by omega
    go_enter Try.func43, Try.ntmps43
    go_wp2_with fail
    have kb := Blk.new w 33 #[.int .i64 0, .bool false, .bool false, .bool false, .slice none 0 0]
    have hbw : Below w.heap.size w (w.alloc (.cells #[.int .i64 0, .bool false, .bool false, .bool false, .slice none 0 0] 33)) := below_alloc (Below.refl _ _) _
    generalize w.alloc (.cells #[.int .i64 0, .bool false, .bool false, .bool false, .slice none 0 0] 33) = wb at *
    have hgl := kb.lt
    go_wp2_with (first
      | (go_at_call 61; (with_reducible refine (HN.out _ hbw).mono ?_); rintro e w1 ⟨g, rfl, hg, hR1, hb1⟩)
      | (go_at_call 62; (with_reducible refine (HR1.out _ _ _ _ hR1).mono ?_); rintro e w2 ⟨rfl, hR2, hg2⟩; have hb2 := below_one hb1 hg2 hg)
      | (go_at_call 62; (with_reducible refine (HR2.out _ _ _ _ hR2).mono ?_); rintro e w3 ⟨rfl, hR3, hg3⟩; have hb3 := below_one hb2 hg3 hg)
      | (go_at_call 62; (with_reducible refine (HR3.out _ _ _ _ hR3).mono ?_); rintro e w4 ⟨rfl, hR4, hg4⟩; have hb4 := below_one hb3 hg4 hg; have kr := kb.below hb4 hgl; have z0 := kr.cell 0; have z1 := kr.cell 1; have z2 := kr.cell 2; have z3 := kr.cell 3; have z4 := kr.cell 4; have y0 := kr.frozen 0; have y1 := kr.frozen 1; have y2 := kr.frozen 2; have y3 := kr.frozen 3; have y4 := kr.frozen 4)
      | (go_at_call 47; (with_reducible refine (HM.out _).mono ?_); rintro e w5 ⟨rfl, rfl⟩))
    exact bodyPost_ret (v := .tuple #[Pg.zero.val none 0, .int .i64 0, .int .i64 3]) (by simp [results, Try.results43, go_sem, Pg.zero, z0, z1, z2, z3, z4]) rfl ⟨none, 0, rfl, OwnI.nil_ _ _ _ _, by have hz := below_then hbw hb4; repeat (first | with_reducible exact hz | refine below_put ?_ (Nat.le_refl _))⟩
  · have t3 : ¬ (x.length : Int) < 8 + (nn : Int) + 4 := by omega
    have hnx : nn + 12 ≤ x.length := by omega
    have hE1 : E = if big ((x.drop (nn + 8)).take 4) ≠ crc (x.take (nn + 8)) then 5 else 0 := by rw [HE3.out, if_neg h12]
    obtain ⟨As, hruns, hrs, _⟩ := hrx.slice_lh Try.underlying31 info_u8 (lo := nn + 8) (hh := nn + 12) (by omega) (by omega) hcx
    obtain ⟨Ac, hrunc, hrc, _⟩ := hrx.slice_h Try.underlying31 info_u8 (hh := nn + 8) (by omega) hcx
    obtain ⟨Ab, hrunb, hrb, _⟩ := hrx.slice_lh Try.underlying31 info_u8 (lo := 8) (hh := nn + 8) (by omega) (by omega) hcx
    simp only [show ((nn + 8 : Nat) : Int) = 8 + (nn : Int) by omega, show ((nn + 12 : Nat) : Int) = 8 + (nn : Int) + 4 by omega, show ((8 : Nat) : Int) = 8 from rfl, show nn + 12 - (nn + 8) = 4 by omega, show nn + 8 - 8 = nn by omega] at hruns hrunc hrunb hrs hrc hrb
    have hd4 : ((x.drop (nn + 8)).take 4).length = 4 := by rw [List.length_take, List.length_drop]; omega
    have hdc : (x.take (nn + 8)).length = nn + 8 := by rw [List.length_take]; omega
    have hdb : ((x.drop 8).take nn).length = nn := by rw [List.length_take, List.length_drop]; omega
    have HN4 := Lib.hid (fun (W : World) (hW : Below w.heap.size w W) => new_n As (cx - (nn + 8)) 4 ((x.drop (nn + 8)).take 4) hd4 (hbx.part _ 4) (by omega) W B (hrs.below hW hB))
    have HR4 := Lib.hid (fun (W : World) (lo hi g : Nat) (h : Rdr W 126 lo hi g ⟨(x.drop (nn + 8)).take 4, 0, 0⟩) => rbig_any h 4 (by omega) (by omega))
    rw [show min (Int.toNat 4) 8 = 4 from rfl, take_ok (by rw [hd4]; omega)] at HR4
    simp only [List.drop_zero, List.take_take, Nat.min_self] at HR4
    have HC := Lib.hid (fun (W : World) (hW : Below w.heap.size w W) => thirtytwo_any (c := cx) (fun y hy => hbx y (List.mem_of_mem_take hy)) (hrc.below hW hB) (by omega))
    rw [hdc] at HC
    have HCl := Lib.hid (fun (W : World) (hW : Below w.heap.size w W) => clone_any Ab (cx - 8) ((x.drop 8).take nn) (by omega) W B (hrb.below hW hB) (Nat.le_trans hB hW.size))
    rw [hdb] at HCl
    obtain ⟨b0, b1⟩ := big4_bd hbx (nn + 8)
    obtain ⟨c0, c1⟩ := crc_bd (x.take (nn + 8))
    have hbdy := Lib.hid hdb
    generalize (x.drop 8).take nn = bd at *
    generalize crc (x.take (nn + 8)) = C at *
    generalize big ((x.drop (nn + 8)).take 4) = G at *
    generalize (x.drop (nn + 8)).take 4 = d4 at *
    have wC : IntKind.u64.wrap C = C := by rw [IntKind.wrap_u64]; omega
    have w8 : IntKind.i64.wrap (8 + (nn : Int) + 4) = 8 + (nn : Int) + 4 := IntWalk.i64_in _ (by omega)
    clear hrs hrc hrb hrx hbx hd4 hdc hdb HE3 h12
    have HE1 := Lib.hid hE1
    clear hE1
    by_cases hGC : G = C
    · have HE2 : E = 0 := by rw [HE1.out, if_neg (by simp [hGC])]
      subst HE2
      have HP2 : P = ⟨sq, fi, la, gd, bd⟩ := by rw [HP.out, if_pos rfl]
      subst HP2
      have HL2 : L = (nn : Int) + 12 := by rw [HL.out, if_pos rfl]
      subst HL2
      have t5 : (G != C) = false := by simp [hGC]
      have hbd2 : bd.length = nn := hbdy.out
      have hbd3 := hbdy
      clear HE1 HP HL hGC hbd2
      go_enter Try.func43, Try.ntmps43
      go_wp2_with fail
      have kb := Blk.new w 33 #[.int .i64 0, .bool false, .bool false, .bool false, .slice none 0 0]
      have hbw : Below w.heap.size w (w.alloc (.cells #[.int .i64 0, .bool false, .bool false, .bool false, .slice none 0 0] 33)) := below_alloc (Below.refl _ _) _
      generalize w.alloc (.cells #[.int .i64 0, .bool false, .bool false, .bool false, .slice none 0 0] 33) = wb at *
      have hgl := kb.lt
      go_wp2_with (first
        | (go_at_call 61; (with_reducible refine (HN.out _ hbw).mono ?_); rintro e w1 ⟨g, rfl, hg, hR1, hb1⟩)
        | (go_at_call 62; (with_reducible refine (HR1.out _ _ _ _ hR1).mono ?_); rintro e w2 ⟨rfl, hR2, hg2⟩; have hb2 := below_one hb1 hg2 hg)
        | (go_at_call 62; (with_reducible refine (HR2.out _ _ _ _ hR2).mono ?_); rintro e w3 ⟨rfl, hR3, hg3⟩; have hb3 := below_one hb2 hg3 hg)
        | (go_at_call 62; (with_reducible refine (HR3.out _ _ _ _ hR3).mono ?_); rintro e w4 ⟨rfl, hR4, hg4⟩; have hb4 := below_one hb3 hg4 hg; have kr := kb.below hb4 hgl; have z0 := kr.cell 0; have z1 := kr.cell 1; have z2 := kr.cell 2; have z3 := kr.cell 3; have z4 := kr.cell 4; have y0 := kr.frozen 0; have y1 := kr.frozen 1; have y2 := kr.frozen 2; have y3 := kr.frozen 3; have y4 := kr.frozen 4)
        | (go_at_call 47; (with_reducible refine (HM.out _).mono ?_); rintro e w5 ⟨rfl, rfl⟩))
      refine wp_region_held_drew (S := (fun _ => True)) (by kernel_rfl) ?_ (fun hHeld => ?_)
      focus trivial
      refine wpAnyH_take (i := 0) (v := ?_) rfl (by kernel_rfl) (by kernel_rfl) (by kernel_rfl) (fun _ _ _ h => h) (Or.inl ⟨by kernel_rfl, ?_⟩) (by assumption) ?_
      rotate_left
      focus
        intro w9 hSw
        (try dsimp only at hSw)
        go_simp
        (try with_reducible rfl)
      (try simp only [Act.put, List.getElem_toArray, List.getElem_cons_succ, List.getElem_cons_zero, List.setIfInBounds_toArray, List.set_cons_zero, List.set_cons_succ])
      refine wpAnyH_take (i := 1) (v := ?_) rfl (by kernel_rfl) (by kernel_rfl) (by kernel_rfl) (fun _ _ _ h => h) (Or.inl ⟨by kernel_rfl, ?_⟩) (by assumption) ?_
      rotate_left
      focus
        intro w9 hSw
        (try dsimp only at hSw)
        go_simp
        (try with_reducible rfl)
      (try simp only [Act.put, List.getElem_toArray, List.getElem_cons_succ, List.getElem_cons_zero, List.setIfInBounds_toArray, List.set_cons_zero, List.set_cons_succ])
      refine wpAnyH_take (i := 2) (v := ?_) rfl (by kernel_rfl) (by kernel_rfl) (by kernel_rfl) (fun _ _ _ h => h) (Or.inl ⟨by kernel_rfl, ?_⟩) (by assumption) ?_
      rotate_left
      focus
        intro w9 hSw
        (try dsimp only at hSw)
        go_simp
        (try with_reducible rfl)
      (try simp only [Act.put, List.getElem_toArray, List.getElem_cons_succ, List.getElem_cons_zero, List.setIfInBounds_toArray, List.set_cons_zero, List.set_cons_succ])
      refine wpAnyH_take (i := 3) (v := ?_) rfl (by kernel_rfl) (by kernel_rfl) (by kernel_rfl) (fun _ _ _ h => h) (Or.inl ⟨by kernel_rfl, ?_⟩) (by assumption) ?_
      rotate_left
      focus
        intro w9 hSw
        (try dsimp only at hSw)
        go_simp
        (try with_reducible rfl)
      (try simp only [Act.put, List.getElem_toArray, List.getElem_cons_succ, List.getElem_cons_zero, List.setIfInBounds_toArray, List.set_cons_zero, List.set_cons_succ])
      refine wpAnyH_take (i := 4) (v := ?_) rfl (by kernel_rfl) (by kernel_rfl) (by kernel_rfl) (fun _ _ _ h => h) (Or.inl ⟨by kernel_rfl, ?_⟩) (by assumption) ?_
      rotate_left
      focus
        intro w9 hSw
        (try dsimp only at hSw)
        go_simp
        (try with_reducible rfl)
      (try simp only [Act.put, List.getElem_toArray, List.getElem_cons_succ, List.getElem_cons_zero, List.setIfInBounds_toArray, List.set_cons_zero, List.set_cons_succ])
      refine wpAnyH_take (i := 7) (v := ?_) rfl (by kernel_rfl) (by kernel_rfl) (by kernel_rfl) (fun _ _ _ h => h) (Or.inl ⟨by kernel_rfl, ?_⟩) (by assumption) ?_
      rotate_left
      focus
        intro w9 hSw
        (try dsimp only at hSw)
        go_simp
        (try with_reducible rfl)
      (try simp only [Act.put, List.getElem_toArray, List.getElem_cons_succ, List.getElem_cons_zero, List.setIfInBounds_toArray, List.set_cons_zero, List.set_cons_succ])
      refine wpAnyH_take (i := 8) (v := ?_) rfl (by kernel_rfl) (by kernel_rfl) (by kernel_rfl) (fun _ _ _ h => h) (Or.inl ⟨by kernel_rfl, ?_⟩) (by assumption) ?_
      rotate_left
      focus
        intro w9 hSw
        (try dsimp only at hSw)
        go_simp
        (try with_reducible rfl)
      (try simp only [Act.put, List.getElem_toArray, List.getElem_cons_succ, List.getElem_cons_zero, List.setIfInBounds_toArray, List.set_cons_zero, List.set_cons_succ])
      refine wpAnyH_take (i := 9) (v := ?_) rfl (by kernel_rfl) (by kernel_rfl) (by kernel_rfl) (fun _ _ _ h => h) (Or.inl ⟨by kernel_rfl, ?_⟩) (by assumption) ?_
      rotate_left
      focus
        intro w9 hSw
        (try dsimp only at hSw)
        go_simp
        (try with_reducible rfl)
      (try simp only [Act.put, List.getElem_toArray, List.getElem_cons_succ, List.getElem_cons_zero, List.setIfInBounds_toArray, List.set_cons_zero, List.set_cons_succ])
      refine wpAnyH_ready (rs := [5]) (by kernel_rfl) (by simp) (AllReadyH.cons rfl (fun K hK => ?_) AllReadyH.nil)
      go_simp
      go_at_call 61
      refine (HN4.out _ (by have hz := below_then hbw hb4; exact hz.drew)).mono ?_
      rintro e w5 ⟨g4, rfl, hg4, hQ1, hb5'⟩
      have hb5 := below_then hb4 (below_undr hb5')
      clear hb5'
      refine hK.out _ _ ?_ (fun hHeld => ?_)
      focus exact trivial
      clear hK K
      (try simp only [Act.put, List.getElem_toArray, List.getElem_cons_succ, List.getElem_cons_zero, List.setIfInBounds_toArray, List.set_cons_zero, List.set_cons_succ])
      refine wpAnyH_ready (rs := [6]) (by kernel_rfl) (by simp) (AllReadyH.cons rfl (fun K hK => ?_) AllReadyH.nil)
      go_simp
      go_at_call 62
      refine (HR4.out _ _ _ _ hQ1).mono ?_
      rintro e w6 ⟨rfl, hQ2, hg6⟩
      have hb6 := below_one hb5 hg6 (by have := hb4.size; simp at hg4; omega)
      refine hK.out _ _ ?_ (fun hHeld => ?_)
      focus exact trivial
      clear hK K
      (try simp only [Act.put, List.getElem_toArray, List.getElem_cons_succ, List.getElem_cons_zero, List.setIfInBounds_toArray, List.set_cons_zero, List.set_cons_succ])
      refine wpAnyH_ready (rs := [10]) (by kernel_rfl) (by simp) (AllReadyH.cons rfl (fun K hK => ?_) AllReadyH.nil)
      go_simp
      go_at_call 50
      refine (HC.out _ (below_then hbw hb6)).mono ?_
      rintro e w7 ⟨rfl, rfl⟩
      refine hK.out _ _ ?_ (fun hHeld => ?_)
      focus exact trivial
      clear hK K
      (try simp only [Act.put, List.getElem_toArray, List.getElem_cons_succ, List.getElem_cons_zero, List.setIfInBounds_toArray, List.set_cons_zero, List.set_cons_succ])
      refine wpAnyH_take (i := 11) (v := ?_) rfl (by kernel_rfl) (by kernel_rfl) (by kernel_rfl) (fun _ _ _ h => h) (Or.inl ⟨by kernel_rfl, ?_⟩) (by assumption) ?_
      rotate_left
      focus
        intro w9 hSw
        (try dsimp only at hSw)
        go_simp
        (try with_reducible rfl)
      (try simp only [Act.put, List.getElem_toArray, List.getElem_cons_succ, List.getElem_cons_zero, List.setIfInBounds_toArray, List.set_cons_zero, List.set_cons_succ])
      refine wpAnyH_take (i := 12) (v := ?_) rfl (by kernel_rfl) (by kernel_rfl) (by kernel_rfl) (fun _ _ _ h => h) (Or.inl ⟨by kernel_rfl, ?_⟩) (by assumption) ?_
      rotate_left
      focus
        intro w9 hSw
        (try dsimp only at hSw)
        go_simp
        (try with_reducible rfl)
      (try simp only [Act.put, List.getElem_toArray, List.getElem_cons_succ, List.getElem_cons_zero, List.setIfInBounds_toArray, List.set_cons_zero, List.set_cons_succ])
      refine wpAnyH_done (by kernel_rfl) ?_ _
      (try simp only [Act.put, List.getElem_toArray, List.getElem_cons_succ, List.getElem_cons_zero, List.setIfInBounds_toArray, List.set_cons_zero, List.set_cons_succ])
      clear z0 z1 z2 z3 z4 y0 y1 y2 y3 y4
      have kr := kb.below hb6 hgl
      have z0 := kr.cell 0
      have z1 := kr.cell 1
      have z2 := kr.cell 2
      have z3 := kr.cell 3
      have z4 := kr.cell 4
      have y0 := kr.frozen 0
      have y1 := kr.frozen 1
      have y2 := kr.frozen 2
      have y3 := kr.frozen 3
      have y4 := kr.frozen 4
      go_wp2_with (first
        | (go_at_call 46; (with_reducible refine (HCl.out _ (below_then hbw hb6)).mono ?_); rintro e w8 ⟨v8, rfl, hown8, hb8⟩; have bb8 := below_then hb6 hb8; have kr8 := kb.below bb8 hgl; obtain ⟨A8, c8, rfl, hc8, hr8, _⟩ := hown8.form; have u0 := kr8.cell 0; have u1 := kr8.cell 1; have u2 := kr8.cell 2; have u3 := kr8.cell 3; have u4 := kr8.cell 4; have x0 := kr8.frozen 0; have x1 := kr8.frozen 1; have x2 := kr8.frozen 2; have x3 := kr8.frozen 3; have x4 := kr8.frozen 4; clear z0 z1 z2 z3 z4 y0 y1 y2 y3 y4))
      exact bodyPost_ret (v := .tuple #[Pg.val ⟨sq, fi, la, gd, bd⟩ A8 c8, .int .i64 ((nn : Int) + 12), .int .i64 0]) (by simp only [show (nn : Int) + 12 = 8 + (nn : Int) + 4 by omega]; simp [results, Try.results43, go_sem, u0, u1, u2, u3, u4, hbd3.out]) rfl ⟨A8, c8, rfl, OwnI.base_ (base := w6.heap.size) (by have hlt : w.heap.size < w6.heap.size := (by have := hb6.size; omega); repeat (first | with_reducible exact hown8 | refine own_put ?_ hlt)) (by have := hb6.size; omega), by have hz := below_then hbw bb8; repeat (first | with_reducible exact hz | refine below_put ?_ (Nat.le_refl _))⟩
    · have HE2 : E = 5 := by rw [HE1.out, if_pos hGC]
      subst HE2
      have HP2 : P = Pg.zero := by rw [HP.out, if_neg (by omega)]
      subst HP2
      have HL2 : L = 0 := by rw [HL.out, if_neg (by omega)]
      subst HL2
      have t5 : (G != C) = true := by rw [bne_iff_ne]; exact hGC
      clear HE1 HP HL hGC
      go_enter Try.func43, Try.ntmps43
      go_wp2_with fail
      have kb := Blk.new w 33 #[.int .i64 0, .bool false, .bool false, .bool false, .slice none 0 0]
      have hbw : Below w.heap.size w (w.alloc (.cells #[.int .i64 0, .bool false, .bool false, .bool false, .slice none 0 0] 33)) := below_alloc (Below.refl _ _) _
      generalize w.alloc (.cells #[.int .i64 0, .bool false, .bool false, .bool false, .slice none 0 0] 33) = wb at *
      have hgl := kb.lt
      go_wp2_with (first
        | (go_at_call 61; (with_reducible refine (HN.out _ hbw).mono ?_); rintro e w1 ⟨g, rfl, hg, hR1, hb1⟩)
        | (go_at_call 62; (with_reducible refine (HR1.out _ _ _ _ hR1).mono ?_); rintro e w2 ⟨rfl, hR2, hg2⟩; have hb2 := below_one hb1 hg2 hg)
        | (go_at_call 62; (with_reducible refine (HR2.out _ _ _ _ hR2).mono ?_); rintro e w3 ⟨rfl, hR3, hg3⟩; have hb3 := below_one hb2 hg3 hg)
        | (go_at_call 62; (with_reducible refine (HR3.out _ _ _ _ hR3).mono ?_); rintro e w4 ⟨rfl, hR4, hg4⟩; have hb4 := below_one hb3 hg4 hg; have kr := kb.below hb4 hgl; have z0 := kr.cell 0; have z1 := kr.cell 1; have z2 := kr.cell 2; have z3 := kr.cell 3; have z4 := kr.cell 4; have y0 := kr.frozen 0; have y1 := kr.frozen 1; have y2 := kr.frozen 2; have y3 := kr.frozen 3; have y4 := kr.frozen 4)
        | (go_at_call 47; (with_reducible refine (HM.out _).mono ?_); rintro e w5 ⟨rfl, rfl⟩))
      refine wp_region_held_drew (S := (fun _ => True)) (by kernel_rfl) ?_ (fun hHeld => ?_)
      focus trivial
      refine wpAnyH_take (i := 0) (v := ?_) rfl (by kernel_rfl) (by kernel_rfl) (by kernel_rfl) (fun _ _ _ h => h) (Or.inl ⟨by kernel_rfl, ?_⟩) (by assumption) ?_
      rotate_left
      focus
        intro w9 hSw
        (try dsimp only at hSw)
        go_simp
        (try with_reducible rfl)
      (try simp only [Act.put, List.getElem_toArray, List.getElem_cons_succ, List.getElem_cons_zero, List.setIfInBounds_toArray, List.set_cons_zero, List.set_cons_succ])
      refine wpAnyH_take (i := 1) (v := ?_) rfl (by kernel_rfl) (by kernel_rfl) (by kernel_rfl) (fun _ _ _ h => h) (Or.inl ⟨by kernel_rfl, ?_⟩) (by assumption) ?_
      rotate_left
      focus
        intro w9 hSw
        (try dsimp only at hSw)
        go_simp
        (try with_reducible rfl)
      (try simp only [Act.put, List.getElem_toArray, List.getElem_cons_succ, List.getElem_cons_zero, List.setIfInBounds_toArray, List.set_cons_zero, List.set_cons_succ])
      refine wpAnyH_take (i := 2) (v := ?_) rfl (by kernel_rfl) (by kernel_rfl) (by kernel_rfl) (fun _ _ _ h => h) (Or.inl ⟨by kernel_rfl, ?_⟩) (by assumption) ?_
      rotate_left
      focus
        intro w9 hSw
        (try dsimp only at hSw)
        go_simp
        (try with_reducible rfl)
      (try simp only [Act.put, List.getElem_toArray, List.getElem_cons_succ, List.getElem_cons_zero, List.setIfInBounds_toArray, List.set_cons_zero, List.set_cons_succ])
      refine wpAnyH_take (i := 3) (v := ?_) rfl (by kernel_rfl) (by kernel_rfl) (by kernel_rfl) (fun _ _ _ h => h) (Or.inl ⟨by kernel_rfl, ?_⟩) (by assumption) ?_
      rotate_left
      focus
        intro w9 hSw
        (try dsimp only at hSw)
        go_simp
        (try with_reducible rfl)
      (try simp only [Act.put, List.getElem_toArray, List.getElem_cons_succ, List.getElem_cons_zero, List.setIfInBounds_toArray, List.set_cons_zero, List.set_cons_succ])
      refine wpAnyH_take (i := 4) (v := ?_) rfl (by kernel_rfl) (by kernel_rfl) (by kernel_rfl) (fun _ _ _ h => h) (Or.inl ⟨by kernel_rfl, ?_⟩) (by assumption) ?_
      rotate_left
      focus
        intro w9 hSw
        (try dsimp only at hSw)
        go_simp
        (try with_reducible rfl)
      (try simp only [Act.put, List.getElem_toArray, List.getElem_cons_succ, List.getElem_cons_zero, List.setIfInBounds_toArray, List.set_cons_zero, List.set_cons_succ])
      refine wpAnyH_take (i := 7) (v := ?_) rfl (by kernel_rfl) (by kernel_rfl) (by kernel_rfl) (fun _ _ _ h => h) (Or.inl ⟨by kernel_rfl, ?_⟩) (by assumption) ?_
      rotate_left
      focus
        intro w9 hSw
        (try dsimp only at hSw)
        go_simp
        (try with_reducible rfl)
      (try simp only [Act.put, List.getElem_toArray, List.getElem_cons_succ, List.getElem_cons_zero, List.setIfInBounds_toArray, List.set_cons_zero, List.set_cons_succ])
      refine wpAnyH_take (i := 8) (v := ?_) rfl (by kernel_rfl) (by kernel_rfl) (by kernel_rfl) (fun _ _ _ h => h) (Or.inl ⟨by kernel_rfl, ?_⟩) (by assumption) ?_
      rotate_left
      focus
        intro w9 hSw
        (try dsimp only at hSw)
        go_simp
        (try with_reducible rfl)
      (try simp only [Act.put, List.getElem_toArray, List.getElem_cons_succ, List.getElem_cons_zero, List.setIfInBounds_toArray, List.set_cons_zero, List.set_cons_succ])
      refine wpAnyH_take (i := 9) (v := ?_) rfl (by kernel_rfl) (by kernel_rfl) (by kernel_rfl) (fun _ _ _ h => h) (Or.inl ⟨by kernel_rfl, ?_⟩) (by assumption) ?_
      rotate_left
      focus
        intro w9 hSw
        (try dsimp only at hSw)
        go_simp
        (try with_reducible rfl)
      (try simp only [Act.put, List.getElem_toArray, List.getElem_cons_succ, List.getElem_cons_zero, List.setIfInBounds_toArray, List.set_cons_zero, List.set_cons_succ])
      refine wpAnyH_ready (rs := [5]) (by kernel_rfl) (by simp) (AllReadyH.cons rfl (fun K hK => ?_) AllReadyH.nil)
      go_simp
      go_at_call 61
      refine (HN4.out _ (by have hz := below_then hbw hb4; exact hz.drew)).mono ?_
      rintro e w5 ⟨g4, rfl, hg4, hQ1, hb5'⟩
      have hb5 := below_then hb4 (below_undr hb5')
      clear hb5'
      refine hK.out _ _ ?_ (fun hHeld => ?_)
      focus exact trivial
      clear hK K
      (try simp only [Act.put, List.getElem_toArray, List.getElem_cons_succ, List.getElem_cons_zero, List.setIfInBounds_toArray, List.set_cons_zero, List.set_cons_succ])
      refine wpAnyH_ready (rs := [6]) (by kernel_rfl) (by simp) (AllReadyH.cons rfl (fun K hK => ?_) AllReadyH.nil)
      go_simp
      go_at_call 62
      refine (HR4.out _ _ _ _ hQ1).mono ?_
      rintro e w6 ⟨rfl, hQ2, hg6⟩
      have hb6 := below_one hb5 hg6 (by have := hb4.size; simp at hg4; omega)
      refine hK.out _ _ ?_ (fun hHeld => ?_)
      focus exact trivial
      clear hK K
      (try simp only [Act.put, List.getElem_toArray, List.getElem_cons_succ, List.getElem_cons_zero, List.setIfInBounds_toArray, List.set_cons_zero, List.set_cons_succ])
      refine wpAnyH_ready (rs := [10]) (by kernel_rfl) (by simp) (AllReadyH.cons rfl (fun K hK => ?_) AllReadyH.nil)
      go_simp
      go_at_call 50
      refine (HC.out _ (below_then hbw hb6)).mono ?_
      rintro e w7 ⟨rfl, rfl⟩
      refine hK.out _ _ ?_ (fun hHeld => ?_)
      focus exact trivial
      clear hK K
      (try simp only [Act.put, List.getElem_toArray, List.getElem_cons_succ, List.getElem_cons_zero, List.setIfInBounds_toArray, List.set_cons_zero, List.set_cons_succ])
      refine wpAnyH_take (i := 11) (v := ?_) rfl (by kernel_rfl) (by kernel_rfl) (by kernel_rfl) (fun _ _ _ h => h) (Or.inl ⟨by kernel_rfl, ?_⟩) (by assumption) ?_
      rotate_left
      focus
        intro w9 hSw
        (try dsimp only at hSw)
        go_simp
        (try with_reducible rfl)
      (try simp only [Act.put, List.getElem_toArray, List.getElem_cons_succ, List.getElem_cons_zero, List.setIfInBounds_toArray, List.set_cons_zero, List.set_cons_succ])
      refine wpAnyH_take (i := 12) (v := ?_) rfl (by kernel_rfl) (by kernel_rfl) (by kernel_rfl) (fun _ _ _ h => h) (Or.inl ⟨by kernel_rfl, ?_⟩) (by assumption) ?_
      rotate_left
      focus
        intro w9 hSw
        (try dsimp only at hSw)
        go_simp
        (try with_reducible rfl)
      (try simp only [Act.put, List.getElem_toArray, List.getElem_cons_succ, List.getElem_cons_zero, List.setIfInBounds_toArray, List.set_cons_zero, List.set_cons_succ])
      refine wpAnyH_done (by kernel_rfl) ?_ _
      (try simp only [Act.put, List.getElem_toArray, List.getElem_cons_succ, List.getElem_cons_zero, List.setIfInBounds_toArray, List.set_cons_zero, List.set_cons_succ])
      clear z0 z1 z2 z3 z4 y0 y1 y2 y3 y4
      have kr := kb.below hb6 hgl
      have z0 := kr.cell 0
      have z1 := kr.cell 1
      have z2 := kr.cell 2
      have z3 := kr.cell 3
      have z4 := kr.cell 4
      have y0 := kr.frozen 0
      have y1 := kr.frozen 1
      have y2 := kr.frozen 2
      have y3 := kr.frozen 3
      have y4 := kr.frozen 4
      go_wp2
      exact bodyPost_ret (v := .tuple #[Pg.zero.val none 0, .int .i64 0, .int .i64 5]) (by simp [results, Try.results43, go_sem, Pg.zero, z0, z1, z2, z3, z4]) rfl ⟨none, 0, rfl, OwnI.nil_ _ _ _ _, by have hz := below_then hbw hb6; repeat (first | with_reducible exact hz | refine below_put ?_ (Nat.le_refl _))⟩
end Go.Proofs.Ytdnkdjaokmibjaa
