/- The reference's PageRead behind a header. -/
import Derived.Deep.RegionHeld3
import Derived.BigQuiet
import Derived.Deep.QuietTactic
import Derived.Test.YtdnkdjaokmibjaaPgLaws
import Derived.Test.YtdnkdjaokmibjaaPgBytes
import Derived.Test.YtdnkdjaokmibjaaRBig35
import Derived.Test.YtdnkdjaokmibjaaRPgBytes
import Derived.Test.YtdnkdjaokmibjaaSums
import Derived.Test.YtdnkdjaokmibjaaPicLast
set_option linter.unusedSimpArgs false
set_option linter.unusedVariables false
namespace Go.Proofs.Ytdnkdjaokmibjaa
open Go.RowKit

theorem and8_1 (f : Int) (h0 : 0 ≤ f) (h1 : f ≤ 255) : (bits .and .u8 f 1 == 1) = (f % 2 != 0) := by
  obtain ⟨n, rfl⟩ := Int.eq_ofNat_of_zero_le h0
  have hn : n < 256 := by omega
  have key : ∀ k : Fin 256, (bits .and .u8 (k.val : Int) 1 == 1) = ((k.val : Int) % 2 != 0) := by decide +kernel
  exact key ⟨n, hn⟩
theorem and8_2 (f : Int) (h0 : 0 ≤ f) (h1 : f ≤ 255) : (bits .and .u8 f 2 == 2) = (f / 2 % 2 != 0) := by
  obtain ⟨n, rfl⟩ := Int.eq_ofNat_of_zero_le h0
  have hn : n < 256 := by omega
  have key : ∀ k : Fin 256, (bits .and .u8 (k.val : Int) 2 == 2) = ((k.val : Int) / 2 % 2 != 0) := by decide +kernel
  exact key ⟨n, hn⟩
theorem and8_4 (f : Int) (h0 : 0 ≤ f) (h1 : f ≤ 255) : (bits .and .u8 f 4 == 4) = (f / 4 % 2 != 0) := by
  obtain ⟨n, rfl⟩ := Int.eq_ofNat_of_zero_le h0
  have hn : n < 256 := by omega
  have key : ∀ k : Fin 256, (bits .and .u8 (k.val : Int) 4 == 4) = ((k.val : Int) / 4 % 2 != 0) := by decide +kernel
  exact key ⟨n, hn⟩

set_option maxHeartbeats 8000000 in
set_option maxRecDepth 100000 in
theorem rread_2 {b : List Int} {A : Option Addr} {c : Nat} {w : World} {B at_ : Nat} (hr : RdI w B .u8 A b) (hB : B ≤ w.heap.size) (hb : byteB b) (hc : b.length ≤ c) (hl : b.length ≤ 1000000000) (hat : at_ ≤ b.length) (h8 : ¬ (b.drop at_).length < 8) (h75 : (b.drop at_).getD 0 0 = 75 ∧ (b.drop at_).getD 1 0 = 80) :
    Calls Try.prog 60 #[.slice A b.length c, .int .i64 (at_ : Int)] w fun e w' => ∃ A' c', e = .returned (.tuple #[(rdP (b.drop at_)).val A' c', .int .i64 (rdL (b.drop at_)), .int .i64 (rdE (b.drop at_))]) ∧ OwnI w' w.heap.size 5 .u8 (.slice A' (rdP (b.drop at_)).body.length c') (rdP (b.drop at_)).body ∧ Below w.heap.size w w' := by
  have HE := Lib.hid (rdE_eq (b.drop at_))
  have HP := Lib.hid (rdP_eq (b.drop at_))
  have HL := Lib.hid (rdL_eq (b.drop at_))
  have hbx : byteB (b.drop at_) := fun y hy => hb y (List.mem_of_mem_drop hy)
  have hxl : (b.drop at_).length = b.length - at_ := List.length_drop
  obtain ⟨Ax, hrun0, hrx, _⟩ := hr.slice_l Try.underlying31 info_u8 (lo := at_) hat hc
  rw [← hxl] at hrun0
  have hcx : (b.drop at_).length ≤ c - at_ := by omega
  have hat2 : (at_ : Int) ≤ (b.length : Int) := by omega
  have hat3 : decide ((b.length : Int) < (at_ : Int)) = false := decide_eq_false (by omega)
  have hat4 : decide ((at_ : Int) < 0) = false := decide_eq_false (by omega)
  have hxl2 : (b.drop at_).length ≤ 1000000000 := by omega
  generalize rdE (b.drop at_) = E at *
  generalize rdP (b.drop at_) = P at *
  generalize rdL (b.drop at_) = L at *
  generalize b.drop at_ = x at *
  generalize c - at_ = cx at *
  clear hr hb hxl
  obtain ⟨ad, rfl, hadB, x0⟩ := hrx.at_ (j := 0) (by omega)
  obtain ⟨ad', had, _, x1⟩ := hrx.at_ (j := 1) (by omega)
  obtain rfl : ad = ad' := by injection had
  have x0 : w.cell? ad = some (.int .u8 (x.getD 0 0)) := x0
  have hx1' : w.cell? ⟨ad.block, ad.off + 1, none⟩ = some (.int .u8 (x.getD 1 0)) := x1
  rw [h75.1] at x0
  rw [h75.2] at hx1'
  have hp0 : (0 : Int) < (x.length : Int) := by omega
  have hp1 : (1 : Int) < (x.length : Int) := by omega
  have hadw : ad.block < w.heap.size := by omega
  have hne0 : ad.block ≠ w.heap.size := by omega
  obtain ⟨ad', had2, _, x2⟩ := hrx.at_ (j := 2) (by omega)
  obtain rfl : ad = ad' := by injection had2
  obtain ⟨ad', had7, _, x7⟩ := hrx.at_ (j := 7) (by omega)
  obtain rfl : ad = ad' := by injection had7
  have x2' : w.cell? ⟨ad.block, ad.off + 2, none⟩ = some (.int .u8 (x.getD 2 0)) := x2
  have x7' : w.cell? ⟨ad.block, ad.off + 7, none⟩ = some (.int .u8 (x.getD 7 0)) := x7
  have hp2 : (2 : Int) < (x.length : Int) := by omega
  have hp7 : (7 : Int) < (x.length : Int) := by omega
  clear x1 x2 x7 had had2 had7
  have t1 : decide ((x.length : Int) < 2) = false := by simp; omega
  have t2 : decide ((x.length : Int) < 8) = false := by simp; omega
  obtain ⟨f0, f1⟩ := hbx.getD 2
  obtain ⟨s0, s1⟩ := big4_bd hbx 3
  obtain ⟨n0, n1⟩ := hbx.getD 7
  obtain ⟨Ah, hrunh, hrh, _⟩ := hrx.slice_lh Try.underlying31 info_u8 (lo := 3) (hh := 7) (by omega) (by omega) hcx
  simp only [show ((3 : Nat) : Int) = 3 from rfl, show ((7 : Nat) : Int) = 7 from rfl, Nat.reduceSub] at hrunh hrh
  have hd4 : ((x.drop 3).take 4).length = 4 := by rw [List.length_take, List.length_drop]; omega
  have HBg := Lib.hid (fun (W : World) (hW : Below w.heap.size w W) => rbig35_any (c := cx - 3) 4 hd4 (hrh.below hW hB) (hbx.part 3 4) (by omega))
  have k1 := and8_1 (x.getD 2 0) f0 f1
  have k2 := and8_2 (x.getD 2 0) f0 f1
  have k4 := and8_4 (x.getD 2 0) f0 f1
  have HBd := Lib.hid (fun W => bodied_any (x.getD 7 0) (x.getD 2 0 / 4 % 2 != 0) W)
  have HOk := Lib.hid (show rdOk x = decide (x.getD 2 0 ≤ 7 ∧ big ((x.drop 3).take 4) ≤ 2147483647 ∧ 1 ≤ x.getD 7 0 ∧ x.getD 7 0 ≤ mostB (x.getD 2 0 / 4 % 2 != 0)) from rfl)
  have HBo := Lib.hid (show bodiedB (x.getD 7 0) (x.getD 2 0 / 4 % 2 != 0) = decide (1 ≤ x.getD 7 0 ∧ x.getD 7 0 ≤ mostB (x.getD 2 0 / 4 % 2 != 0)) from rfl)
  have hE0 : E = if rdOk x = false then 2 else if (x.length : Int) < x.getD 7 0 + 12 then 3 else if big ((x.drop ((x.getD 7 0).toNat + 8)).take 4) ≠ crc (x.take ((x.getD 7 0).toNat + 8)) then 5 else 0 := by
    rw [HE.out, if_neg (by omega), if_neg (fun h => h h75), if_neg h8]
  have HE3 := Lib.hid hE0
  have hn2 := Int.toNat_of_nonneg n0
  generalize (x.getD 7 0).toNat = nn at *
  generalize x.getD 2 0 = f at *
  generalize big ((x.drop 3).take 4) = sq at *
  generalize x.getD 7 0 = n at *
  subst hn2
  generalize (f / 4 % 2 != 0) = gd at *
  generalize (f % 2 != 0) = fi at *
  generalize (f / 2 % 2 != 0) = la at *
  generalize mostB gd = M at *
  generalize bodiedB (nn : Int) gd = bo at *
  generalize rdOk x = ok at *
  have wsq : IntKind.i64.wrap sq = sq := IntWalk.i64_in _ (by omega)
  have wnn : IntKind.i64.wrap (nn : Int) = (nn : Int) := IntWalk.i64_in _ (by omega)
  clear hE0 HE hrh hd4 h75 h8
  go_enter Try.func60, Try.ntmps60
  go_upto_region 10 with fail
  have kb := Blk.new w 33 #[.int .i64 0, .bool false, .bool false, .bool false, .slice none 0 0]
  have hbw : Below w.heap.size w (w.alloc (.cells #[.int .i64 0, .bool false, .bool false, .bool false, .slice none 0 0] 33)) := below_alloc (Below.refl _ _) _
  generalize w.alloc (.cells #[.int .i64 0, .bool false, .bool false, .bool false, .slice none 0 0] 33) = wb at *
  have hgl := kb.lt
  have hsb := hbw.size
  have y2 := (hbw.cell (p := ⟨ad.block, ad.off + 2, none⟩) hadw).trans x2'
  have y7 := (hbw.cell (p := ⟨ad.block, ad.off + 7, none⟩) hadw).trans x7'
  have hadb : ad.block < wb.heap.size := by omega
  clear x0 hx1' x2' x7'
  go_cut [8] (fun v wc => v = .pointer (some ⟨wb.heap.size, 0, none⟩) ∧ Blk wc wb.heap.size 33 #[.int .i64 sq, .bool fi, .bool la, .bool gd, .slice none 0 0] ∧ Below wb.heap.size wb wc)
  case first =>
    refine wp_region_last (S := (fun w' => w'.cell? ⟨ad.block, ad.off + 2, none⟩ = some (.int .u8 f))) 21 _ (by simp only [List.pop_toArray, List.dropLast_cons_cons, List.dropLast_singleton]; rfl) (by kernel_rfl) (by kernel_rfl) (by kernel_rfl) (by kernel_rfl) (by kernel_rfl) ?_ (fun hHeld => ?_)
    focus exact y2
    refine wpAnyH_take (i := 0) (v := ?_) rfl (by kernel_rfl) (by kernel_rfl) (by kernel_rfl) (fun _ _ _ h => h) (Or.inl ⟨by kernel_rfl, ?_⟩) (by assumption) ?_
    rotate_left
    focus
      intro w9 hSw
      (try dsimp only at hSw)
      go_simp
      (try with_reducible rfl)
    (try simp only [Act.put, List.getElem_toArray, List.getElem_cons_succ, List.getElem_cons_zero, List.setIfInBounds_toArray, List.set_cons_zero, List.set_cons_succ])
    refine wpAnyH_take (i := 1) (v := ?_) rfl (by kernel_rfl) (by kernel_rfl) (by kernel_rfl) (fun _ _ _ h => h) (Or.inl ⟨by kernel_rfl, ?_⟩) (by assumption) ?_
    rotate_left
    focus
      intro w9 hSw
      (try dsimp only at hSw)
      go_simp
      (try with_reducible rfl)
    (try simp only [Act.put, List.getElem_toArray, List.getElem_cons_succ, List.getElem_cons_zero, List.setIfInBounds_toArray, List.set_cons_zero, List.set_cons_succ])
    refine wpAnyH_take (i := 4) (v := ?_) rfl (by kernel_rfl) (by kernel_rfl) (by kernel_rfl) (fun _ _ _ h => h) (Or.inl ⟨by kernel_rfl, ?_⟩) (by assumption) ?_
    rotate_left
    focus
      intro w9 hSw
      (try dsimp only at hSw)
      go_simp
      (try with_reducible rfl)
    (try simp only [Act.put, List.getElem_toArray, List.getElem_cons_succ, List.getElem_cons_zero, List.setIfInBounds_toArray, List.set_cons_zero, List.set_cons_succ])
    refine wpAnyH_take (i := 5) (v := ?_) rfl (by kernel_rfl) (by kernel_rfl) (by kernel_rfl) (fun _ _ _ h => h) (Or.inl ⟨by kernel_rfl, ?_⟩) (by assumption) ?_
    rotate_left
    focus
      intro w9 hSw
      (try dsimp only at hSw)
      go_simp
      (try with_reducible rfl)
    (try simp only [Act.put, List.getElem_toArray, List.getElem_cons_succ, List.getElem_cons_zero, List.setIfInBounds_toArray, List.set_cons_zero, List.set_cons_succ])
    refine wpAnyH_take (i := 6) (v := ?_) rfl (by kernel_rfl) (by kernel_rfl) (by kernel_rfl) (fun _ _ _ h => h) (Or.inl ⟨by kernel_rfl, ?_⟩) (by assumption) ?_
    rotate_left
    focus
      intro w9 hSw
      (try dsimp only at hSw)
      go_simp
      (try with_reducible rfl)
    (try simp only [Act.put, List.getElem_toArray, List.getElem_cons_succ, List.getElem_cons_zero, List.setIfInBounds_toArray, List.set_cons_zero, List.set_cons_succ])
    refine wpAnyH_take (i := 7) (v := ?_) rfl (by kernel_rfl) (by kernel_rfl) (by kernel_rfl) (fun _ _ _ h => h) (Or.inl ⟨by kernel_rfl, ?_⟩) (by assumption) ?_
    rotate_left
    focus
      intro w9 hSw
      (try dsimp only at hSw)
      go_simp
      (try with_reducible rfl)
    (try simp only [Act.put, List.getElem_toArray, List.getElem_cons_succ, List.getElem_cons_zero, List.setIfInBounds_toArray, List.set_cons_zero, List.set_cons_succ])
    refine wpAnyH_take (i := 8) (v := ?_) rfl (by kernel_rfl) (by kernel_rfl) (by kernel_rfl) (fun _ _ _ h => h) (Or.inl ⟨by kernel_rfl, ?_⟩) (by assumption) ?_
    rotate_left
    focus
      intro w9 hSw
      (try dsimp only at hSw)
      go_simp
      (try with_reducible rfl)
    (try simp only [Act.put, List.getElem_toArray, List.getElem_cons_succ, List.getElem_cons_zero, List.setIfInBounds_toArray, List.set_cons_zero, List.set_cons_succ])
    refine wpAnyH_take (i := 9) (v := ?_) rfl (by kernel_rfl) (by kernel_rfl) (by kernel_rfl) (fun _ _ _ h => h) (Or.inl ⟨by kernel_rfl, ?_⟩) (by assumption) ?_
    rotate_left
    focus
      intro w9 hSw
      (try dsimp only at hSw)
      go_simp
      (try with_reducible rfl)
    (try simp only [Act.put, List.getElem_toArray, List.getElem_cons_succ, List.getElem_cons_zero, List.setIfInBounds_toArray, List.set_cons_zero, List.set_cons_succ])
    refine wpAnyH_take (i := 10) (v := ?_) rfl (by kernel_rfl) (by kernel_rfl) (by kernel_rfl) (fun _ _ _ h => h) (Or.inl ⟨by kernel_rfl, ?_⟩) (by assumption) ?_
    rotate_left
    focus
      intro w9 hSw
      (try dsimp only at hSw)
      go_simp
      (try with_reducible rfl)
    (try simp only [Act.put, List.getElem_toArray, List.getElem_cons_succ, List.getElem_cons_zero, List.setIfInBounds_toArray, List.set_cons_zero, List.set_cons_succ])
    refine wpAnyH_take (i := 11) (v := ?_) rfl (by kernel_rfl) (by kernel_rfl) (by kernel_rfl) (fun _ _ _ h => h) (Or.inl ⟨by kernel_rfl, ?_⟩) (by assumption) ?_
    rotate_left
    focus
      intro w9 hSw
      (try dsimp only at hSw)
      go_simp
      (try with_reducible rfl)
    (try simp only [Act.put, List.getElem_toArray, List.getElem_cons_succ, List.getElem_cons_zero, List.setIfInBounds_toArray, List.set_cons_zero, List.set_cons_succ])
    refine wpAnyH_take (i := 12) (v := ?_) rfl (by kernel_rfl) (by kernel_rfl) (by kernel_rfl) (fun _ _ _ h => h) (Or.inl ⟨by kernel_rfl, ?_⟩) (by assumption) ?_
    rotate_left
    focus
      intro w9 hSw
      (try dsimp only at hSw)
      go_simp
      (try with_reducible rfl)
    (try simp only [Act.put, List.getElem_toArray, List.getElem_cons_succ, List.getElem_cons_zero, List.setIfInBounds_toArray, List.set_cons_zero, List.set_cons_succ])
    refine wpAnyH_take (i := 13) (v := ?_) rfl (by kernel_rfl) (by kernel_rfl) (by kernel_rfl) (fun _ _ _ h => h) (Or.inl ⟨by kernel_rfl, ?_⟩) (by assumption) ?_
    rotate_left
    focus
      intro w9 hSw
      (try dsimp only at hSw)
      go_simp
      (try with_reducible rfl)
    (try simp only [Act.put, List.getElem_toArray, List.getElem_cons_succ, List.getElem_cons_zero, List.setIfInBounds_toArray, List.set_cons_zero, List.set_cons_succ])
    refine wpAnyH_take (i := 14) (v := ?_) rfl (by kernel_rfl) (by kernel_rfl) (by kernel_rfl) (fun _ _ _ h => h) (Or.inl ⟨by kernel_rfl, ?_⟩) (by assumption) ?_
    rotate_left
    focus
      intro w9 hSw
      (try dsimp only at hSw)
      go_simp
      (try with_reducible rfl)
    (try simp only [Act.put, List.getElem_toArray, List.getElem_cons_succ, List.getElem_cons_zero, List.setIfInBounds_toArray, List.set_cons_zero, List.set_cons_succ])
    refine wpAnyH_take (i := 15) (v := ?_) rfl (by kernel_rfl) (by kernel_rfl) (by kernel_rfl) (fun _ _ _ h => h) (Or.inl ⟨by kernel_rfl, ?_⟩) (by assumption) ?_
    rotate_left
    focus
      intro w9 hSw
      (try dsimp only at hSw)
      go_simp
      (try with_reducible rfl)
    (try simp only [Act.put, List.getElem_toArray, List.getElem_cons_succ, List.getElem_cons_zero, List.setIfInBounds_toArray, List.set_cons_zero, List.set_cons_succ])
    refine wpAnyH_take (i := 16) (v := ?_) rfl (by kernel_rfl) (by kernel_rfl) (by kernel_rfl) (fun _ _ _ h => h) (Or.inl ⟨by kernel_rfl, ?_⟩) (by assumption) ?_
    rotate_left
    focus
      intro w9 hSw
      (try dsimp only at hSw)
      go_simp
      (try with_reducible rfl)
    (try simp only [Act.put, List.getElem_toArray, List.getElem_cons_succ, List.getElem_cons_zero, List.setIfInBounds_toArray, List.set_cons_zero, List.set_cons_succ])
    refine wpAnyH_take (i := 17) (v := ?_) rfl (by kernel_rfl) (by kernel_rfl) (by kernel_rfl) (fun _ _ _ h => h) (Or.inl ⟨by kernel_rfl, ?_⟩) (by assumption) ?_
    rotate_left
    focus
      intro w9 hSw
      (try dsimp only at hSw)
      go_simp
      (try with_reducible rfl)
    (try simp only [Act.put, List.getElem_toArray, List.getElem_cons_succ, List.getElem_cons_zero, List.setIfInBounds_toArray, List.set_cons_zero, List.set_cons_succ])
    refine wpAnyH_take (i := 18) (v := ?_) rfl (by kernel_rfl) (by kernel_rfl) (by kernel_rfl) (fun _ _ _ h => h) (Or.inl ⟨by kernel_rfl, ?_⟩) (by assumption) ?_
    rotate_left
    focus
      intro w9 hSw
      (try dsimp only at hSw)
      go_simp
      (try with_reducible rfl)
    (try simp only [Act.put, List.getElem_toArray, List.getElem_cons_succ, List.getElem_cons_zero, List.setIfInBounds_toArray, List.set_cons_zero, List.set_cons_succ])
    refine wpAnyH_ready (rs := [2, 20]) (by kernel_rfl) (by simp) (AllReadyH.cons rfl (fun K hK => ?_) (AllReadyH.cons rfl (fun K hK => ?_) AllReadyH.nil))
    · go_simp
      go_at_call 80
      with_reducible refine (HBg.out _ hbw.drew).mono ?_
      rintro e w6 ⟨rfl, rfl⟩
      refine hK.out _ _ ?_ (fun hHeld => ?_)
      focus exact y2
      clear hK K
      (try simp only [Act.put, List.getElem_toArray, List.getElem_cons_succ, List.getElem_cons_zero, List.setIfInBounds_toArray, List.set_cons_zero, List.set_cons_succ])
      refine wpAnyH_take (i := 3) (v := ?_) rfl (by kernel_rfl) (by kernel_rfl) (by kernel_rfl) (fun _ _ _ h => h) (Or.inl ⟨by kernel_rfl, ?_⟩) (by assumption) ?_
      rotate_left
      focus
        intro w9 hSw
        (try dsimp only at hSw)
        go_simp
        (try with_reducible rfl)
      (try simp only [Act.put, List.getElem_toArray, List.getElem_cons_succ, List.getElem_cons_zero, List.setIfInBounds_toArray, List.set_cons_zero, List.set_cons_succ])
      refine wpAnyH_take (i := 19) (v := ?_) rfl (by kernel_rfl) (by kernel_rfl) (by kernel_rfl) (fun _ _ _ h => h) (Or.inl ⟨by kernel_rfl, ?_⟩) (by assumption) ?_
      rotate_left
      focus
        intro w9 hSw
        (try dsimp only at hSw)
        go_simp
        (try with_reducible rfl)
      (try simp only [Act.put, List.getElem_toArray, List.getElem_cons_succ, List.getElem_cons_zero, List.setIfInBounds_toArray, List.set_cons_zero, List.set_cons_succ])
      refine wpAnyH_ready (rs := [20]) (by kernel_rfl) (by simp) (AllReadyH.cons rfl (fun K hK => ?_) AllReadyH.nil)
      go_simp
      refine hK.out _ _ ?_ (fun hHeld => ?_)
      focus exact ((below_alloc (Below.refl wb.drew.heap.size wb.drew) _).cell (p := ⟨ad.block, ad.off + 2, none⟩) hadb).trans y2
      clear hK K
      (try simp only [Act.put, List.getElem_toArray, List.getElem_cons_succ, List.getElem_cons_zero, List.setIfInBounds_toArray, List.set_cons_zero, List.set_cons_succ])
      refine wpAnyH_done (by kernel_rfl) (lastQ_step rfl (fun K hK => ?_)) _
      go_simp
      refine hK _ _ ?_
      clear hK K
      go_wp2
      go_meet
      exact ⟨rfl, Blk.new wb 33 #[.int .i64 sq, .bool fi, .bool la, .bool gd, .slice none 0 0], (below_alloc (Below.refl _ _) _).drew⟩
    · go_simp
      have bl : Below wb.heap.size wb (wb.alloc (.cells #[.int .i64 0, .bool false, .bool false, .bool false, .slice none 0 0] 33)).drew := (below_alloc (Below.refl _ _) _).drew
      refine hK.out _ _ ?_ (fun hHeld => ?_)
      focus exact (bl.cell (p := ⟨ad.block, ad.off + 2, none⟩) hadb).trans y2
      clear hK K
      (try simp only [Act.put, List.getElem_toArray, List.getElem_cons_succ, List.getElem_cons_zero, List.setIfInBounds_toArray, List.set_cons_zero, List.set_cons_succ])
      refine wpAnyH_ready (rs := [2]) (by kernel_rfl) (by simp) (AllReadyH.cons rfl (fun K hK => ?_) AllReadyH.nil)
      go_simp
      go_at_call 80
      with_reducible refine (HBg.out _ (below_then hbw bl)).mono ?_
      rintro e w6 ⟨rfl, rfl⟩
      refine hK.out _ _ ?_ (fun hHeld => ?_)
      focus exact (bl.cell (p := ⟨ad.block, ad.off + 2, none⟩) hadb).trans y2
      clear hK K
      (try simp only [Act.put, List.getElem_toArray, List.getElem_cons_succ, List.getElem_cons_zero, List.setIfInBounds_toArray, List.set_cons_zero, List.set_cons_succ])
      clear bl
      refine wpAnyH_take (i := 3) (v := ?_) rfl (by kernel_rfl) (by kernel_rfl) (by kernel_rfl) (fun _ _ _ h => h) (Or.inl ⟨by kernel_rfl, ?_⟩) (by assumption) ?_
      rotate_left
      focus
        intro w9 hSw
        (try dsimp only at hSw)
        go_simp
        (try with_reducible rfl)
      (try simp only [Act.put, List.getElem_toArray, List.getElem_cons_succ, List.getElem_cons_zero, List.setIfInBounds_toArray, List.set_cons_zero, List.set_cons_succ])
      refine wpAnyH_take (i := 19) (v := ?_) rfl (by kernel_rfl) (by kernel_rfl) (by kernel_rfl) (fun _ _ _ h => h) (Or.inl ⟨by kernel_rfl, ?_⟩) (by assumption) ?_
      rotate_left
      focus
        intro w9 hSw
        (try dsimp only at hSw)
        go_simp
        (try with_reducible rfl)
      (try simp only [Act.put, List.getElem_toArray, List.getElem_cons_succ, List.getElem_cons_zero, List.setIfInBounds_toArray, List.set_cons_zero, List.set_cons_succ])
      refine wpAnyH_done (by kernel_rfl) (lastQ_step rfl (fun K hK => ?_)) _
      go_simp
      refine hK _ _ ?_
      clear hK K
      go_wp2
      go_meet
      exact ⟨rfl, Blk.new wb 33 #[.int .i64 sq, .bool fi, .bool la, .bool gd, .slice none 0 0], (below_alloc (Below.refl _ _) _).drew⟩
  case rest =>
    obtain ⟨rfl, kp, hbc⟩ := hcut
    have kr := kb.below hbc hgl
    have y2 := (hbc.cell (p := ⟨ad.block, ad.off + 2, none⟩) hadb).trans y2
    have y7 := (hbc.cell (p := ⟨ad.block, ad.off + 7, none⟩) hadb).trans y7
    have bwc := below_then hbw hbc
    have hszc := hbc.size
    have hkp := kp.lt
    have p0 := kp.cell 0
    have p1 := kp.cell 1
    have p2 := kp.cell 2
    have p3 := kp.cell 3
    have p4 := kp.cell 4
    have q4 := kp.frozen 4
    have z0 := kr.cell 0
    have z1 := kr.cell 1
    have z2 := kr.cell 2
    have z3 := kr.cell 3
    have z4 := kr.cell 4
    have r0 := kr.frozen 0
    have r1 := kr.frozen 1
    have r2 := kr.frozen 2
    have r3 := kr.frozen 3
    have r4 := kr.frozen 4
    have hgw : wb.heap.size ≠ w.heap.size := by omega
    have hwg : w.heap.size ≠ wb.heap.size := by omega
    have hBad := Lib.hid (show E = 2 → P = Pg.zero ∧ L = 0 from fun h => ⟨by rw [HP.out, if_neg (by omega)], by rw [HL.out, if_neg (by omega)]⟩)
    by_cases hok : f ≤ 7 ∧ sq ≤ 2147483647 ∧ 1 ≤ (nn : Int) ∧ (nn : Int) ≤ M
    · obtain ⟨o1, o2, o3, o4⟩ := hok
      have hoT : ok = true := by rw [HOk.out]; exact decide_eq_true ⟨o1, o2, o3, o4⟩
      have hbT : bo = true := by rw [HBo.out]; exact decide_eq_true ⟨o3, o4⟩
      subst hoT hbT
      have d1 : decide (7 < f) = false := decide_eq_false (by omega)
      have d2 : decide (2147483647 < sq) = false := decide_eq_false (by omega)
      have hE1 := Lib.hid (HE3.out.trans (if_neg (by simp)))
      have w12 : IntKind.i64.wrap ((nn : Int) + 12) = (nn : Int) + 12 := IntWalk.i64_in _ (by omega)
      have w8 : IntKind.i64.wrap ((nn : Int) + 8) = (nn : Int) + 8 := IntWalk.i64_in _ (by omega)
      clear HOk HBo HE3 hBad o1 o2 o3 o4
      by_cases h12 : (x.length : Int) < (nn : Int) + 12
      · have hE : E = 3 := by rw [hE1.out, if_pos h12]
        subst hE
        obtain rfl : P = Pg.zero := by rw [HP.out, if_neg (by omega)]
        obtain rfl : L = 0 := by rw [HL.out, if_neg (by omega)]
        have d3 : decide ((x.length : Int) < (nn : Int) + 12) = true := decide_eq_true h12
        clear hE1 HP HL hrx hbx
        go_wp2_with (first
          | (go_at_call 76; (with_reducible refine (HBd.out _).mono ?_); rintro e w6 ⟨rfl, rfl⟩))
        exact bodyPost_ret (v := .tuple #[Pg.zero.val none 0, .int .i64 0, .int .i64 3]) (by simp [results, Try.results60, go_sem, Pg.zero, z0, z1, z2, z3, z4]) rfl ⟨none, 0, rfl, OwnI.nil_ _ _ _ _, by repeat (first | with_reducible exact bwc | refine below_put ?_ (Nat.le_refl _))⟩
      · have d3 : decide ((x.length : Int) < (nn : Int) + 12) = false := decide_eq_false h12
        have hnx : nn + 12 ≤ x.length := by omega
        have hE2 := Lib.hid (hE1.out.trans (if_neg h12))
        obtain ⟨As, hruns, hrs, _⟩ := hrx.slice_lh Try.underlying31 info_u8 (lo := nn + 8) (hh := nn + 12) (by omega) (by omega) hcx
        obtain ⟨Ac, hrunc, hrc, _⟩ := hrx.slice_h Try.underlying31 info_u8 (hh := nn + 8) (by omega) hcx
        obtain ⟨Ab, hrunb, hrb, _⟩ := hrx.slice_lh Try.underlying31 info_u8 (lo := 8) (hh := nn + 8) (by omega) (by omega) hcx
        simp only [show ((nn + 8 : Nat) : Int) = (nn : Int) + 8 by omega, show ((nn + 12 : Nat) : Int) = (nn : Int) + 12 by omega, show ((8 : Nat) : Int) = 8 from rfl, show nn + 12 - (nn + 8) = 4 by omega, show nn + 8 - 8 = nn by omega] at hruns hrunc hrunb hrs hrc hrb
        have hd4 : ((x.drop (nn + 8)).take 4).length = 4 := by rw [List.length_take, List.length_drop]; omega
        have hdc : (x.take (nn + 8)).length = nn + 8 := by rw [List.length_take]; omega
        have hdb : ((x.drop 8).take nn).length = nn := by rw [List.length_take, List.length_drop]; omega
        have HB4 := Lib.hid (fun (W : World) (hW : Below w.heap.size w W) => rbig35_any (c := cx - (nn + 8)) 4 hd4 (hrs.below hW hB) (hbx.part _ 4) (by omega))
        have HC := fun (W : World) (hW : Below w.heap.size w W) => rthirtytwo_any (c := cx) (fun y hy => hbx y (List.mem_of_mem_take hy)) (hrc.below hW hB) (by omega)
        rw [hdc] at HC
        replace HC := Lib.hid HC
        have hrb' := hrb.below bwc hB
        obtain ⟨b0, b1⟩ := big4_bd hbx (nn + 8)
        obtain ⟨c0, c1⟩ := crc_bd (x.take (nn + 8))
        have HDb := Lib.hid hdb
        have HbP := Lib.hid (show E = 0 → P = ⟨sq, fi, la, gd, (x.drop 8).take nn⟩ from fun h => by rw [HP.out, if_pos h])
        generalize (x.drop 8).take nn = bd at *
        generalize crc (x.take (nn + 8)) = C at *
        generalize big ((x.drop (nn + 8)).take 4) = G at *
        generalize (x.drop (nn + 8)).take 4 = d4 at *
        have wC : IntKind.u64.wrap C = C := by rw [IntKind.wrap_u64]; omega
        clear hrs hrc hrb hrx hbx hd4 hdc hE1 h12 hdb
        go_upto_region 17 with (first
          | (go_at_call 76; (with_reducible refine (HBd.out _).mono ?_); rintro e w6 ⟨rfl, rfl⟩)
          | (at_builtin; go_loud (refine wpList_append_int _ rfl (.tmp 91) (.tmp 95) _ rfl wc wc.heap.size wc.heap.size 5 .u8 1 Try.underlying31 info_u8 (.slice (some ⟨wc.heap.size, 0, none⟩) 0 0) [] rfl (OwnI.empty wc wc.heap.size 5 .u8 (Nat.le_refl _)) _ Ab nn (cx - 8) bd rfl HDb.out.symm (RdI.alloc hrb' (by omega) _) (by simp; have := HDb.out; omega) (by omega) (below_alloc (Below.refl _ _) _) (Nat.le_refl _) (by simp) ?_); intro v5 w5 ow5 bw5; rw [List.nil_append] at ow5; obtain ⟨A5, c5, rfl, hc5, _, _⟩ := ow5.form; have kp5 := kp.below bw5 hkp; have u4 := kp5.cell 4; have f4 := kp5.frozen 4))
        have kr5 := kr.below bw5 (by omega)
        have bb5 := below_then bwc bw5
        have kp6 := kp5.set_ 4 (.slice A5 bd.length c5)
        have kr6 := kr5.far (p := ⟨wb.heap.size, 4, none⟩) hwg (.slice A5 bd.length c5)
        have bb7 := below_put (off := 4) (u := .slice A5 bd.length c5) bb5 hsb
        have ho7 := own_put (off := 4) (u := .slice A5 bd.length c5) ow5 hkp
        generalize w5.setCell ⟨wb.heap.size, 4, none⟩ (.slice A5 bd.length c5) = w7 at *
        have kp7 : Blk w7 wb.heap.size 33 #[.int .i64 sq, .bool fi, .bool la, .bool gd, .slice A5 bd.length c5] := by simpa using kp6
        clear p0 p1 p2 p3 p4 q4 z0 z1 z2 z3 z4 r0 r1 r2 r3 r4 u4 f4 kp5 kp6 kr5 ow5 bw5 bb5 y2 y7
        go_quiet (first
          | (go_at_call 80; (with_reducible exact quiet_left (HB4.out _ (below_drewN bb7 _))))
          | (go_at_call 79; (with_reducible exact quiet_left (HC.out _ (below_drewN bb7 _)))))
        have kp8 := kp7.drewN nq
        have kr8 := kr6.drewN nq
        have bb8 := below_drewN bb7 nq
        have ho8 := ho7.drewN nq
        generalize w7.drewN nq = wd at *
        have p0 := kp8.cell 0
        have p1 := kp8.cell 1
        have p2 := kp8.cell 2
        have p3 := kp8.cell 3
        have p4 := kp8.cell 4
        have z0 := kr8.cell 0
        have z1 := kr8.cell 1
        have z2 := kr8.cell 2
        have z3 := kr8.cell 3
        have z4 := kr8.cell 4
        have r0 := kr8.frozen 0
        have r1 := kr8.frozen 1
        have r2 := kr8.frozen 2
        have r3 := kr8.frozen 3
        have r4 := kr8.frozen 4
        by_cases hGC : G = C
        · have hE : E = 0 := by rw [hE2.out, if_neg (by simp [hGC])]
          subst hE
          obtain rfl := HbP.out rfl
          obtain rfl : L = (nn : Int) + 12 := by rw [HL.out, if_pos rfl]
          have t5 : (G != C) = false := by simp [hGC]
          have HD2 := HDb
          clear hE2 HbP HL HP hGC
          go_wp2
          exact bodyPost_ret (v := .tuple #[Pg.val ⟨sq, fi, la, gd, bd⟩ A5 c5, .int .i64 ((nn : Int) + 12), .int .i64 0]) (by simp [results, Try.results60, go_sem, z0, z1, z2, z3, z4, Pg.val]) rfl ⟨A5, c5, rfl, OwnI.base_ (base := wc.heap.size) (by have hlt : w.heap.size < wc.heap.size := (by omega); repeat (first | with_reducible exact ho8 | refine own_put ?_ hlt)) (by omega), by repeat (first | with_reducible exact bb8 | refine below_put ?_ (Nat.le_refl _))⟩
        · have hE : E = 5 := by rw [hE2.out, if_pos hGC]
          subst hE
          obtain rfl : P = Pg.zero := by rw [HP.out, if_neg (by omega)]
          obtain rfl : L = 0 := by rw [HL.out, if_neg (by omega)]
          have t5 : (G != C) = true := by rw [bne_iff_ne]; exact hGC
          clear hE2 HbP HL HP hGC
          go_wp2
          exact bodyPost_ret (v := .tuple #[Pg.zero.val none 0, .int .i64 0, .int .i64 5]) (by simp [results, Try.results60, go_sem, Pg.zero, z0, z1, z2, z3, z4]) rfl ⟨none, 0, rfl, OwnI.nil_ _ _ _ _, by repeat (first | with_reducible exact bb8 | refine below_put ?_ (Nat.le_refl _))⟩
    · have hoF : ok = false := by rw [HOk.out]; exact decide_eq_false hok
      have hE : E = 2 := by rw [HE3.out, if_pos hoF]
      obtain ⟨hPz, hLz⟩ := hBad.out hE
      subst hE hPz hLz
      have hc4 : 7 < f ∨ (f ≤ 7 ∧ 2147483647 < sq) ∨ (f ≤ 7 ∧ sq ≤ 2147483647 ∧ ¬ (1 ≤ (nn : Int) ∧ (nn : Int) ≤ M)) := by omega
      clear HE3 HP HL hrx hbx hok hoF
      rcases hc4 with h | ⟨h, h'⟩ | ⟨h, h', h3⟩
      · have d1 : decide (7 < f) = true := decide_eq_true h
        clear h
        go_wp2
        exact bodyPost_ret (v := .tuple #[Pg.zero.val none 0, .int .i64 0, .int .i64 2]) (by simp [results, Try.results60, go_sem, Pg.zero, z0, z1, z2, z3, z4]) rfl ⟨none, 0, rfl, OwnI.nil_ _ _ _ _, by repeat (first | with_reducible exact bwc | refine below_put ?_ (Nat.le_refl _))⟩
      · have d1 : decide (7 < f) = false := decide_eq_false (by omega)
        have d2 : decide (2147483647 < sq) = true := decide_eq_true h'
        clear h h'
        go_wp2
        exact bodyPost_ret (v := .tuple #[Pg.zero.val none 0, .int .i64 0, .int .i64 2]) (by simp [results, Try.results60, go_sem, Pg.zero, z0, z1, z2, z3, z4]) rfl ⟨none, 0, rfl, OwnI.nil_ _ _ _ _, by repeat (first | with_reducible exact bwc | refine below_put ?_ (Nat.le_refl _))⟩
      · have d1 : decide (7 < f) = false := decide_eq_false (by omega)
        have d2 : decide (2147483647 < sq) = false := decide_eq_false (by omega)
        have hbF : bo = false := by rw [HBo.out]; exact decide_eq_false h3
        subst hbF
        clear h h' h3 HBo HOk
        go_wp2_with (first
          | (go_at_call 76; (with_reducible refine (HBd.out _).mono ?_); rintro e w6 ⟨rfl, rfl⟩))
        exact bodyPost_ret (v := .tuple #[Pg.zero.val none 0, .int .i64 0, .int .i64 2]) (by simp [results, Try.results60, go_sem, Pg.zero, z0, z1, z2, z3, z4]) rfl ⟨none, 0, rfl, OwnI.nil_ _ _ _ _, by repeat (first | with_reducible exact bwc | refine below_put ?_ (Nat.le_refl _))⟩
end Go.Proofs.Ytdnkdjaokmibjaa
