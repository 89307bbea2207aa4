/- IndexBack: the walk. -/
import Derived.Test.YtaimjlnhdobgeaaMkKnown
import Derived.Test.YtaimjlnhdobgeaaMkDrawn
import Derived.Test.YtaimjlnhdobgeaaXor8
import Derived.Deep.DeepCutAuto
set_option linter.unusedSimpArgs false
set_option linter.unusedVariables false
namespace Go.Proofs.Ytaimjlnhdobgeaa.indexBack
open Go.RowKit

theorem read_turned {l : List Mk} {pos n c : Nat} {y : Int} {A : Option Addr} {W : World} (hr : RdI W W.heap.size .u8 A ((mkBytes l).set pos y)) (hall : mkAll l = true) (hll : l.length ≤ 1000000) (hpos : pos < (mkHead l).length) (hy : 0 ≤ y ∧ y ≤ 255) (hn : n = (mkBytes l).length) (hc : n ≤ c) :
    Calls Try.prog 9 #[.slice A n c] W fun e w' => ∃ v, e = .returned (.tuple #[v, .int .i64 (if y = (mkHead l).getD pos 0 then 0 else 5)]) ∧ Below W.heap.size W w' := by
  have hbb := mkHead_bytes hall hll
  have hcb := crc_bd (mkHead l)
  have h4 := bg_len (crc (mkHead l)) 4
  have hb4 := bg_bytes (crc (mkHead l)) 4
  have hbig := big_bg (crc (mkHead l)) 4 hcb.1 (by omega)
  have hhl := mkHead_len l
  have hlen : (mkBytes l).length = (mkHead l).length + 4 := by rw [mkBytes, List.length_append, h4]
  have hset : (mkBytes l).set pos y = (mkHead l).set pos y ++ bg (crc (mkHead l)) 4 := by rw [mkBytes, List.set_append_left _ _ hpos]
  have hct := crc_turned hpos hbb hy
  by_cases h : y = (mkHead l).getD pos 0
  · have e : (mkBytes l).set pos y = mkBytes l := by rw [hset, h, set_same hpos]; rfl
    rw [e] at hr
    rw [if_pos h]
    refine (mkread_ok hr hall hll hn hc).mono ?_
    rintro e w' ⟨v, he, _, hb⟩
    exact ⟨v, he, hb⟩
  · rw [if_neg h]
    rw [hset] at hr
    have hb : byteB ((mkHead l).set pos y ++ bg (crc (mkHead l)) 4) := byteB.append (fun z hz => by
      rcases List.mem_or_eq_of_mem_set hz with hz | hz
      · exact hbb z hz
      · rw [hz]; exact hy) hb4
    refine (mkread_sum hr h4 (by rw [List.length_set]; omega) hb hc (by omega) (by rw [hbig]; exact fun e => h (hct.1 e.symm))).mono ?_
    rintro e w' ⟨he, hb⟩
    exact ⟨_, he, hb⟩

set_option maxHeartbeats 8000000 in
set_option maxRecDepth 100000 in
theorem walk (w : World) (A0 : Option Addr) (c0 : Nat) (t : List Int) (ht : ∀ x ∈ t, -9223372036854775808 ≤ x ∧ x ≤ 9223372036854775807) (hc : t.length ≤ c0) (h63 : c0 ≤ 9223372036854775807) (hrt : RdI w w.heap.size .i64 A0 t)
    (at_ : Int) (at0 : -9223372036854775808 ≤ at_) (at1 : at_ ≤ 9223372036854775807) (by_ : Int) (by0 : 0 ≤ by_) (by1 : by_ ≤ 255) :
    Calls Try.prog 3 #[.slice A0 t.length c0, .int .i64 at_, .int .u8 by_] w fun e w' => e = .returned (.bool true) ∧ Below w.heap.size w w' := by
  have HK := Lib.hid (fun W => known_any W)
  have HT := Lib.hid (newtape_any A0 t c0 ht hc (by omega) w hrt (Nat.le_refl _))
  have HD := Lib.hid (fun W (hW : TapeB W w.heap.size w.heap.size) => drawn_any hW)
  clear ht hrt
  go_enter Try.func3, Try.ntmps3
  go_upto_region 2 with (first
    | (go_at_call 7; (with_reducible refine HT.out.mono ?_); rintro e w1 ⟨rfl, hT1, hb1⟩)
    | (go_at_call 6; (with_reducible refine (HD.out _ hT1).mono ?_); rintro e w2 ⟨v2, l, rfl, hl, hall, ho2, hT2, hg2⟩))
  have bb2 := below_one hb1 hg2 (Nat.le_refl _)
  obtain ⟨A2, c2, rfl, hc2, hr2⟩ := ho2.reads MkR.good (S := fun b => b < w2.heap.size) (fun b hb hl => hl)
  have HB := Lib.hid (mkbytes_any (c := c2) hr2 (by omega))
  rw [show mkE l = 0 by rw [mkE, if_pos hall], show mkB l = mkBytes l by rw [mkB, if_pos hall]] at HB
  have hhl := mkHead_len l
  have hlen : (mkBytes l).length = (mkHead l).length + 4 := by rw [mkBytes, List.length_append, bg_len]
  have hbyte : byteB (mkBytes l) := (mkHead_bytes hall (by omega)).append (bg_bytes _ _)
  have HR1 := Lib.hid (fun (W : World) (A : Option Addr) (c : Nat) hr hc => mkread_ok (l := l) (A := A) (c := c) (w := W) hr hall (by omega) rfl hc)
  have HR2 := Lib.hid (fun (W : World) (A : Option Addr) (c n pos : Nat) (y : Int) hr hpos hy hn hc => read_turned (l := l) (A := A) (c := c) (n := n) (pos := pos) (y := y) (W := W) hr hall (by omega) hpos hy hn hc)
  obtain ⟨x, hx⟩ : ∃ x, x = mkBytes l := ⟨_, rfl⟩
  have hx5 : 5 ≤ x.length := by rw [hx]; omega
  have hxl : x.length ≤ 1000 := by rw [hx]; omega
  have HGet := Lib.hid (show ∀ pos, pos < (mkHead l).length → (mkHead l).getD pos 0 = x.getD pos 0 from fun pos h => by rw [hx, mkBytes]; simp [List.getD, List.getElem?_append_left h])
  have HLen := Lib.hid (show x.length = (mkHead l).length + 4 by rw [hx, hlen])
  rw [← hx] at HB HR1 HR2 hbyte
  clear hx hlen hhl hall ho2 hT2 hg2 hb1
  have HM := Lib.hid (fun (W : World) (A : Option Addr) (c : Nat) (S : Nat → Prop) (hx : RdMk W S A l) (hy : RdMk W (fun b => b < w2.heap.size) A2 l) => marks_any c c2 hx hy (by omega) (by omega))
  simp only [decide_true] at HM
  go_upto_region 4 with (first
    | (go_at_call 8; (with_reducible refine HB.out.mono ?_); rintro e w3 ⟨v3, rfl, ho3, hb3⟩; obtain ⟨A3, c3, rfl, hc3, hr3, _⟩ := ho3.form)
    | (go_at_call 9; (with_reducible refine (HR1.out _ _ _ hr3 hc3).mono ?_); rintro e w4 ⟨v4, rfl, ho4, hb4⟩))
  obtain ⟨A4, c4, rfl, hc4, hr4⟩ := ho4.reads MkR.good (S := fun b => b < w4.heap.size) (fun b hb hl => hl)
  have b24 := below_then hb3 hb4
  have bb4 := below_then bb2 b24
  have hr24 := hr2.below MkR.good b24
  have hrx := hr3.below hb4 (Nat.le_refl _)
  have hs4 := hb4.size
  have h5 : decide ((x.length : Int) < 5) = false := decide_eq_false (by omega)
  clear hr2 hr3 ho3 ho4 hb3 hb4 b24 HB HR1 HD HT hT1
  go_upto_region 7 with (first
    | (go_at_call 10; (with_reducible refine (HM.out _ _ _ _ hr4 hr24).mono ?_); rintro e w5 ⟨rfl, n5, hn5⟩; have b5 : Below w4.heap.size w4 w5 := (by rw [hn5]; exact below_drewN (Below.refl _ _) n5); have hs5 := b5.size; have hrx5 := hrx.below b5 hs4; clear hn5)
    | (at_builtin; (refine wpList_append_int _ rfl (.tmp 45) (.tmp 46) _ rfl w5 w5.heap.size w5.heap.size 5 .u8 1 Try.underlying27 info_u8 _ [] rfl (OwnI.empty _ _ _ _ (Nat.le_refl _)) _ A3 _ c3 x rfl rfl (hrx5.alloc (by omega) _) (by simp; omega) (by omega) (below_alloc (Below.refl _ _) _) (Nat.le_refl _) (by simp) ?_); intro v6 w6 ow6 bw6; rw [List.nil_append] at ow6))
  have hp1 := withinV_in (n := at_) (lo := 0) (hi := (x.length : Int) - 5) (by omega)
  have HW1 := Lib.hid (fun W => within_any at_ 0 ((x.length : Int) - 5) at0 at1 (by omega) (by omega) (by omega) W)
  obtain ⟨p1, hp1e⟩ := Int.eq_ofNat_of_zero_le hp1.1
  rw [hp1e] at hp1 HW1
  clear hp1e
  have hl1 : p1 < x.length := by omega
  have hl4 : p1 < (mkHead l).length := by have := HLen.out; omega
  obtain ⟨g6, c6, rfl, hg6, hg6l, hc6, hcell6, hfz6, hset6⟩ := ow6.row (by omega)
  have z0 := hcell6 p1 hl1
  have f0 := hfz6 p1
  have HSet := Lib.hid hset6
  have hxp := hbyte.getD p1
  have hyb := xor_byte8 (x.getD p1 0) by_
  have HXS := Lib.hid (xor_same8 hxp ⟨by0, by1⟩)
  have HG := Lib.hid (HGet.out p1 hl4)
  have HR3 := Lib.hid (fun (W : World) (A : Option Addr) (c n : Nat) (y : Int) hr hy hn hc => HR2.out W A c n p1 y hr hl4 hy hn hc)
  rw [HG.out] at HR3
  clear hcell6 hfz6 hset6 ow6 HGet HR2 hl4 HG HLen
  obtain ⟨a, ha⟩ : ∃ a, a = x.getD p1 0 := ⟨_, rfl⟩
  rw [← ha] at z0 hxp hyb HXS HR3
  clear ha
  generalize hy : bits .xor .u8 a by_ = y at *
  have ow7 := HSet.out p1 y
  obtain ⟨Aq, cq, hvq, hcq, hrq, _⟩ := ow7.form
  rw [List.length_set] at hvq hcq
  simp only [Value.slice.injEq, true_and] at hvq
  obtain ⟨rfl, rfl⟩ := hvq
  have HR4 := Lib.hid (HR3.out _ _ c6 x.length y hrq hyb rfl hcq)
  have HXS' := Lib.hid (show (y = a) ↔ by_ = 0 from HXS.out)
  have bw7 := below_put (u := .int .u8 y) (off := p1) bw6 hg6
  have bbz := below_then bb4 (below_then b5 bw7)
  obtain ⟨E, hE⟩ : ∃ E : Int, E = if y = a then 0 else 5 := ⟨_, rfl⟩
  rw [← hE] at HR4
  have HE := Lib.hid hE
  clear hE HSet ow7 hrq hcq HXS HR3 hrx hrx5
  go_upto_region 9 with (first
    | (go_at_call 11; (with_reducible refine (HW1.out _).mono ?_); rintro e w8 ⟨rfl, rfl⟩)
    | (go_at_call 9; (with_reducible refine HR4.out.mono ?_); rintro e w9 ⟨v9, rfl, hb9⟩; have bw9 := below_then bbz hb9))
  clear z0 f0 hy
  by_cases hb0 : by_ = 0
  · have hE : E = 0 := by rw [HE.out, if_pos (HXS'.out.2 hb0)]
    subst hE hb0
    go_wp2_with (go_at_call 12; (with_reducible refine (HK.out _).mono ?_); rintro e w10 ⟨rfl, hb10⟩)
    go_ret
    exact ⟨rfl, below_then bw9 hb10⟩
  · have hE : E = 5 := by rw [HE.out, if_neg (fun h => hb0 (HXS'.out.1 h))]
    subst hE
    have hb0' : (by_ == 0) = false := by simpa using hb0
    clear hb0
    go_wp2_with (go_at_call 12; (with_reducible refine (HK.out _).mono ?_); rintro e w10 ⟨rfl, hb10⟩)
    go_ret
    exact ⟨rfl, below_then bw9 hb10⟩
end Go.Proofs.Ytaimjlnhdobgeaa.indexBack
