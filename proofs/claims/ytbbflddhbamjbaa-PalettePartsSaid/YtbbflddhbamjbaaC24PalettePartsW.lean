/- PaletteParts: the walk. -/
import Derived.Test.YtbbflddhbamjbaaPlKnown
import Derived.Test.YtbbflddhbamjbaaPlFew
import Derived.Test.YtbbflddhbamjbaaPlLaws
import Derived.Test.YtbbflddhbamjbaaPicRPart
set_option linter.unusedSimpArgs false
set_option linter.unusedVariables false
namespace Go.Proofs.Ytbbflddhbamjbaa.paletteParts
open Go.RowKit

set_option maxHeartbeats 16000000 in
set_option maxRecDepth 100000 in
theorem walk (w : World) (A0 : Option Addr) (c0 : Nat) (t : List Int) (ht : ∀ x ∈ t, -9223372036854775808 ≤ x ∧ x ≤ 9223372036854775807) (hc : t.length ≤ c0) (h63 : c0 ≤ 9223372036854775807) (hrt : RdI w w.heap.size .i64 A0 t)
    (x : Int) (x0 : -9223372036854775808 ≤ x) (x1 : x ≤ 9223372036854775807) (y : Int) (y0 : -9223372036854775808 ≤ y) (y1 : y ≤ 9223372036854775807) (ww : Int) (ww0 : -9223372036854775808 ≤ ww) (ww1 : ww ≤ 9223372036854775807) (hh : Int) (hh0 : -9223372036854775808 ≤ hh) (hh1 : hh ≤ 9223372036854775807) :
    Calls Try.prog 6 #[.slice A0 t.length c0, .int .i64 x, .int .i64 y, .int .i64 ww, .int .i64 hh] w fun e w' => e = .returned (.bool true) ∧ Below w.heap.size w w' := by
  have HK := Lib.hid (fun W => known_any W)
  have HT := Lib.hid (newtape_any A0 t c0 ht hc (by omega) w hrt (Nat.le_refl _))
  have HFew := Lib.hid (fun W (hW : TapeB W w.heap.size w.heap.size) => few_any hW)
  clear ht hrt
  go_enter Try.func6, Try.ntmps6
  go_upto_region 3 with (first
    | (go_at_call 8; (with_reducible refine HT.out.mono ?_); rintro e w1 ⟨rfl, hT1, hb1⟩)
    | (go_at_call 9; (with_reducible refine (HFew.out _ hT1).mono ?_); rintro e w2 ⟨W, H, d, p, Ap, cp, rfl, hIp, _, _, h3p, hOp, hT2, hg2⟩)
    | (go_at_call 9; (with_reducible refine (HFew.out _ hT2).mono ?_); rintro e w3 ⟨W', H', d', q, Aq, cq, rfl, hIq, _, _, h3q, hOq, hT3, hg3⟩))
  have hT1l := hT1.lt
  have hb3 := below_one (below_one hb1 hg2 (Nat.le_refl _)) hg3 (Nat.le_refl _)
  have hOp3 := hOp.kept hg3 (.inl (by omega))
  have bb45 := below_alloc (below_alloc (Below.refl w3.heap.size w3) (.cells #[.int .i64 (W : Int), .int .i64 (H : Int), .int .i64 (d : Int), .slice Ap p.length cp] 30)) (.cells #[.int .i64 (W' : Int), .int .i64 (H' : Int), .int .i64 (d' : Int), .slice Aq q.length cq] 30)
  have kp := (Blk.new w3 30 #[.int .i64 (W : Int), .int .i64 (H : Int), .int .i64 (d : Int), .slice Ap p.length cp]).alloc (.cells #[.int .i64 (W' : Int), .int .i64 (H' : Int), .int .i64 (d' : Int), .slice Aq q.length cq] 30)
  have kq := Blk.new1 w3 (.cells #[.int .i64 (W : Int), .int .i64 (H : Int), .int .i64 (d : Int), .slice Ap p.length cp] 30) 30 #[.int .i64 (W' : Int), .int .i64 (H' : Int), .int .i64 (d' : Int), .slice Aq q.length cq]
  have hrp := rdOwn hOp3 bb45
  have hrq := rdOwn hOq bb45
  have b05 := below_then hb3 bb45
  obtain ⟨gp, hgp⟩ : ∃ gp, gp = w3.heap.size := ⟨_, rfl⟩
  rw [← hgp] at kp kq ⊢
  clear hgp hb3 hOp hOp3 hOq hT1 hT2 hT3 hg2 hg3 hb1 HT HFew bb45
  generalize (w3.alloc (.cells #[.int .i64 (W : Int), .int .i64 (H : Int), .int .i64 (d : Int), .slice Ap p.length cp] 30)).alloc (.cells #[.int .i64 (W' : Int), .int .i64 (H' : Int), .int .i64 (d' : Int), .slice Aq q.length cq] 30) = w5 at *
  have hkp := kp.lt
  have hkq := kq.lt
  obtain ⟨b1, b2, b3, b4, b5, b6, b7, b8, b9⟩ := isB_all hIp
  obtain ⟨c1, c2, c3, c4, c5, c6, c7, c8, c9⟩ := isB_all hIq
  have HRp := Lib.hid (fun W9 (h : Below w5.heap.size w5 W9) => hrp.to (Nat.le_refl _) h)
  have HRq := Lib.hid (fun W9 (h : Below w5.heap.size w5 W9) => hrq.to (Nat.le_refl _) h)
  have HOfp := Lib.hid (fun P b (h : OfIs ⟨W, H, d, p⟩ 256 P b) => (⟨of_some h (few_of hIp h3p) hIp, of_pal h (few_of hIp h3p) hIp, of_63 h hIp⟩ : _ ∧ _ ∧ _))
  have HOfq := Lib.hid (fun P b (h : OfIs ⟨W', H', d', q⟩ 256 P b) => (⟨of_some h (few_of hIq h3q) hIq, of_pal h (few_of hIq h3q) hIq, of_63 h hIq⟩ : _ ∧ _ ∧ _))
  have HIp := Lib.hid hIp
  have HIq := Lib.hid hIq
  have hOf1 := of_any (q := ⟨W, H, d, p⟩) (c := cp) (most := 256) (HRp.out w5 (Below.refl _ _)) (Nat.le_refl _)
  simp only [picV] at hOf1
  replace hOf1 := Lib.hid hOf1
  clear b9 c9 hrp hrq h3p h3q hIp hIq
  obtain ⟨p0, p1, p2, p3, _⟩ := kp.four
  go_upto_region 4 with (first
    | (go_at_call 18; (with_reducible refine hOf1.out.mono ?_); rintro e w6 ⟨a, ba, Aa, ca, rfl, hoa, hca, hra, hb6⟩; obtain ⟨⟨rfl, _, ha256⟩, hap, ha63⟩ := HOfp.out _ _ hoa; have HA := Lib.hid hap; clear hoa hap; try simp only [palV]))
  have b57 := below_alloc hb6 (.cells #[.int .i64 a.d, .int .i64 a.n, .slice Aa a.c.length ca] 25)
  have ka := Blk.new w6 25 #[.int .i64 a.d, .int .i64 a.n, .slice Aa a.c.length ca]
  have hra7 := hra.to (Nat.le_refl _) (below_alloc (Below.refl w6.heap.size w6) (.cells #[.int .i64 a.d, .int .i64 a.n, .slice Aa a.c.length ca] 25))
  obtain ⟨ga, hga⟩ : ∃ ga, ga = w6.heap.size := ⟨_, rfl⟩
  rw [← hga] at ka ⊢
  clear hga hra hb6 p0 p1 p2 p3 hOf1
  generalize w6.alloc (.cells #[.int .i64 a.d, .int .i64 a.n, .slice Aa a.c.length ca] 25) = w7 at *
  have hka := ka.lt
  have HRa := Lib.hid (fun W9 (h : Below w7.heap.size w7 W9) => hra7.to (Nat.le_refl _) h)
  clear hra7
  have hap := HA.out
  obtain ⟨hIdx, hIdxL⟩ := idx_of (q := ⟨W, H, d, p⟩) hap.1 HIp.out hap.2.1 hap.2.2.1 (fun j hj => (hap.2.2.2 _).2 ⟨j, hj, rfl⟩)
  have hIx1 := index_any (q := ⟨W, H, d, p⟩) (P := a) (c := cp) (c2 := ca) (HRp.out w7 b57) (HRa.out w7 (Below.refl _ _)) (Nat.le_refl _)
  rw [hIdx] at hIx1
  simp only [picV, palV] at hIx1
  replace hIx1 := Lib.hid hIx1
  have HIdx := Lib.hid hIdx
  clear hap hIdx hIdxL
  obtain ⟨p0, p1, p2, p3, _⟩ := (kp.below b57 hkp).four
  have a0 := ka.cell 0
  have a1 := ka.cell 1
  have a2 := ka.cell 2
  go_upto_region 5 with (first
    | (go_at_call 21; (with_reducible refine hIx1.out.mono ?_); rintro e w8 ⟨Al, cl, rfl, hcl, hrl, hb8⟩))
  have b58 := below_then b57 hb8
  have HRl := Lib.hid (fun W9 (h : Below w8.heap.size w8 W9) => (hrl.below h (Nat.le_refl _)).more h.size)
  clear p0 p1 p2 p3 a0 a1 a2 hIx1 hrl
  obtain ⟨p0, p1, p2, p3, _⟩ := (kp.below b58 hkp).four
  have HX := Lib.hid (fun n => quiet_left (within_any x 0 ((W : Int) - 1) x0 x1 (by omega) (by omega) (by omega) (w8.drewN n)))
  have HY := Lib.hid (fun n => quiet_left (within_any y 0 ((H : Int) - 1) y0 y1 (by omega) (by omega) (by omega) (w8.drewN n)))
  have hxi := withinV_in (n := x) (lo := 0) (hi := (W : Int) - 1) (by omega)
  have hyi := withinV_in (n := y) (lo := 0) (hi := (H : Int) - 1) (by omega)
  obtain ⟨an, han⟩ := Int.eq_ofNat_of_zero_le hxi.1
  obtain ⟨bn, hbn⟩ := Int.eq_ofNat_of_zero_le hyi.1
  rw [han] at hxi HX
  rw [hbn] at hyi HY
  clear han hbn
  go_quiet (first
    | (go_at_call 24; with_reducible exact HX.out _)
    | (go_at_call 24; with_reducible exact HY.out _))
  go_upto_region 6 with fail
  obtain ⟨n1, hn1⟩ : ∃ n1, n1 = nq := ⟨_, rfl⟩
  subst hn1
  have HXc := Lib.hid (fun n => quiet_add_left (a := n1) (within_any ww 1 ((W : Int) - an) ww0 ww1 (by omega) (by omega) (by omega) (w8.drewN (n1 + n))))
  have HYc := Lib.hid (fun n => quiet_add_left (a := n1) (within_any hh 1 ((H : Int) - bn) hh0 hh1 (by omega) (by omega) (by omega) (w8.drewN (n1 + n))))
  have hci := withinV_in (n := ww) (lo := 1) (hi := (W : Int) - an) (by omega)
  have hdi := withinV_in (n := hh) (lo := 1) (hi := (H : Int) - bn) (by omega)
  obtain ⟨cn, hcn⟩ := Int.eq_ofNat_of_zero_le (show 0 ≤ withinV ww 1 ((W : Int) - an) by omega)
  obtain ⟨dn, hdn⟩ := Int.eq_ofNat_of_zero_le (show 0 ≤ withinV hh 1 ((H : Int) - bn) by omega)
  rw [hcn] at hci HXc
  rw [hdn] at hdi HYc
  clear hcn hdn
  go_quiet (first
    | (go_at_call 24; with_reducible exact HXc.out _)
    | (go_at_call 24; with_reducible exact HYc.out _))
  go_upto_region 7 with fail
  have b89 := below_drewN (below_drewN (Below.refl w8.heap.size w8) n1) nq
  clear HX HY HXc HYc p0 p1 p2 p3
  generalize (w8.drewN n1).drewN nq = w9 at *
  have hins : insB W H an bn cn dn = true := by simp only [insB, decide_eq_true_eq]; omega
  have b59 := below_then b58 b89
  have HPi := Lib.hid (part_idx HIdx.out hins)
  have hBc := cutLL_isB HIp.out hins
  have hCut := Lib.hid (cut_yes (c := cp) (HRp.out w9 b59) (Nat.le_refl _) an bn cn dn HIp.out hins)
  obtain ⟨p0, p1, p2, p3, _⟩ := (kp.below b59 hkp).four
  go_upto_region 8 with (first
    | (go_at_call 25; (with_reducible refine hCut.out.mono ?_); rintro e w10 ⟨Ac, cc, rfl, hOc, hb10⟩))
  have b911 := below_alloc hb10 (.cells #[.int .i64 (cn : Int), .int .i64 (dn : Int), .int .i64 (d : Int), .slice Ac p.length cc] 30)
  have kc := Blk.new w10 30 #[.int .i64 (cn : Int), .int .i64 (dn : Int), .int .i64 (d : Int), .slice Ac p.length cc]
  have hrc := rdOwn (n := p.length) hOc (below_alloc (Below.refl w10.heap.size w10) (.cells #[.int .i64 (cn : Int), .int .i64 (dn : Int), .int .i64 (d : Int), .slice Ac p.length cc] 30))
  clear p0 p1 p2 p3 hCut hOc hb10
  generalize hq11 : w10.alloc (.cells #[.int .i64 (cn : Int), .int .i64 (dn : Int), .int .i64 (d : Int), .slice Ac p.length cc] 30) = w11 at *
  clear hq11
  have b511 := below_then b59 b911
  have b711 := below_then hb8 (below_then b89 b911)
  have hIx2 := index_any (q := ⟨cn, dn, d, cutLL p W an bn cn dn⟩) (P := a) (c := cc) (c2 := ca) hrc (HRa.out w11 b711) (Nat.le_refl _)
  rw [HPi.out.1, HPi.out.2.1] at hIx2
  simp only [picV, palV] at hIx2
  rw [show (cutLL p W an bn cn dn).length = p.length by rw [cutLL, List.length_map]] at hIx2
  replace hIx2 := Lib.hid hIx2
  obtain ⟨gc, hgc⟩ : ∃ gc, gc = w10.heap.size := ⟨_, rfl⟩
  rw [← hgc] at kc ⊢
  clear hgc hrc
  obtain ⟨q0, q1, q2, q3, _⟩ := kc.four
  have ka11 := ka.below b711 hka
  have a0 := ka11.cell 0
  have a1 := ka11.cell 1
  have a2 := ka11.cell 2
  go_upto_region 9 with (first
    | (go_at_call 21; (with_reducible refine hIx2.out.mono ?_); rintro e w12 ⟨Ao, co, rfl, hco, hro, hb12⟩))
  clear q0 q1 q2 q3 a0 a1 a2 hIx2
  obtain ⟨hpi1, hpi2, hpi3, hpi4⟩ := HPi.out
  generalize idxL ⟨W, H, d, p⟩ a = L at *
  have hmul := mul_64 (a := W) (b := H) (by omega) (by omega)
  have hLn : (L.length : Int) = (W : Int) * (H : Int) := by rw [hpi3]; simp
  have hwL : IntKind.i64.wrap ((W : Int) * (H : Int)) = (L.length : Int) := by rw [← hLn]; exact IntWalk.i64_in _ (by omega)
  have b512 := below_then b511 hb12
  have b712 := below_then b711 hb12
  have b812 := below_then b89 (below_then b911 hb12)
  have hPart := Lib.hid (part_any (c := cl) (HRl.out w12 b812) (Nat.le_refl _) W an bn cn dn (by omega) (by omega) (by omega) (by omega) (by omega) (by omega) (by rw [hpi3]; exact hpi4))
  have hcl63 : (cutPl L W an bn cn dn).length ≤ 9223372036854775807 := by
    rw [cutPl_length dn (by rw [hpi3]; exact hpi4)]
    have : dn * cn ≤ 64 * 64 := Nat.mul_le_mul (by omega) (by omega)
    omega
  clear hpi1 hpi2 hpi3 hpi4 HPi hLn hmul
  generalize cutPl L W an bn cn dn = CL at *
  have HInt := Lib.hid (fun W9 A9 c9 (h : Below w12.heap.size w12 W9) (h2 : RdI W9 W9.heap.size .i64 A9 CL) => show Calls Try.prog 26 #[.slice Ao CL.length co, .slice A9 CL.length c9] W9 (fun e w' => e = .returned (.bool true) ∧ ∃ n, w' = W9.drewN n) from (ints_any (c := co) (c2 := c9) ((hro.below h (Nat.le_refl _)).more h.size) h2 hcl63).mono fun e w' h => ⟨by rw [h.1]; simp, h.2⟩)
  clear hro
  obtain ⟨p0, p1, p2, p3, _⟩ := (kp.below b512 hkp).four
  have g0 : ((L.length : Int) != (L.length : Int)) = false := by simp
  go_upto_region 11 with (first
    | (go_at_call 27; (with_reducible refine hPart.out.mono ?_); rintro e w13 ⟨A13, c13, rfl, hO13, hb13⟩; obtain ⟨_, _, hr13⟩ := hO13.rds; have hIn := Lib.hid (HInt.out w13 A13 c13 hb13 hr13.top); clear hO13 hr13)
    | (go_at_call 26; (with_reducible refine hIn.out.mono ?_); rintro e w14 ⟨rfl, n14, hw14⟩; have hHw := Lib.hid hw14; clear hw14))
  have b1214 : Below w12.heap.size w12 w14 := by
    rw [hHw.out]
    exact below_drewN hb13 n14
  have b514 := below_then b512 b1214
  have b714 := below_then b712 b1214
  clear p0 p1 p2 p3 hPart HInt hHw hb13 hIn
  have hOf2 := of_any (q := ⟨W', H', d', q⟩) (c := cq) (most := 256) (HRq.out w14 b514) (Nat.le_refl _)
  simp only [picV] at hOf2
  replace hOf2 := Lib.hid hOf2
  obtain ⟨q0, q1, q2, q3, _⟩ := (kq.below b514 hkq).four
  go_upto_region 12 with (first
    | (go_at_call 18; (with_reducible refine hOf2.out.mono ?_); rintro e w15 ⟨b, bb, Ab, cb, rfl, hob, hcb, hrb, hb15⟩; obtain ⟨⟨rfl, _, hb256⟩, hbp, hb63⟩ := HOfq.out _ _ hob; have HBp := Lib.hid hbp; clear hob hbp; try simp only [palV]))
  have b1416 := below_alloc hb15 (.cells #[.int .i64 b.d, .int .i64 b.n, .slice Ab b.c.length cb] 25)
  have kb := Blk.new w15 25 #[.int .i64 b.d, .int .i64 b.n, .slice Ab b.c.length cb]
  have hrb16 := hrb.to (Nat.le_refl _) (below_alloc (Below.refl w15.heap.size w15) (.cells #[.int .i64 b.d, .int .i64 b.n, .slice Ab b.c.length cb] 25))
  obtain ⟨gb, hgb⟩ : ∃ gb, gb = w15.heap.size := ⟨_, rfl⟩
  rw [← hgb] at kb ⊢
  clear hgb hrb hb15 q0 q1 q2 q3 hOf2
  generalize w15.alloc (.cells #[.int .i64 b.d, .int .i64 b.n, .slice Ab b.c.length cb] 25) = w16 at *
  have hkb := kb.lt
  have b516 := below_then b514 b1416
  have b716 := below_then b714 b1416
  have HRb := Lib.hid (fun W9 (h : Below w16.heap.size w16 W9) => hrb16.to (Nat.le_refl _) h)
  have hJn := join_any (a := a) (b := b) (c := ca) (c2 := cb) (HRa.out w16 b716) hrb16 (Nat.le_refl _)
  simp only [palV] at hJn
  replace hJn := Lib.hid hJn
  have ka16 := ka.below b716 hka
  have a0 := ka16.cell 0
  have a1 := ka16.cell 1
  have a2 := ka16.cell 2
  have v0 := kb.cell 0
  have v1 := kb.cell 1
  have v2 := kb.cell 2
  go_upto_region 13 with (first
    | (go_at_call 20; (with_reducible refine hJn.out.mono ?_); rintro e w17 ⟨Aj, cj, rfl, hcj, hrj, hb17⟩; try simp only [palV]))
  have HJ63 := Lib.hid (join_63 a b)
  have HJm := Lib.hid (join_may a b)
  have HJy := Lib.hid (fun hd hn hl => join_yes (a := a) (b := b) (q := ⟨W', H', d', q⟩) HA.out.1 HBp.out.1 hd hn hl HIq.out HBp.out.2.1 HBp.out.2.2.1 (fun j hj => (HBp.out.2.2.2 _).2 ⟨j, hj, rfl⟩))
  have b1618 := below_alloc hb17 (.cells #[.int .i64 (joinP a b).d, .int .i64 (joinP a b).n, .slice Aj (joinP a b).c.length cj] 25)
  have kj := Blk.new w17 25 #[.int .i64 (joinP a b).d, .int .i64 (joinP a b).n, .slice Aj (joinP a b).c.length cj]
  have hrj18 := hrj.to (Nat.le_refl _) (below_alloc (Below.refl w17.heap.size w17) (.cells #[.int .i64 (joinP a b).d, .int .i64 (joinP a b).n, .slice Aj (joinP a b).c.length cj] 25))
  obtain ⟨gj, hgj⟩ : ∃ gj, gj = w17.heap.size := ⟨_, rfl⟩
  rw [← hgj] at kj ⊢
  clear hgj hrj hb17 a0 a1 a2 v0 v1 v2 hJn
  generalize w17.alloc (.cells #[.int .i64 (joinP a b).d, .int .i64 (joinP a b).n, .slice Aj (joinP a b).c.length cj] 25) = w18 at *
  generalize joinP a b = J at *
  generalize joinB a b = jb at *
  have hkj := kj.lt
  have b518 := below_then b516 b1618
  have b718 := below_then b716 b1618
  have ka18 := ka.below b718 hka
  have kb18 := kb.below b1618 hkb
  have a0 := ka18.cell 0
  have a1 := ka18.cell 1
  have a2 := ka18.cell 2
  have v0 := kb18.cell 0
  have v1 := kb18.cell 1
  have v2 := kb18.cell 2
  have b018 := below_then b05 b518
  have hs : IntKind.i64.wrap ((a.c.length : Int) + (b.c.length : Int)) = (a.c.length : Int) + (b.c.length : Int) := IntWalk.i64_in _ (by omega)
  by_cases hE : a.d = b.d ∧ a.n = b.n ∧ a.c.length + b.c.length ≤ 256
  · obtain ⟨rfl, hIj, hJl⟩ := HJy.out hE.1 hE.2.1 hE.2.2
    have g1 : (a.d != b.d) = false := by simp [hE.1]
    have g2 : (a.n != b.n) = false := by simp [hE.2.1]
    have g3 : decide ((256 : Int) < (a.c.length : Int) + (b.c.length : Int)) = false := decide_eq_false (by omega)
    have g4 : decide ((J.c.length : Int) ≤ (a.c.length : Int) + (b.c.length : Int)) = true := decide_eq_true (by omega)
    obtain ⟨e1, e2⟩ := paint_idx hIj
    have hIx3 := index_any (q := ⟨W', H', d', q⟩) (P := J) (c := cq) (c2 := cj) (HRq.out w18 b518) hrj18 (Nat.le_refl _)
    rw [hIj] at hIx3
    have HPn := Lib.hid (fun W9 A9 c9 (h : Below w18.heap.size w18 W9) (h2 : RdI W9 W9.heap.size .i64 A9 (idxL ⟨W', H', d', q⟩ J)) => by
      have hp := paint_any (c := c9) (c2 := cj) (a := (W' : Int)) (b := (H' : Int)) (P := J) h2 (hrj18.to (Nat.le_refl _) h) (Nat.le_refl _)
      simp only at e1 e2
      rw [e1, e2] at hp
      exact hp)
    simp only [picV, palV] at hIx3 HPn
    replace hIx3 := Lib.hid hIx3
    have j0 := kj.cell 0
    have j1 := kj.cell 1
    have j2 := kj.cell 2
    obtain ⟨q0, q1, q2, q3, _⟩ := (kq.below b518 hkq).four
    clear hE e1 e2 hIj
    generalize idxL ⟨W', H', d', q⟩ J = L3 at *
    go_upto_region 16 with (first
      | (go_at_call 21; (with_reducible refine hIx3.out.mono ?_); rintro e w19 ⟨Au, cu, rfl, hcu, hru, hb19⟩))
    have hPn := Lib.hid (HPn.out w19 Au cu hb19 hru)
    have kj19 := kj.below hb19 hkj
    have b519 := below_then b518 hb19
    have ka19 := ka18.below hb19 ka18.lt
    have kb19 := kb18.below hb19 kb18.lt
    clear q0 q1 q2 q3 j0 j1 j2 a0 a1 a2 v0 v1 v2 hIx3 HPn
    have j0 := kj19.cell 0
    have j1 := kj19.cell 1
    have j2 := kj19.cell 2
    obtain ⟨q0, q1, q2, q3, _⟩ := (kq.below b519 hkq).four
    go_upto_region 17 with (first
      | (go_at_call 22; (with_reducible refine hPn.out.mono ?_); rintro e w20 ⟨Ar, cr, rfl, hrr, hb20⟩; try simp only))
    have b1921 := below_alloc hb20 (.cells #[.int .i64 (W' : Int), .int .i64 (H' : Int), .int .i64 (d' : Int), .slice Ar q.length cr] 30)
    have kr := Blk.new w20 30 #[.int .i64 (W' : Int), .int .i64 (H' : Int), .int .i64 (d' : Int), .slice Ar q.length cr]
    have hrr21 := hrr.to (Nat.le_refl _) (below_alloc (Below.refl w20.heap.size w20) (.cells #[.int .i64 (W' : Int), .int .i64 (H' : Int), .int .i64 (d' : Int), .slice Ar q.length cr] 30))
    obtain ⟨gr, hgr⟩ : ∃ gr, gr = w20.heap.size := ⟨_, rfl⟩
    rw [← hgr] at kr ⊢
    clear hgr hrr hb20 q0 q1 q2 q3 j0 j1 j2 hPn
    generalize w20.alloc (.cells #[.int .i64 (W' : Int), .int .i64 (H' : Int), .int .i64 (d' : Int), .slice Ar q.length cr] 30) = w21 at *
    have b521 := below_then b519 b1921
    have hSm := same_any (a := ⟨W', H', d', q⟩) (b := ⟨W', H', d', q⟩) (c := cr) (c2 := cq) hrr21 (HRq.out w21 b521) (Nat.le_refl _) (small_63 (isB_small HIq.out))
    rw [show sameB ⟨(W' : Int), (H' : Int), (d' : Int), q⟩ ⟨(W' : Int), (H' : Int), (d' : Int), q⟩ = true by simp [sameB]] at hSm
    simp only at hSm
    have kj21 := Lib.hid (kj19.below b1921 kj19.lt)
    have ka21 := Lib.hid (ka19.below b1921 ka19.lt)
    have kb21 := Lib.hid (kb19.below b1921 kb19.lt)
    obtain ⟨q0, q1, q2, q3, _⟩ := (kq.below b521 hkq).four
    obtain ⟨r0, r1, r2, r3, _⟩ := kr.four
    replace hSm := Lib.hid hSm
    go_wp2_with (first
      | (go_at_call 23; (with_reducible refine hSm.out.mono ?_); rintro e w22 ⟨rfl, hb22⟩; have a2 := (ka21.out.below hb22 ka21.out.lt).cell 2; have v2 := (kb21.out.below hb22 kb21.out.lt).cell 2; have j2 := (kj21.out.below hb22 kj21.out.lt).cell 2)
      | (go_at_call 13; (with_reducible refine (HK.out _).mono ?_); rintro e w23 ⟨rfl, hb23⟩))
    go_ret
    exact ⟨rfl, below_then (below_then (below_then b05 b521) hb22) hb23⟩
  · have hcase : (a.d != b.d) = true ∨ ((a.d != b.d) = false ∧ (a.n != b.n) = true) ∨ ((a.d != b.d) = false ∧ (a.n != b.n) = false ∧ decide ((256 : Int) < (a.c.length : Int) + (b.c.length : Int)) = true) := by
      by_cases h1 : a.d = b.d
      · by_cases h2 : a.n = b.n
        · exact .inr (.inr ⟨by simp [h1], by simp [h2], decide_eq_true (by have : ¬ a.c.length + b.c.length ≤ 256 := fun h => hE ⟨h1, h2, h⟩; omega)⟩)
        · exact .inr (.inl ⟨by simp [h1], by simp [h2]⟩)
      · exact .inl (by simp [h1])
    have hMy := rmay_any (c := cj) hrj18 (Nat.le_refl _) hcj HJ63.out
    rw [HJm.out] at hMy
    simp only [palV] at hMy
    replace hMy := Lib.hid hMy
    have j0 := kj.cell 0
    have j1 := kj.cell 1
    have j2 := kj.cell 2
    have g9 : (jb == jb) = true := by simp
    clear hE
    rcases hcase with g1 | ⟨g1, g2⟩ | ⟨g1, g2, g3⟩
    all_goals
      go_wp2_with (first
        | (go_at_call 28; (with_reducible refine hMy.out.mono ?_); rintro e w19 ⟨rfl, hb19⟩)
        | (go_at_call 13; (with_reducible refine (HK.out _).mono ?_); rintro e w20 ⟨rfl, hb20⟩))
      go_ret
      exact ⟨rfl, below_then (below_then b018 hb19) hb20⟩
end Go.Proofs.Ytbbflddhbamjbaa.paletteParts
