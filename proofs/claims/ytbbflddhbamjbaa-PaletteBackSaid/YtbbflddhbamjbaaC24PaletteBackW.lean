/- PaletteBack: the walk. -/
import Derived.Test.YtbbflddhbamjbaaPlKnown
import Derived.Test.YtbbflddhbamjbaaPlFew
import Derived.Test.YtbbflddhbamjbaaPlBackL
import Derived.Test.YtbbflddhbamjbaaPlROf
import Derived.Test.YtbbflddhbamjbaaPicLast
import Derived.Shelf.RegionOpenPlain
import Derived.Deep.CutBlock
set_option linter.unusedSimpArgs false
set_option linter.unusedVariables false
namespace Go.Proofs.Ytbbflddhbamjbaa.paletteBack
open Go.RowKit

set_option maxHeartbeats 16000000 in
set_option maxRecDepth 100000 in
theorem walk (w : World) (A0 : Option Addr) (c0 : Nat) (t : List Int) (ht : ∀ x ∈ t, -9223372036854775808 ≤ x ∧ x ≤ 9223372036854775807) (hc : t.length ≤ c0) (h63 : c0 ≤ 9223372036854775807) (hrt : RdI w w.heap.size .i64 A0 t) :
    Calls Try.prog 5 #[.slice A0 t.length c0] w fun e w' => e = .returned (.bool true) ∧ Below w.heap.size w w' := by
  have HK := Lib.hid (fun W => known_any W)
  have HT := Lib.hid (newtape_any A0 t c0 ht hc (by omega) w hrt (Nat.le_refl _))
  have HFew := Lib.hid (fun W (hW : TapeB W w.heap.size w.heap.size) => few_any hW)
  have HPic := Lib.hid (fun W (hW : TapeB W w.heap.size w.heap.size) => tapepic_any hW 8 (by omega) (by omega))
  clear ht hrt
  go_enter Try.func5, Try.ntmps5
  go_upto_region 3 with (first
    | (go_at_call 8; (with_reducible refine HT.out.mono ?_); rintro e w1 ⟨rfl, hT1, hb1⟩)
    | (go_at_call 9; (with_reducible refine (HFew.out _ hT1).mono ?_); rintro e w2 ⟨W, H, d, p, Ap, cp, rfl, hIp, _, _, h3p, hOp, hT2, hg2⟩)
    | (go_at_call 15; (with_reducible refine (HPic.out _ hT2).mono ?_); rintro e w3 ⟨W', H', d', q, Aq, cq, rfl, hIq, _, _, hOq, hT3, hg3⟩))
  have hT1l := hT1.lt
  have hb3 := below_one (below_one hb1 hg2 (Nat.le_refl _)) hg3 (Nat.le_refl _)
  have hOp3 := hOp.kept hg3 (.inl (by omega))
  have bb45 := below_alloc (below_alloc (Below.refl w3.heap.size w3) (.cells #[.int .i64 (W : Int), .int .i64 (H : Int), .int .i64 (d : Int), .slice Ap p.length cp] 30)) (.cells #[.int .i64 (W' : Int), .int .i64 (H' : Int), .int .i64 (d' : Int), .slice Aq q.length cq] 30)
  have kp := (Blk.new w3 30 #[.int .i64 (W : Int), .int .i64 (H : Int), .int .i64 (d : Int), .slice Ap p.length cp]).alloc (.cells #[.int .i64 (W' : Int), .int .i64 (H' : Int), .int .i64 (d' : Int), .slice Aq q.length cq] 30)
  have kq := Blk.new1 w3 (.cells #[.int .i64 (W : Int), .int .i64 (H : Int), .int .i64 (d : Int), .slice Ap p.length cp] 30) 30 #[.int .i64 (W' : Int), .int .i64 (H' : Int), .int .i64 (d' : Int), .slice Aq q.length cq]
  have hrp := rdOwn hOp3 bb45
  have hrq := rdOwn hOq bb45
  have b05 := below_then hb3 bb45
  obtain ⟨gp, hgp⟩ : ∃ gp, gp = w3.heap.size := ⟨_, rfl⟩
  rw [← hgp] at kp kq ⊢
  clear hgp hb3 hOp hOp3 hOq hT1 hT2 hT3 hg2 hg3 hb1 HT HFew HPic bb45
  generalize (w3.alloc (.cells #[.int .i64 (W : Int), .int .i64 (H : Int), .int .i64 (d : Int), .slice Ap p.length cp] 30)).alloc (.cells #[.int .i64 (W' : Int), .int .i64 (H' : Int), .int .i64 (d' : Int), .slice Aq q.length cq] 30) = w5 at *
  have hkp := kp.lt
  have hkq := kq.lt
  obtain ⟨b1, b2, b3, b4, b5, b6, b7, b8, b9⟩ := isB_all hIp
  obtain ⟨c1, c2, c3, c4, c5, c6, c7, c8, c9⟩ := isB_all hIq
  have HRp := Lib.hid (fun W9 (h : Below w5.heap.size w5 W9) => hrp.to (Nat.le_refl _) h)
  have HRq := Lib.hid (fun W9 (h : Below w5.heap.size w5 W9) => hrq.to (Nat.le_refl _) h)
  have HOfp := Lib.hid (fun P b (h : OfIs ⟨W, H, d, p⟩ 256 P b) => (⟨of_some h (few_of hIp h3p) hIp, of_pal h (few_of hIp h3p) hIp, of_63 h hIp⟩ : _ ∧ _ ∧ _))
  have HIp := Lib.hid hIp
  have HIq := Lib.hid hIq
  have hOf1 := of_any (q := ⟨W, H, d, p⟩) (c := cp) (most := 256) (HRp.out w5 (Below.refl _ _)) (Nat.le_refl _)
  simp only [picV] at hOf1
  replace hOf1 := Lib.hid hOf1
  clear b9 c9 hrp hrq h3p hIp hIq
  obtain ⟨p0, p1, p2, p3, _⟩ := kp.four
  go_upto_region 4 with (first
    | (go_at_call 18; (with_reducible refine hOf1.out.mono ?_); rintro e w6 ⟨a, ba, Aa, ca, rfl, hoa, hca, hra, hb6⟩; obtain ⟨⟨rfl, _, ha256⟩, hap, ha63⟩ := HOfp.out _ _ hoa; have HA := Lib.hid hap; clear hoa hap; try simp only [palV]))
  have b57 := below_alloc hb6 (.cells #[.int .i64 a.d, .int .i64 a.n, .slice Aa a.c.length ca] 25)
  have ka := Blk.new w6 25 #[.int .i64 a.d, .int .i64 a.n, .slice Aa a.c.length ca]
  have hra7 := hra.to (Nat.le_refl _) (below_alloc (Below.refl w6.heap.size w6) (.cells #[.int .i64 a.d, .int .i64 a.n, .slice Aa a.c.length ca] 25))
  obtain ⟨ga, hga⟩ : ∃ ga, ga = w6.heap.size := ⟨_, rfl⟩
  rw [← hga] at ka ⊢
  clear hga hra hb6 p0 p1 p2 p3 hOf1
  generalize w6.alloc (.cells #[.int .i64 a.d, .int .i64 a.n, .slice Aa a.c.length ca] 25) = w7 at *
  have hka := ka.lt
  have HRa := Lib.hid (fun W9 (h : Below w7.heap.size w7 W9) => hra7.to (Nat.le_refl _) h)
  clear hra7
  have hap := HA.out
  obtain ⟨hIdx, _⟩ := idx_of (q := ⟨W, H, d, p⟩) hap.1 HIp.out hap.2.1 hap.2.2.1 (fun j hj => (hap.2.2.2 _).2 ⟨j, hj, rfl⟩)
  have hRk := ranked_any (q := ⟨W, H, d, p⟩) (P := a) (c := cp) (c2 := ca) (HRp.out w7 b57) (HRa.out w7 (Below.refl _ _)) (Nat.le_refl _)
  simp only [picV, palV] at hRk
  replace hRk := Lib.hid hRk
  have HIdx := Lib.hid hIdx
  have HRkI := Lib.hid (fun Q b (h : RankIs ⟨W, H, d, p⟩ a Q b) => (⟨(rank_perm h hIdx).1, rank_idx h hIdx⟩ : _ ∧ _))
  clear hap hIdx
  obtain ⟨p0, p1, p2, p3, _⟩ := (kp.below b57 hkp).four
  have a0 := ka.cell 0
  have a1 := ka.cell 1
  have a2 := ka.cell 2
  go_upto_region 7 with (first
    | (go_at_call 19; (with_reducible refine hRk.out.mono ?_); rintro e w8 ⟨r, br, Ar, cr, rfl, hrk, hcr, hrr, hb8⟩; obtain ⟨rfl, hri⟩ := HRkI.out _ _ hrk; have HRi := Lib.hid hri; clear hrk hri; try simp only [palV]))
  have b79 := below_alloc hb8 (.cells #[.int .i64 r.d, .int .i64 r.n, .slice Ar r.c.length cr] 25)
  have kr := Blk.new w8 25 #[.int .i64 r.d, .int .i64 r.n, .slice Ar r.c.length cr]
  have hrr9 := hrr.to (Nat.le_refl _) (below_alloc (Below.refl w8.heap.size w8) (.cells #[.int .i64 r.d, .int .i64 r.n, .slice Ar r.c.length cr] 25))
  obtain ⟨gr, hgr⟩ : ∃ gr, gr = w8.heap.size := ⟨_, rfl⟩
  rw [← hgr] at kr ⊢
  clear hgr hrr hb8 p0 p1 p2 p3 a0 a1 a2 hRk HRkI
  generalize w8.alloc (.cells #[.int .i64 r.d, .int .i64 r.n, .slice Ar r.c.length cr] 25) = w9 at *
  have hkr := kr.lt
  have b59 := below_then b57 b79
  have HRr := Lib.hid (fun W9 (h : Below w9.heap.size w9 W9) => hrr9.to (Nat.le_refl _) h)
  have hOf2 := rof_any (q := ⟨W', H', d', q⟩) (c := cq) (most := 100) (HRq.out w9 b59) (Nat.le_refl _) (small_63 (isB_small HIq.out))
  simp only [picV] at hOf2
  replace hOf2 := Lib.hid hOf2
  obtain ⟨q0, q1, q2, q3, _⟩ := (kq.below b59 hkq).four
  clear hrr9
  go_upto_region 8 with (first
    | (go_at_call 10; (with_reducible refine hOf2.out.mono ?_); rintro e w10 ⟨o, bo, Ao, co, rfl, hoo, hco, hro, hb10⟩; clear hoo; try simp only [palV]))
  have b911 := below_alloc hb10 (.cells #[.int .i64 o.d, .int .i64 o.n, .slice Ao o.c.length co] 25)
  have ko := Blk.new w10 25 #[.int .i64 o.d, .int .i64 o.n, .slice Ao o.c.length co]
  have b1011 := below_alloc (Below.refl w10.heap.size w10) (.cells #[.int .i64 o.d, .int .i64 o.n, .slice Ao o.c.length co] 25)
  have hs10 := hb10.size
  obtain ⟨go_, hgo⟩ : ∃ go_, go_ = w10.heap.size := ⟨_, rfl⟩
  rw [← hgo] at ko hs10 b1011 hro ⊢
  clear hgo hb10 q0 q1 q2 q3 hOf2
  generalize w10.alloc (.cells #[.int .i64 o.d, .int .i64 o.n, .slice Ao o.c.length co] 25) = w11 at *
  have hko := ko.lt
  have b711 := below_then b79 b911
  have ka11 := ka.below b711 hka
  have a0 := ka11.cell 0
  have a1 := ka11.cell 1
  have o0 := ko.cell 0
  have o1 := ko.cell 1
  have f0 := ko.frozen 0
  have f1 := ko.frozen 1
  have hmx : Try.prog.follows .mixedOrders = true := by kernel_rfl
  go_big_region_o
  have ko13 : Blk ((w11.setCell ⟨go_, 0, none⟩ (.int .i64 a.d)).setCell ⟨go_, 1, none⟩ (.int .i64 a.n)).drew go_ 25 #[.int .i64 a.d, .int .i64 a.n, .slice Ao o.c.length co] := (ko.set_ 0 (.int .i64 a.d)).set_ 1 (.int .i64 a.n)
  have b1013 : Below go_ w10 ((w11.setCell ⟨go_, 0, none⟩ (.int .i64 a.d)).setCell ⟨go_, 1, none⟩ (.int .i64 a.n)).drew := (below_put (below_put b1011 (Nat.le_refl _)) (Nat.le_refl _)).drew
  have b913 : Below w9.heap.size w9 ((w11.setCell ⟨go_, 0, none⟩ (.int .i64 a.d)).setCell ⟨go_, 1, none⟩ (.int .i64 a.n)).drew := (below_put (below_put b911 hs10) hs10).drew
  generalize ((w11.setCell ⟨go_, 0, none⟩ (.int .i64 a.d)).setCell ⟨go_, 1, none⟩ (.int .i64 a.n)).drew = w13 at *
  have hs13 := ko13.lt
  have hro13 := RdLL.grow (RdLL.below hro b1013 (Nat.le_refl _)) (show go_ ≤ w13.heap.size by omega)
  clear a0 a1 o0 o1 f0 f1 hmx ko b1011 ka11 b911 b711 b1013 hro
  have b513 := below_then b59 b913
  have b713 := below_then b79 b913
  have ka13 := ka.below b713 hka
  have hJn := join_any (a := a) (b := ⟨a.d, a.n, o.c⟩) (c := ca) (c2 := co) (HRa.out w13 b713) hro13 (Nat.le_refl _)
  have HJi := Lib.hid (fun h => join_idx (q := ⟨W, H, d, p⟩) (a := a) (b := ⟨a.d, a.n, o.c⟩) h HIdx.out)
  unfold JoinPost at hJn
  generalize joinP a ⟨a.d, a.n, o.c⟩ = J at *
  generalize joinB a ⟨a.d, a.n, o.c⟩ = jb at *
  simp only [palV] at hJn
  replace hJn := Lib.hid hJn
  have a0 := ka13.cell 0
  have a1 := ka13.cell 1
  have a2 := ka13.cell 2
  have o0 := ko13.cell 0
  have o1 := ko13.cell 1
  have o2 := ko13.cell 2
  go_upto_region 10 with (first
    | (go_at_call 20; (with_reducible refine hJn.out.mono ?_); rintro e w14 ⟨Aj, cj, rfl, hcj, hrj, hb14⟩))
  have b1315 := below_alloc hb14 (.cells #[.int .i64 J.d, .int .i64 J.n, .slice Aj J.c.length cj] 25)
  have kj := Blk.new w14 25 #[.int .i64 J.d, .int .i64 J.n, .slice Aj J.c.length cj]
  have hs14 := hb14.size
  have b1415 := below_alloc (Below.refl w14.heap.size w14) (.cells #[.int .i64 J.d, .int .i64 J.n, .slice Aj J.c.length cj] 25)
  obtain ⟨gj, hgj⟩ : ∃ gj, gj = w14.heap.size := ⟨_, rfl⟩
  rw [← hgj] at kj hs14 hrj b1415 ⊢
  clear hgj hb14 a0 a1 a2 o0 o1 o2 hJn
  generalize w14.alloc (.cells #[.int .i64 J.d, .int .i64 J.n, .slice Aj J.c.length cj] 25) = w15 at *
  have hkj := kj.lt
  have b715 := below_then b713 b1315
  have ka15 := ka.below b715 hka
  have a0 := ka15.cell 0
  have a1 := ka15.cell 1
  have a2 := ka15.cell 2
  go_upto_if 57 with fail
  go_cut [] from 56 to 58 (fun wc => ∃ (X : Pal) (AX : Option Addr) (cX : Nat), Blk wc gj 25 #[.int .i64 X.d, .int .i64 X.n, .slice AX X.c.length cX] ∧ RdLL wc wc.heap.size .i64 AX X.c ∧ X.c.length ≤ cX ∧ idxB ⟨W, H, d, p⟩ X = true ∧ Below w13.heap.size w13 wc)
  case first =>
    cases jb with
    | true =>
      go_wp2
      go_meet
      exact ⟨J, Aj, cj, kj, RdLL.grow (RdLL.below hrj b1415 (Nat.le_refl _)) (by omega), hcj, HJi.out (by first | rfl | trivial), b1315⟩
    | false =>
      have z0 := kj.cell 0
      have z1 := kj.cell 1
      have z2 := kj.cell 2
      have f0 := kj.frozen 0
      have f1 := kj.frozen 1
      have f2 := kj.frozen 2
      go_wp2
      go_meet
      have hb := below_put (off := 2) (u := .slice Aa a.c.length ca) (below_put (off := 1) (u := .int .i64 a.n) (below_put (off := 0) (u := .int .i64 a.d) b1315 hs14) hs14) hs14
      exact ⟨a, Aa, ca, ((kj.set_ 0 (.int .i64 a.d)).set_ 1 (.int .i64 a.n)).set_ 2 (.slice Aa a.c.length ca), HRa.out _ (below_then b713 hb), hca, HIdx.out, hb⟩
  case rest =>
    obtain ⟨X, AX, cX, kX, hrX, hcX, hiX, b13c⟩ := hcut
    have HiX := Lib.hid hiX
    clear a0 a1 a2 hiX ka15 kj hrj b1415 b715 b1315 hcj HJi
    have b7c := below_then b713 b13c
    have b5c := below_then b513 b13c
    have b9c := below_then b913 b13c
    have kac := ka.below b7c hka
    have krc := kr.below b9c hkr
    have a0 := kac.cell 0
    have a1 := kac.cell 1
    have a2 := kac.cell 2
    have r0 := krc.cell 0
    have r1 := krc.cell 1
    have r2 := krc.cell 2
    have v0 := kX.cell 0
    have v1 := kX.cell 1
    have v2 := kX.cell 2
    go_step
    go_step
    go_upto_region 13 with fail
    have kl := Blk.new wc 25 #[.int .i64 a.d, .int .i64 a.n, .slice Aa a.c.length ca, .int .i64 r.d, .int .i64 r.n, .slice Ar r.c.length cr, .int .i64 X.d, .int .i64 X.n, .slice AX X.c.length cX]
    have bcl := below_alloc (Below.refl wc.heap.size wc) (.cells #[.int .i64 a.d, .int .i64 a.n, .slice Aa a.c.length ca, .int .i64 r.d, .int .i64 r.n, .slice Ar r.c.length cr, .int .i64 X.d, .int .i64 X.n, .slice AX X.c.length cX] 25)
    obtain ⟨gl, hgl⟩ : ∃ gl, gl = wc.heap.size := ⟨_, rfl⟩
    rw [← hgl] at kl ⊢
    clear hgl a0 a1 a2 r0 r1 r2 v0 v1 v2
    generalize wc.alloc (.cells #[.int .i64 a.d, .int .i64 a.n, .slice Aa a.c.length ca, .int .i64 r.d, .int .i64 r.n, .slice Ar r.c.length cr, .int .i64 X.d, .int .i64 X.n, .slice AX X.c.length cX] 25) = w16 at *
    have hkl := kl.lt
    have hKey : ∀ i, i < 3 → ∃ (Y : Pal) (AY : Option Addr) (cY : Nat), w16.cell? ⟨gl, i * 3, none⟩ = some (.int .i64 Y.d) ∧ w16.cell? ⟨gl, i * 3 + 1, none⟩ = some (.int .i64 Y.n) ∧ w16.cell? ⟨gl, i * 3 + 2, none⟩ = some (.slice AY Y.c.length cY) ∧ (∀ W9, Below w16.heap.size w16 W9 → RdLL W9 W9.heap.size .i64 AY Y.c) ∧ idxB ⟨W, H, d, p⟩ Y = true := fun i hi => by
      have h3 : i = 0 ∨ i = 1 ∨ i = 2 := by omega
      rcases h3 with rfl | rfl | rfl
      · exact ⟨a, Aa, ca, kl.cell 0, kl.cell 1, kl.cell 2, fun W9 h => HRa.out W9 (below_then b7c (below_then bcl h)), HIdx.out⟩
      · exact ⟨r, Ar, cr, kl.cell 3, kl.cell 4, kl.cell 5, fun W9 h => HRr.out W9 (below_then b9c (below_then bcl h)), HRi.out⟩
      · exact ⟨X, AX, cX, kl.cell 6, kl.cell 7, kl.cell 8, fun W9 h => hrX.to (Nat.le_refl _) (below_then bcl h), HiX.out⟩
    have HKey := Lib.hid hKey
    have b516 := below_then b5c bcl
    have b016 := below_then b05 b516
    clear hKey kl hrX kX kac krc b7c b9c b13c
    go_loopw [64] (fun iv wr => ∃ i : Nat, i ≤ 3 ∧ iv = .int .i64 i ∧ Below w16.heap.size w16 wr) (fun iv _ => 3 - (intOf iv).toNat)
    case atStart => exact ⟨0, by omega, rfl, Below.refl _ _⟩
    case round =>
      obtain ⟨i, hi, rfl, hbr⟩ := hrel
      have b5r := below_then b516 hbr
      by_cases hlt : i < 3
      · obtain ⟨Y, AY, cY, y0, y1, y2, hrY, hiY⟩ := HKey.out i hlt
        have y0 := (hbr.cell (p := ⟨gl, i * 3, none⟩) hkl).trans y0
        have y1 := (hbr.cell (p := ⟨gl, i * 3 + 1, none⟩) hkl).trans y1
        have y2 := (hbr.cell (p := ⟨gl, i * 3 + 2, none⟩) hkl).trans y2
        have HrY := Lib.hid hrY
        have HiY := Lib.hid hiY
        have hlti : (i : Int) < 3 := by omega
        clear hrY hiY
        go_upto_region 15 with fail
        have kY := Blk.new wr 25 #[.int .i64 Y.d, .int .i64 Y.n, .slice AY Y.c.length cY]
        have br17 := below_alloc (Below.refl wr.heap.size wr) (.cells #[.int .i64 Y.d, .int .i64 Y.n, .slice AY Y.c.length cY] 25)
        obtain ⟨gY, hgY⟩ : ∃ gY, gY = wr.heap.size := ⟨_, rfl⟩
        rw [← hgY] at kY ⊢
        clear hgY y0 y1 y2
        generalize wr.alloc (.cells #[.int .i64 Y.d, .int .i64 Y.n, .slice AY Y.c.length cY] 25) = w17 at *
        have hkY := kY.lt
        have b517 := below_then b5r br17
        have b1617 := below_then hbr br17
        obtain ⟨e1, e2⟩ := paint_idx HiY.out
        have hIx3 := index_any (q := ⟨W, H, d, p⟩) (P := Y) (c := cp) (c2 := cY) (HRp.out w17 b517) (HrY.out w17 b1617) (Nat.le_refl _)
        rw [HiY.out] at hIx3
        have HPn := Lib.hid (fun W9 A9 c9 (h : Below w17.heap.size w17 W9) (h2 : RdI W9 W9.heap.size .i64 A9 (idxL ⟨W, H, d, p⟩ Y)) => by
          have hp := paint_any (c := c9) (c2 := cY) (a := (W : Int)) (b := (H : Int)) (P := Y) h2 (HrY.out W9 (below_then b1617 h)) (Nat.le_refl _)
          simp only at e1 e2
          rw [e1, e2] at hp
          exact hp)
        simp only [picV, palV] at hIx3 HPn
        replace hIx3 := Lib.hid hIx3
        have y0 := kY.cell 0
        have y1 := kY.cell 1
        have y2 := kY.cell 2
        obtain ⟨p0, p1, p2, p3, _⟩ := (kp.below b517 hkp).four
        clear e1 e2
        generalize idxL ⟨W, H, d, p⟩ Y = L3 at *
        go_upto_region 16 with (first
          | (go_at_call 21; (with_reducible refine hIx3.out.mono ?_); rintro e w19 ⟨Au, cu, rfl, hcu, hru, hb19⟩))
        have hPn := Lib.hid (HPn.out w19 Au cu hb19 hru)
        have kY19 := kY.below hb19 hkY
        have b519 := below_then b517 hb19
        clear p0 p1 p2 p3 y0 y1 y2 hIx3 HPn
        have y0 := kY19.cell 0
        have y1 := kY19.cell 1
        have y2 := kY19.cell 2
        obtain ⟨p0, p1, p2, p3, _⟩ := (kp.below b519 hkp).four
        go_upto_region 17 with (first
          | (go_at_call 22; (with_reducible refine hPn.out.mono ?_); rintro e w20 ⟨Ar2, cr2, rfl, hrr2, hb20⟩; try simp only))
        have b1921 := below_alloc hb20 (.cells #[.int .i64 (W : Int), .int .i64 (H : Int), .int .i64 (d : Int), .slice Ar2 p.length cr2] 30)
        have kr2 := Blk.new w20 30 #[.int .i64 (W : Int), .int .i64 (H : Int), .int .i64 (d : Int), .slice Ar2 p.length cr2]
        have hrr21 := hrr2.to (Nat.le_refl _) (below_alloc (Below.refl w20.heap.size w20) (.cells #[.int .i64 (W : Int), .int .i64 (H : Int), .int .i64 (d : Int), .slice Ar2 p.length cr2] 30))
        obtain ⟨gr2, hgr2⟩ : ∃ gr2, gr2 = w20.heap.size := ⟨_, rfl⟩
        rw [← hgr2] at kr2 ⊢
        clear hgr2 hrr2 hb20 p0 p1 p2 p3 y0 y1 y2 hPn
        generalize w20.alloc (.cells #[.int .i64 (W : Int), .int .i64 (H : Int), .int .i64 (d : Int), .slice Ar2 p.length cr2] 30) = w21 at *
        have b521 := below_then b519 b1921
        have b1621 := below_then b1617 (below_then hb19 b1921)
        have hSm := same_any (a := ⟨W, H, d, p⟩) (b := ⟨W, H, d, p⟩) (c := cr2) (c2 := cp) hrr21 (HRp.out w21 b521) (Nat.le_refl _) (small_63 (isB_small HIp.out))
        rw [show sameB ⟨(W : Int), (H : Int), (d : Int), p⟩ ⟨(W : Int), (H : Int), (d : Int), p⟩ = true by simp [sameB]] at hSm
        simp only at hSm
        obtain ⟨p0, p1, p2, p3, _⟩ := (kp.below b521 hkp).four
        obtain ⟨r0, r1, r2, r3, _⟩ := kr2.four
        replace hSm := Lib.hid hSm
        go_wp2_with (first
          | (go_at_call 23; (with_reducible refine hSm.out.mono ?_); rintro e w22 ⟨rfl, hb22⟩))
        go_roundw
        case rel => repeat (first | exact ⟨i + 1, by omega, by go_num, below_then b1621 hb22⟩ | refine Exists.intro _ ?_)
        case measure => simp [intOf]; omega
      · have hi3 : i = 3 := by omega
        subst hi3
        go_wp2_with (first
          | (go_at_call 13; (with_reducible refine (HK.out _).mono ?_); rintro e w23 ⟨rfl, hb23⟩))
        go_ret
        exact ⟨rfl, below_then (below_then b016 hbr) hb23⟩
end Go.Proofs.Ytbbflddhbamjbaa.paletteBack
