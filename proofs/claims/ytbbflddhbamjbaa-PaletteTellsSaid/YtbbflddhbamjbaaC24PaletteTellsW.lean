/- PaletteTells: the walk. -/
import Derived.Test.YtbbflddhbamjbaaPlKnown
import Derived.Test.YtbbflddhbamjbaaPlFew
import Derived.Test.YtbbflddhbamjbaaPlBackL
import Derived.Test.YtbbflddhbamjbaaPlROf
import Derived.Test.YtbbflddhbamjbaaPicHeavy
import Derived.Test.YtbbflddhbamjbaaPlSm
set_option linter.unusedSimpArgs false
set_option linter.unusedVariables false
namespace Go.Proofs.Ytbbflddhbamjbaa.paletteTells
open Go.RowKit

set_option maxHeartbeats 16000000 in
set_option maxRecDepth 100000 in
theorem walk (w : World) (A0 : Option Addr) (c0 : Nat) (t : List Int) (ht : ∀ x ∈ t, -9223372036854775808 ≤ x ∧ x ≤ 9223372036854775807) (hc : t.length ≤ c0) (h63 : c0 ≤ 9223372036854775807) (hrt : RdI w w.heap.size .i64 A0 t)
    (q : Pc) (Aq : Option Addr) (cq : Nat) (hq63 : Len63 q.p) (hrq : RdLL w w.heap.size .i64 Aq q.p)
    (P : Pal) (Ap : Option Addr) (cp : Nat) (hcp : P.c.length ≤ cp) (hP63 : Len63 P.c) (hrp : RdLL w w.heap.size .i64 Ap P.c)
    (most : Int) (hm1 : -9223372036854775808 ≤ most) (hm2 : most ≤ 9223372036854775807) :
    Calls Try.prog 4 #[.slice A0 t.length c0, .agg #[.int .i64 q.w, .int .i64 q.h, .int .i64 q.d, .slice Aq q.p.length cq], palV P Ap cp, .int .i64 most] w fun e w' => e = .returned (.bool true) ∧ Below w.heap.size w w' := by
  have HHq := Lib.hid (fun W (h : Below w.heap.size w W) => heavy_any (q := q) (c := cq) (hrq.below h (Nat.le_refl _)) h.size hq63)
  have HHp := fun W (h : Below w.heap.size w W) => heavypal_any (P := P) (c := cp) (hrp.below h (Nat.le_refl _)) h.size hP63
  have HNt := Lib.hid (fun W (h : Below w.heap.size w W) => newtape_any A0 t c0 ht hc (by omega) W (hrt.below h (Nat.le_refl _)) h.size)
  have HK := Lib.hid (fun W => known_any W)
  have HRq := Lib.hid (fun W (h : Below w.heap.size w W) => hrq.to (Nat.le_refl _) h)
  have HRp := Lib.hid (fun W (h : Below w.heap.size w W) => hrp.to (Nat.le_refl _) h)
  have kq := (Blk.new w 30 #[.int .i64 q.w, .int .i64 q.h, .int .i64 q.d, .slice Aq q.p.length cq]).alloc (.cells #[.int .i64 P.d, .int .i64 P.n, .slice Ap P.c.length cp] 25)
  have kp := Blk.new1 w (.cells #[.int .i64 q.w, .int .i64 q.h, .int .i64 q.d, .slice Aq q.p.length cq] 30) 25 #[.int .i64 P.d, .int .i64 P.n, .slice Ap P.c.length cp]
  have b0 := below_alloc (below_alloc (Below.refl w.heap.size w) (.cells #[.int .i64 q.w, .int .i64 q.h, .int .i64 q.d, .slice Aq q.p.length cq] 30)) (.cells #[.int .i64 P.d, .int .i64 P.n, .slice Ap P.c.length cp] 25)
  obtain ⟨qw, qh, qd, qp⟩ := q
  obtain ⟨pd, pn, pc⟩ := P
  simp only [palV] at *
  have hp63 := Lib.hid hP63
  have hq63' := Lib.hid hq63
  replace HHp := Lib.hid HHp
  clear ht hrt hrq hrp hP63 hq63
  go_enter Try.func4, Try.ntmps4
  go_upto_region 1 with fail
  generalize (w.alloc (.cells #[.int .i64 qw, .int .i64 qh, .int .i64 qd, .slice Aq qp.length cq] 30)).alloc (.cells #[.int .i64 pd, .int .i64 pn, .slice Ap pc.length cp] 25) = w0 at *
  obtain ⟨x0, x1, x2, x3, _⟩ := kq.four
  go_upto_region 3 with (first
    | (go_at_call 14; (with_reducible refine (HHq.out _ b0).mono ?_); rintro e w1 ⟨he, hb1⟩; have kp1 := kp.below hb1 kp.lt; have y0 := kp1.cell 0; have y1 := kp1.cell 1; have y2 := kp1.cell 2; have kq1 := kq.below hb1 kq.lt; have bb1 := Lib.hid (below_then b0 hb1); rcases he with rfl | rfl)
    | (go_at_call 7; (with_reducible refine (HHp.out _ bb1.out).mono ?_); rintro e w2 ⟨he, hb2⟩; have kp2 := kp1.below hb2 kp1.lt; have kq2 := kq1.below hb2 kq1.lt; have bb2 := below_then bb1.out hb2; rcases he with rfl | rfl))
  · go_ret
    exact ⟨rfl, bb1.out⟩
  · go_ret
    exact ⟨rfl, bb2⟩
  have HNt2 := Lib.hid (HNt.out w2 bb2)
  have hk2 := kp2.lt
  have hq2 := kq2.lt
  clear HNt HHq HHp x0 x1 x2 x3 y0 y1 y2 hb1 hb2 kp kq kp1 kq1 bb1 b0
  go_upto_region 4 with (first
    | (go_at_call 8; (with_reducible refine HNt2.out.mono ?_); rintro e w3 ⟨rfl, hT3, hb3⟩))
  have bb3 := below_then bb2 hb3
  have kp3 := kp2.below hb3 hk2
  have kq3 := kq2.below hb3 hq2
  obtain ⟨g, hg⟩ : ∃ g, g = w2.heap.size := ⟨_, rfl⟩
  rw [← hg] at hT3 hk2 hq2 ⊢
  clear hb3 HNt2 kp2 kq2 bb2 hg
  have HFew := Lib.hid (few_any hT3)
  have HPic := Lib.hid (fun W (hW : TapeB W w.heap.size g) => tapepic_any hW 14 (by omega) (by omega))
  go_upto_region 5 with (first
    | (go_at_call 9; (with_reducible refine HFew.out.mono ?_); rintro e w4 ⟨W, H, d, p, Ax, cx, rfl, hIx, _, _, h3x, hOx, hT4, hg4⟩)
    | (go_at_call 15; (with_reducible refine (HPic.out _ hT4).mono ?_); rintro e w5 ⟨W', H', d', p', Ay, cy, rfl, hIy, _, _, hOy, hT5, hg5⟩))
  have bb4 := below_one bb3 hg4 (by omega)
  have bb5 := below_one bb4 hg5 (by omega)
  have kp4 := kp3.grown hg4 (by simp; omega)
  have kq4 := kq3.grown hg4 (by simp; omega)
  have kp5 := kp4.grown hg5 (by simp; omega)
  have kq5 := kq4.grown hg5 (by simp; omega)
  have hgl := hT3.lt
  have hw34 := hg4.size
  have hw45 := hg5.size
  have hOx5 := hOx.kept hg5 (.inl (by omega))
  have bb57 := below_alloc (below_alloc (Below.refl w5.heap.size w5) (.cells #[.int .i64 (W : Int), .int .i64 (H : Int), .int .i64 (d : Int), .slice Ax p.length cx] 30)) (.cells #[.int .i64 (W' : Int), .int .i64 (H' : Int), .int .i64 (d' : Int), .slice Ay p'.length cy] 30)
  have kx := (Blk.new w5 30 #[.int .i64 (W : Int), .int .i64 (H : Int), .int .i64 (d : Int), .slice Ax p.length cx]).alloc (.cells #[.int .i64 (W' : Int), .int .i64 (H' : Int), .int .i64 (d' : Int), .slice Ay p'.length cy] 30)
  have ky := Blk.new1 w5 (.cells #[.int .i64 (W : Int), .int .i64 (H : Int), .int .i64 (d : Int), .slice Ax p.length cx] 30) 30 #[.int .i64 (W' : Int), .int .i64 (H' : Int), .int .i64 (d' : Int), .slice Ay p'.length cy]
  have hrx := rdOwn hOx5 bb57
  have hry := rdOwn hOy bb57
  have kp7 := kp5.below bb57 kp5.lt
  have kq7 := kq5.below bb57 kq5.lt
  have b07 := below_then bb5 bb57
  obtain ⟨gx, hgx⟩ : ∃ gx, gx = w5.heap.size := ⟨_, rfl⟩
  rw [← hgx] at kx ky ⊢
  clear hgx hOx hOx5 hOy hT3 hT4 hT5 hg4 hg5 HFew HPic bb57 bb3 bb4 bb5 kp3 kp4 kp5 kq3 kq4 kq5 hgl hw34 hw45 h3x
  generalize (w5.alloc (.cells #[.int .i64 (W : Int), .int .i64 (H : Int), .int .i64 (d : Int), .slice Ax p.length cx] 30)).alloc (.cells #[.int .i64 (W' : Int), .int .i64 (H' : Int), .int .i64 (d' : Int), .slice Ay p'.length cy] 30) = w7 at *
  have HRx := Lib.hid (fun W9 (h : Below w7.heap.size w7 W9) => hrx.to (Nat.le_refl _) h)
  have HRy := Lib.hid (fun W9 (h : Below w7.heap.size w7 W9) => hry.to (Nat.le_refl _) h)
  have h63x := Lib.hid (small_63 (isB_small hIx))
  have h63y := Lib.hid (small_63 (isB_small hIy))
  have hOf1 := rof_any (q := ⟨W, H, d, p⟩) (c := cx) (most := 256) (HRx.out w7 (Below.refl _ _)) (Nat.le_refl _) h63x.out
  have hOf2 := fun W9 (h : Below w7.heap.size w7 W9) => rof_any (q := ⟨W', H', d', p'⟩) (c := cy) (most := 256) (HRy.out W9 h) (Nat.le_refl _) h63y.out
  simp only [picV] at hOf1 hOf2
  replace hOf1 := Lib.hid hOf1
  replace hOf2 := Lib.hid hOf2
  have HL := Lib.hid (fun q P b (h : OfIs q 256 P b) => of_any63 h)
  clear hrx hry hIx hIy
  obtain ⟨x0, x1, x2, x3, _⟩ := kx.four
  go_upto_region 6 with (first
    | (go_at_call 10; (with_reducible refine hOf1.out.mono ?_); rintro e w8 ⟨a, ba, Aa, ca, rfl, hoa, hca, hra, hb8⟩; have ha63 := Lib.hid (HL.out _ _ _ hoa); clear hoa; try simp only [palV]))
  have b79 := below_alloc hb8 (.cells #[.int .i64 a.d, .int .i64 a.n, .slice Aa a.c.length ca] 25)
  have ka := Blk.new w8 25 #[.int .i64 a.d, .int .i64 a.n, .slice Aa a.c.length ca]
  have hra9 := hra.to (Nat.le_refl _) (below_alloc (Below.refl w8.heap.size w8) (.cells #[.int .i64 a.d, .int .i64 a.n, .slice Aa a.c.length ca] 25))
  obtain ⟨ga, hga⟩ : ∃ ga, ga = w8.heap.size := ⟨_, rfl⟩
  rw [← hga] at ka ⊢
  clear hga hra hb8 x0 x1 x2 x3 hOf1
  generalize w8.alloc (.cells #[.int .i64 a.d, .int .i64 a.n, .slice Aa a.c.length ca] 25) = w9 at *
  have ky9 := ky.below b79 ky.lt
  have HO2 := Lib.hid (hOf2.out _ b79)
  obtain ⟨x0, x1, x2, x3, _⟩ := ky9.four
  go_upto_region 7 with (first
    | (go_at_call 10; (with_reducible refine HO2.out.mono ?_); rintro e w10 ⟨b, bb, Ab, cb, rfl, hob, hcb, hrb, hb10⟩; have hb63 := Lib.hid (HL.out _ _ _ hob); clear hob; try simp only [palV]))
  have b9s := below_alloc hb10 (.cells #[.int .i64 b.d, .int .i64 b.n, .slice Ab b.c.length cb] 25)
  have kb := Blk.new w10 25 #[.int .i64 b.d, .int .i64 b.n, .slice Ab b.c.length cb]
  have hrbs := hrb.to (Nat.le_refl _) (below_alloc (Below.refl w10.heap.size w10) (.cells #[.int .i64 b.d, .int .i64 b.n, .slice Ab b.c.length cb] 25))
  obtain ⟨gb, hgb⟩ : ∃ gb, gb = w10.heap.size := ⟨_, rfl⟩
  rw [← hgb] at kb ⊢
  clear hgb hrb hb10 x0 x1 x2 x3 hOf2 HO2 HL
  generalize w10.alloc (.cells #[.int .i64 b.d, .int .i64 b.n, .slice Ab b.c.length cb] 25) = ws at *
  have b7s := below_then b79 b9s
  have b0s := below_then b07 b7s
  have hsx := HRx.out ws b7s
  have hsy := HRy.out ws b7s
  have hsa := hra9.to (Nat.le_refl _) b9s
  have hsq := HRq.out ws b0s
  have hsp := HRp.out ws b0s
  have S1 := fun W9 (h : Below ws.heap.size ws W9) m => same24_any (q := ⟨W, H, d, p⟩) (P := a) (c := cx) (c2 := ca) (hsx.to (Nat.le_refl _) h) (hsa.to (Nat.le_refl _) h) (Nat.le_refl _) hca ha63.out h63x.out m
  have S2 := fun W9 (h : Below ws.heap.size ws W9) m => same24_any (q := ⟨W', H', d', p'⟩) (P := b) (c := cy) (c2 := cb) (hsy.to (Nat.le_refl _) h) (hrbs.to (Nat.le_refl _) h) (Nat.le_refl _) hcb hb63.out h63y.out m
  have S3 := fun W9 (h : Below ws.heap.size ws W9) m => same24_any (q := ⟨W, H, d, p⟩) (P := b) (c := cx) (c2 := cb) (hsx.to (Nat.le_refl _) h) (hrbs.to (Nat.le_refl _) h) (Nat.le_refl _) hcb hb63.out h63x.out m
  have S4 := fun W9 (h : Below ws.heap.size ws W9) m => same24_any (q := ⟨qw, qh, qd, qp⟩) (P := ⟨pd, pn, pc⟩) (c := cq) (c2 := cp) (hsq.to (Nat.le_refl _) h) (hsp.to (Nat.le_refl _) h) (Nat.le_refl _) hcp hp63.out hq63'.out m
  have S5 := fun W9 (h : Below ws.heap.size ws W9) m => same24_any (q := ⟨W, H, d, p⟩) (P := ⟨pd, pn, pc⟩) (c := cx) (c2 := cp) (hsx.to (Nat.le_refl _) h) (hsp.to (Nat.le_refl _) h) (Nat.le_refl _) hcp hp63.out h63x.out m
  have J1 := fun W9 (h : Below ws.heap.size ws W9) => joins_any (a := a) (b := b) (c := ca) (c2 := cb) (hsa.to (Nat.le_refl _) h) (hrbs.to (Nat.le_refl _) h) (Nat.le_refl _) hca hcb ha63.out hb63.out
  have J2 := fun W9 (h : Below ws.heap.size ws W9) => joins_any (a := a) (b := ⟨pd, pn, pc⟩) (c := ca) (c2 := cp) (hsa.to (Nat.le_refl _) h) (hsp.to (Nat.le_refl _) h) (Nat.le_refl _) hca hcp ha63.out hp63.out
  have J3 := fun W9 (h : Below ws.heap.size ws W9) => joins_any (a := ⟨pd, pn, pc⟩) (b := a) (c := cp) (c2 := ca) (hsp.to (Nat.le_refl _) h) (hsa.to (Nat.le_refl _) h) (Nat.le_refl _) hcp hca hp63.out ha63.out
  have J4 := fun W9 (h : Below ws.heap.size ws W9) => joins_any (a := ⟨pd, pn, pc⟩) (b := ⟨pd, pn, pc⟩) (c := cp) (c2 := cp) (hsp.to (Nat.le_refl _) h) (hsp.to (Nat.le_refl _) h) (Nat.le_refl _) hcp hcp hp63.out hp63.out
  simp only [picV, palV] at S1 S2 S3 S4 S5 J1 J2 J3 J4
  replace S1 := Lib.hid S1
  replace S2 := Lib.hid S2
  replace S3 := Lib.hid S3
  replace S4 := Lib.hid S4
  replace S5 := Lib.hid S5
  replace J1 := Lib.hid J1
  replace J2 := Lib.hid J2
  replace J3 := Lib.hid J3
  replace J4 := Lib.hid J4
  have kxs := kx.below b7s kx.lt
  have kys := ky9.below b9s ky9.lt
  have kas := ka.below b9s ka.lt
  have kps := kp7.below b7s kp7.lt
  have kqs := kq7.below b7s kq7.lt
  obtain ⟨x0, x1, x2, x3, _⟩ := kxs.four
  obtain ⟨y0, y1, y2, y3, _⟩ := kys.four
  obtain ⟨q0, q1, q2, q3, _⟩ := kqs.four
  have ac0 := kas.cell 0
  have ac1 := kas.cell 1
  have ac2 := kas.cell 2
  have bc0 := kb.cell 0
  have bc1 := kb.cell 1
  have bc2 := kb.cell 2
  have pc0 := kps.cell 0
  have pc1 := kps.cell 1
  have pc2 := kps.cell 2
  clear hsx hsy hsa hsq hsp hrbs hra9 kx ky ky9 ka kp7 kq7 b79 b9s b7s b07 HRx HRy HRq HRp h63x h63y ha63 hb63 hp63 hq63' hk2 hq2
  have hv0 := Lib.hid (Below.refl ws.heap.size ws)
  go_wp2_with (first
    | (go_at_call 16; (with_reducible refine (S1.out _ hv0.out _).mono ?_); rintro e v1 ⟨rfl, hb1⟩; have hv1 := Lib.hid (below_then hv0.out hb1); clear x0 x1 x2 x3 y0 y1 y2 y3 q0 q1 q2 q3 ac0 ac1 ac2 bc0 bc1 bc2 pc0 pc1 pc2; obtain ⟨x0, x1, x2, x3, _⟩ := (kxs.below hv1.out kxs.lt).four; have ac0 := (kas.below hv1.out kas.lt).cell 0; have ac1 := (kas.below hv1.out kas.lt).cell 1; have ac2 := (kas.below hv1.out kas.lt).cell 2)
    | (go_at_call 16; (with_reducible refine (S1.out _ hv1.out _).mono ?_); rintro e v2 ⟨rfl, hb2⟩; have hv2 := Lib.hid (below_then hv1.out hb2); clear x0 x1 x2 x3 ac0 ac1 ac2; obtain ⟨y0, y1, y2, y3, _⟩ := (kys.below hv2.out kys.lt).four; have bc0 := (kb.below hv2.out kb.lt).cell 0; have bc1 := (kb.below hv2.out kb.lt).cell 1; have bc2 := (kb.below hv2.out kb.lt).cell 2)
    | (go_at_call 16; (with_reducible refine (S2.out _ hv2.out _).mono ?_); rintro e v3 ⟨rfl, hb3⟩; have hv3 := Lib.hid (below_then hv2.out hb3); clear y0 y1 y2 y3 bc0 bc1 bc2; obtain ⟨x0, x1, x2, x3, _⟩ := (kxs.below hv3.out kxs.lt).four; have bc0 := (kb.below hv3.out kb.lt).cell 0; have bc1 := (kb.below hv3.out kb.lt).cell 1; have bc2 := (kb.below hv3.out kb.lt).cell 2)
    | (go_at_call 16; (with_reducible refine (S3.out _ hv3.out _).mono ?_); rintro e v4 ⟨rfl, hb4⟩; have hv4 := Lib.hid (below_then hv3.out hb4); clear x0 x1 x2 x3 bc0 bc1 bc2; obtain ⟨q0, q1, q2, q3, _⟩ := (kqs.below hv4.out kqs.lt).four; have pc0 := (kps.below hv4.out kps.lt).cell 0; have pc1 := (kps.below hv4.out kps.lt).cell 1; have pc2 := (kps.below hv4.out kps.lt).cell 2)
    | (go_at_call 16; (with_reducible refine (S4.out _ hv4.out _).mono ?_); rintro e v5 ⟨rfl, hb5⟩; have hv5 := Lib.hid (below_then hv4.out hb5); clear q0 q1 q2 q3 pc0 pc1 pc2; obtain ⟨x0, x1, x2, x3, _⟩ := (kxs.below hv5.out kxs.lt).four; have pc0 := (kps.below hv5.out kps.lt).cell 0; have pc1 := (kps.below hv5.out kps.lt).cell 1; have pc2 := (kps.below hv5.out kps.lt).cell 2)
    | (go_at_call 16; (with_reducible refine (S5.out _ hv5.out _).mono ?_); rintro e v6 ⟨rfl, hb6⟩; have hv6 := Lib.hid (below_then hv5.out hb6); clear x0 x1 x2 x3 pc0 pc1 pc2; have ac0 := (kas.below hv6.out kas.lt).cell 0; have ac1 := (kas.below hv6.out kas.lt).cell 1; have ac2 := (kas.below hv6.out kas.lt).cell 2; have bc0 := (kb.below hv6.out kb.lt).cell 0; have bc1 := (kb.below hv6.out kb.lt).cell 1; have bc2 := (kb.below hv6.out kb.lt).cell 2)
    | (go_at_call 17; (with_reducible refine (J1.out _ hv6.out).mono ?_); rintro e v7 ⟨rfl, hb7⟩; have hv7 := Lib.hid (below_then hv6.out hb7); clear ac0 ac1 ac2 bc0 bc1 bc2; have ac0 := (kas.below hv7.out kas.lt).cell 0; have ac1 := (kas.below hv7.out kas.lt).cell 1; have ac2 := (kas.below hv7.out kas.lt).cell 2; have pc0 := (kps.below hv7.out kps.lt).cell 0; have pc1 := (kps.below hv7.out kps.lt).cell 1; have pc2 := (kps.below hv7.out kps.lt).cell 2)
    | (go_at_call 17; (with_reducible refine (J2.out _ hv7.out).mono ?_); rintro e v8 ⟨rfl, hb8⟩; have hv8 := Lib.hid (below_then hv7.out hb8); clear ac0 ac1 ac2 pc0 pc1 pc2; have ac0 := (kas.below hv8.out kas.lt).cell 0; have ac1 := (kas.below hv8.out kas.lt).cell 1; have ac2 := (kas.below hv8.out kas.lt).cell 2; have pc0 := (kps.below hv8.out kps.lt).cell 0; have pc1 := (kps.below hv8.out kps.lt).cell 1; have pc2 := (kps.below hv8.out kps.lt).cell 2)
    | (go_at_call 17; (with_reducible refine (J3.out _ hv8.out).mono ?_); rintro e v9 ⟨rfl, hb9⟩; have hv9 := Lib.hid (below_then hv8.out hb9); clear ac0 ac1 ac2 pc0 pc1 pc2; have pc0 := (kps.below hv9.out kps.lt).cell 0; have pc1 := (kps.below hv9.out kps.lt).cell 1; have pc2 := (kps.below hv9.out kps.lt).cell 2)
    | (go_at_call 17; (with_reducible refine (J4.out _ hv9.out).mono ?_); rintro e v10 ⟨rfl, hb10⟩; have hv10 := Lib.hid (below_then hv9.out hb10); clear pc0 pc1 pc2)
    | (go_at_call 13; (with_reducible refine (HK.out _).mono ?_); rintro e v11 ⟨rfl, hb11⟩))
  go_ret
  exact ⟨rfl, below_then b0s (below_then hv10.out hb11)⟩
end Go.Proofs.Ytbbflddhbamjbaa.paletteTells
