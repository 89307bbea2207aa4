/- Palettes alike, and law 24's joins and same: by program and reference alike, for any picture and palette. -/
import Derived.Test.YtbbflddhbamjbaaPlRRank
import Derived.Test.YtbbflddhbamjbaaPlRJoin
import Derived.Test.YtbbflddhbamjbaaPlROf
set_option linter.unusedSimpArgs false
set_option linter.unusedVariables false
namespace Go.Proofs.Ytbbflddhbamjbaa
open Go.RowKit
theorem z63 : Len63 palZ.c := ⟨by simp [palZ], fun l hl => absurd hl (by simp [palZ])⟩
theorem of_any63 {q : Pc} {most : Int} {P : Pal} {b : Bool} (h : OfIs q most P b) : Len63 P.c := by
  cases hq : isB q with
  | true => exact of_63 h hq
  | false =>
    obtain ⟨_, h2⟩ := h
    rw [if_neg (by rw [ofOk, hq]; simp)] at h2
    rw [h2]
    exact z63
theorem rank_63 {q : Pc} {P Q : Pal} {b : Bool} (h : RankIs q P Q b) : Len63 Q.c := by
  by_cases hb : idxB q P = true
  · obtain ⟨_, h1, h2, h3⟩ := rank_perm h hb
    have hi := hb
    rw [idxB, Bool.and_eq_true] at hi
    have h4 := hi.1
    simp only [idxOk, Bool.and_eq_true] at h4
    exact palB_63 (palB_perm h4.1.1.1 h1 h2 h3)
  · obtain ⟨_, h2⟩ := h
    rw [if_neg hb] at h2
    rw [h2]
    exact z63

set_option maxHeartbeats 4000000 in
set_option maxRecDepth 100000 in
theorem psame_any {P : Pal} {A A2 : Option Addr} {c c2 : Nat} {w : World} {B : Nat} (hr : RdLL w B .i64 A P.c) (hr2 : RdLL w B .i64 A2 P.c) (hB : B ≤ w.heap.size) (h63 : Len63 P.c) :
    Calls Try.prog 42 #[palV P A c, palV P A2 c2] w fun e w' => e = .returned (.bool true) ∧ Below w.heap.size w w' := by
  have HRo := fun W (hb : Below w.heap.size w W) => rows_any (c := c) (c2 := c2) (hr.below hb hB) (hr2.below hb hB) h63
  obtain ⟨d, n, cs⟩ := P
  simp only [palV] at *
  simp only [decide_true] at HRo
  replace HRo := Lib.hid HRo
  have k1 := (Blk.new w 25 #[.int .i64 d, .int .i64 n, .slice A cs.length c]).alloc (.cells #[.int .i64 d, .int .i64 n, .slice A2 cs.length c2] 25)
  have k2 := Blk.new1 w (.cells #[.int .i64 d, .int .i64 n, .slice A cs.length c] 25) 25 #[.int .i64 d, .int .i64 n, .slice A2 cs.length c2]
  have b0 := below_alloc (below_alloc (Below.refl w.heap.size w) (.cells #[.int .i64 d, .int .i64 n, .slice A cs.length c] 25)) (.cells #[.int .i64 d, .int .i64 n, .slice A2 cs.length c2] 25)
  go_enter Try.func42, Try.ntmps42
  go_upto_region 1 with fail
  generalize (w.alloc (.cells #[.int .i64 d, .int .i64 n, .slice A cs.length c] 25)).alloc (.cells #[.int .i64 d, .int .i64 n, .slice A2 cs.length c2] 25) = w0 at *
  have x0 := k1.cell 0
  have x1 := k1.cell 1
  have x2 := k1.cell 2
  have y0 := k2.cell 0
  have y1 := k2.cell 1
  have y2 := k2.cell 2
  have e1 : (d == d) = true := by simp
  have e2 : (n == n) = true := by simp
  go_wp2_with (first
    | (go_at_call 35; (with_reducible refine (HRo.out _ b0).mono ?_); rintro e w1 ⟨rfl, nq, rfl⟩))
  go_ret
  exact ⟨rfl, below_drewN b0 nq⟩

set_option maxHeartbeats 4000000 in
set_option maxRecDepth 100000 in
theorem joins_any {a b : Pal} {A A2 : Option Addr} {c c2 : Nat} {w : World} {B : Nat} (hr : RdLL w B .i64 A a.c) (hr2 : RdLL w B .i64 A2 b.c) (hB : B ≤ w.heap.size) (hc : a.c.length ≤ c) (hc2 : b.c.length ≤ c2) (h63 : Len63 a.c) (h63b : Len63 b.c) :
    Calls Try.prog 17 #[palV a A c, palV b A2 c2] w fun e w' => e = .returned (.bool true) ∧ Below w.heap.size w w' := by
  have HJ1 := fun W (hb : Below w.heap.size w W) => join_any (c := c) (c2 := c2) (hr.below hb hB) (hr2.below hb hB) (Nat.le_trans hB hb.size)
  have HJ2 := fun W (hb : Below w.heap.size w W) => rjoin_any (c := c) (c2 := c2) (hr.below hb hB) (hr2.below hb hB) (Nat.le_trans hB hb.size) hc hc2 h63 h63b
  have h9 := join_63 a b
  unfold JoinPost at HJ1 HJ2
  have k1 := (Blk.new w 25 #[.int .i64 a.d, .int .i64 a.n, .slice A a.c.length c]).alloc (.cells #[.int .i64 b.d, .int .i64 b.n, .slice A2 b.c.length c2] 25)
  have k2 := Blk.new1 w (.cells #[.int .i64 a.d, .int .i64 a.n, .slice A a.c.length c] 25) 25 #[.int .i64 b.d, .int .i64 b.n, .slice A2 b.c.length c2]
  have b0 := below_alloc (below_alloc (Below.refl w.heap.size w) (.cells #[.int .i64 a.d, .int .i64 a.n, .slice A a.c.length c] 25)) (.cells #[.int .i64 b.d, .int .i64 b.n, .slice A2 b.c.length c2] 25)
  obtain ⟨ad, an, ac⟩ := a
  obtain ⟨bd, bn, bc⟩ := b
  simp only at k1 k2 b0
  generalize joinP ⟨ad, an, ac⟩ ⟨bd, bn, bc⟩ = J at *
  generalize joinB ⟨ad, an, ac⟩ ⟨bd, bn, bc⟩ = jb at *
  have HS := fun (W : World) (A3 A4 : Option Addr) (c3 c4 : Nat) (h1 : RdLL W W.heap.size .i64 A3 J.c) (h2 : RdLL W W.heap.size .i64 A4 J.c) => psame_any (c := c3) (c2 := c4) h1 h2 (Nat.le_refl _) h9
  simp only [palV] at *
  replace HJ1 := Lib.hid HJ1
  replace HJ2 := Lib.hid HJ2
  replace HS := Lib.hid HS
  clear hr hr2 hc hc2 h63 h63b h9
  go_enter Try.func17, Try.ntmps17
  go_upto_region 1 with fail
  generalize (w.alloc (.cells #[.int .i64 ad, .int .i64 an, .slice A ac.length c] 25)).alloc (.cells #[.int .i64 bd, .int .i64 bn, .slice A2 bc.length c2] 25) = w0 at *
  have x0 := k1.cell 0
  have x1 := k1.cell 1
  have x2 := k1.cell 2
  have y0 := k2.cell 0
  have y1 := k2.cell 1
  have y2 := k2.cell 2
  go_upto_region 2 with (first
    | (go_at_call 20; (with_reducible refine (HJ1.out _ b0).mono ?_); rintro e w1 ⟨A3, c3, rfl, hc3, hr3, hb1⟩))
  have k3 := Blk.new w1 25 #[.int .i64 J.d, .int .i64 J.n, .slice A3 J.c.length c3]
  have b13 := below_alloc (Below.refl w1.heap.size w1) (.cells #[.int .i64 J.d, .int .i64 J.n, .slice A3 J.c.length c3] 25)
  have b03 := below_then hb1 b13
  have k13 := k1.below b03 k1.lt
  have k23 := k2.below b03 k2.lt
  have hr33 := hr3.to (Nat.le_refl _) b13
  obtain ⟨g3, hg3⟩ : ∃ g3, g3 = w1.heap.size := ⟨_, rfl⟩
  rw [← hg3] at k3 ⊢
  clear hg3 x0 x1 x2 y0 y1 y2 hr3 b13 hb1
  generalize w1.alloc (.cells #[.int .i64 J.d, .int .i64 J.n, .slice A3 J.c.length c3] 25) = w3 at *
  have b3 := below_then b0 b03
  have x0 := k13.cell 0
  have x1 := k13.cell 1
  have x2 := k13.cell 2
  have y0 := k23.cell 0
  have y1 := k23.cell 1
  have y2 := k23.cell 2
  go_upto_region 3 with (first
    | (go_at_call 43; (with_reducible refine (HJ2.out _ b3).mono ?_); rintro e w4 ⟨A4, c4, rfl, hc4, hr4, hb4⟩))
  have k5 := Blk.new w4 25 #[.int .i64 J.d, .int .i64 J.n, .slice A4 J.c.length c4]
  have b45 := below_alloc (Below.refl w4.heap.size w4) (.cells #[.int .i64 J.d, .int .i64 J.n, .slice A4 J.c.length c4] 25)
  have b35 := below_then hb4 b45
  have k35 := k3.below b35 k3.lt
  have hr45 := hr4.to (Nat.le_refl _) b45
  have hr35 := hr33.to (Nat.le_refl _) b35
  have b5 := below_then b3 b35
  obtain ⟨g5, hg5⟩ : ∃ g5, g5 = w4.heap.size := ⟨_, rfl⟩
  rw [← hg5] at k5 ⊢
  clear hg5 x0 x1 x2 y0 y1 y2 hr4 b45 hb4 k13 k23 b35
  generalize w4.alloc (.cells #[.int .i64 J.d, .int .i64 J.n, .slice A4 J.c.length c4] 25) = w5 at *
  have x0 := k35.cell 0
  have x1 := k35.cell 1
  have x2 := k35.cell 2
  have y0 := k5.cell 0
  have y1 := k5.cell 1
  have y2 := k5.cell 2
  have e1 : (jb == jb) = true := by simp
  go_wp2_with (first
    | (go_at_call 42; (with_reducible refine (HS.out _ _ _ _ _ hr35 hr45).mono ?_); rintro e w6 ⟨rfl, hb6⟩))
  go_ret
  exact ⟨rfl, below_then b5 hb6⟩

set_option maxHeartbeats 16000000 in
set_option maxRecDepth 100000 in
theorem same24_any {q : Pc} {P : Pal} {A A2 : Option Addr} {c c2 : Nat} {w : World} {B : Nat} (hr : RdLL w B .i64 A q.p) (hr2 : RdLL w B .i64 A2 P.c) (hB : B ≤ w.heap.size) (hc2 : P.c.length ≤ c2) (h63 : Len63 P.c) (h63q : Len63 q.p) (most : Int) :
    Calls Try.prog 16 #[picV q A c, palV P A2 c2, .int .i64 most] w fun e w' => e = .returned (.bool true) ∧ Below w.heap.size w w' := by
  have H1 := fun W (hb : Below w.heap.size w W) => of_any (c := c) (most := most) (hr.below hb hB) (Nat.le_trans hB hb.size)
  have H2 := fun W (hb : Below w.heap.size w W) => rof_any (c := c) (most := most) (hr.below hb hB) (Nat.le_trans hB hb.size) h63q
  have H3 := fun W (hb : Below w.heap.size w W) => ranked_any (c := c) (c2 := c2) (hr.below hb hB) (hr2.below hb hB) (Nat.le_trans hB hb.size)
  have H4 := fun W (hb : Below w.heap.size w W) => rranked_any (c := c) (c2 := c2) (hr.below hb hB) (hr2.below hb hB) (Nat.le_trans hB hb.size) hc2 h63 h63q
  have H5 := fun W (hb : Below w.heap.size w W) => index_any (c := c) (c2 := c2) (hr.below hb hB) (hr2.below hb hB) (Nat.le_trans hB hb.size)
  have H6 := fun W (hb : Below w.heap.size w W) => ridx_any (c := c) (c2 := c2) (hr.below hb hB) (hr2.below hb hB) (Nat.le_trans hB hb.size) hc2 h63 h63q
  have H7 := fun W (hb : Below w.heap.size w W) => may_any (c := c2) (hr2.below hb hB) (Nat.le_trans hB hb.size)
  have H8 := fun W (hb : Below w.heap.size w W) => rmay_any (c := c2) (hr2.below hb hB) (Nat.le_trans hB hb.size) hc2 h63
  have hLl := idxL_len (q := q) (P := P)
  have HU1 := Lib.hid (fun P1 P2 b1 b2 (h1 : OfIs q most P1 b1) (h2 : OfIs q most P2 b2) => h1.unique h2)
  have HU2 := Lib.hid (fun P1 P2 b1 b2 (h1 : RankIs q P P1 b1) (h2 : RankIs q P P2 b2) => h1.unique h2)
  have HL1 := Lib.hid (fun P1 b1 (h1 : OfIs q most P1 b1) => of_any63 h1)
  have HL2 := Lib.hid (fun P1 b1 (h1 : RankIs q P P1 b1) => rank_63 h1)
  unfold IdxPost at H5 H6
  unfold OfPost at H1 H2
  unfold RankPost at H3 H4
  have k1 := (Blk.new w 30 #[.int .i64 q.w, .int .i64 q.h, .int .i64 q.d, .slice A q.p.length c]).alloc (.cells #[.int .i64 P.d, .int .i64 P.n, .slice A2 P.c.length c2] 25)
  have k2 := Blk.new1 w (.cells #[.int .i64 q.w, .int .i64 q.h, .int .i64 q.d, .slice A q.p.length c] 30) 25 #[.int .i64 P.d, .int .i64 P.n, .slice A2 P.c.length c2]
  have b0 := below_alloc (below_alloc (Below.refl w.heap.size w) (.cells #[.int .i64 q.w, .int .i64 q.h, .int .i64 q.d, .slice A q.p.length c] 30)) (.cells #[.int .i64 P.d, .int .i64 P.n, .slice A2 P.c.length c2] 25)
  generalize idxL q P = IL at *
  generalize idxB q P = IB at *
  generalize palB P = PB at *
  generalize OfIs q most = OI at *
  generalize RankIs q P = RI at *
  obtain ⟨qw, qh, qd, qp⟩ := q
  obtain ⟨pd, pn, pc⟩ := P
  simp only at k1 k2 b0
  have HS := fun (J : Pal) (h9 : Len63 J.c) (W : World) (A3 A4 : Option Addr) (c3 c4 : Nat) (h1 : RdLL W W.heap.size .i64 A3 J.c) (h2 : RdLL W W.heap.size .i64 A4 J.c) => psame_any (c := c3) (c2 := c4) h1 h2 (Nat.le_refl _) h9
  have HI := fun (W : World) (A3 A4 : Option Addr) (c3 c4 : Nat) (h1 : RdI W W.heap.size .i64 A3 IL) (h2 : RdI W W.heap.size .i64 A4 IL) => ints_any (c := c3) (c2 := c4) h1 h2 (by omega)
  simp only [decide_true] at HI
  simp only [picV, palV] at *
  replace H1 := Lib.hid H1
  replace H2 := Lib.hid H2
  replace H3 := Lib.hid H3
  replace H4 := Lib.hid H4
  replace H5 := Lib.hid H5
  replace H6 := Lib.hid H6
  replace H7 := Lib.hid H7
  replace H8 := Lib.hid H8
  replace HS := Lib.hid HS
  replace HI := Lib.hid HI
  clear hr hr2 hc2 h63 h63q hLl
  go_enter Try.func16, Try.ntmps16
  go_upto_region 1 with fail
  generalize (w.alloc (.cells #[.int .i64 qw, .int .i64 qh, .int .i64 qd, .slice A qp.length c] 30)).alloc (.cells #[.int .i64 pd, .int .i64 pn, .slice A2 pc.length c2] 25) = w0 at *
  obtain ⟨x0, x1, x2, x3, _⟩ := k1.four
  go_upto_region 2 with (first
    | (go_at_call 18; (with_reducible refine (H1.out _ b0).mono ?_); rintro e w1 ⟨P1, o1, A3, c3, rfl, ho1, hc3, hr3, hb1⟩))
  try simp only [palV]
  have HO1 := Lib.hid ho1
  have kg3 := Blk.new w1 25 #[.int .i64 P1.d, .int .i64 P1.n, .slice A3 P1.c.length c3]
  have ba1 := below_alloc (Below.refl w1.heap.size w1) (.cells #[.int .i64 P1.d, .int .i64 P1.n, .slice A3 P1.c.length c3] 25)
  have b02 := below_then hb1 ba1
  have hg3 := hr3.to (Nat.le_refl _) ba1
  obtain ⟨g3, hhg3⟩ : ∃ g3, g3 = w1.heap.size := ⟨_, rfl⟩
  rw [← hhg3] at kg3 ⊢
  clear hhg3 hr3 ba1 hb1
  generalize w1.alloc (.cells #[.int .i64 P1.d, .int .i64 P1.n, .slice A3 P1.c.length c3] 25) = w2 at *
  have b2 := below_then b0 b02
  have k21 := k1.below b02 k1.lt
  have k22 := k2.below b02 k2.lt
  clear x0 x1 x2 x3 ho1 hc3
  obtain ⟨x0, x1, x2, x3, _⟩ := k21.four
  go_upto_region 3 with (first
    | (go_at_call 10; (with_reducible refine (H2.out _ b2).mono ?_); rintro e w3 ⟨P2, o2, A4, c4, rfl, ho2, hc4, hr4, hb3⟩; obtain ⟨rfl, rfl⟩ := HU1.out _ _ _ _ HO1.out ho2))
  try simp only [palV]
  have kg4 := Blk.new w3 25 #[.int .i64 P1.d, .int .i64 P1.n, .slice A4 P1.c.length c4]
  have ba2 := below_alloc (Below.refl w3.heap.size w3) (.cells #[.int .i64 P1.d, .int .i64 P1.n, .slice A4 P1.c.length c4] 25)
  have b24 := below_then hb3 ba2
  have hg4 := hr4.to (Nat.le_refl _) ba2
  obtain ⟨g4, hhg4⟩ : ∃ g4, g4 = w3.heap.size := ⟨_, rfl⟩
  rw [← hhg4] at kg4 ⊢
  clear hhg4 hr4 ba2 hb3
  generalize w3.alloc (.cells #[.int .i64 P1.d, .int .i64 P1.n, .slice A4 P1.c.length c4] 25) = w4 at *
  have b4 := below_then b2 b24
  have k41 := k21.below b24 k21.lt
  have k42 := k22.below b24 k22.lt
  have k43 := kg3.below b24 kg3.lt
  clear x0 x1 x2 x3 ho2 hc4 k21 k22 k1 k2
  obtain ⟨x0, x1, x2, x3, _⟩ := k41.four
  have y0 := k42.cell 0
  have y1 := k42.cell 1
  have y2 := k42.cell 2
  go_upto_region 4 with (first
    | (go_at_call 19; (with_reducible refine (H3.out _ b4).mono ?_); rintro e w5 ⟨P3, o3, A5, c5, rfl, ho3, hc5, hr5, hb5⟩))
  try simp only [palV]
  have HO3 := Lib.hid ho3
  have kg5 := Blk.new w5 25 #[.int .i64 P3.d, .int .i64 P3.n, .slice A5 P3.c.length c5]
  have ba3 := below_alloc (Below.refl w5.heap.size w5) (.cells #[.int .i64 P3.d, .int .i64 P3.n, .slice A5 P3.c.length c5] 25)
  have b46 := below_then hb5 ba3
  have hg5 := hr5.to (Nat.le_refl _) ba3
  obtain ⟨g5, hhg5⟩ : ∃ g5, g5 = w5.heap.size := ⟨_, rfl⟩
  rw [← hhg5] at kg5 ⊢
  clear hhg5 hr5 ba3 hb5
  generalize w5.alloc (.cells #[.int .i64 P3.d, .int .i64 P3.n, .slice A5 P3.c.length c5] 25) = w6 at *
  have b6 := below_then b4 b46
  have k61 := k41.below b46 k41.lt
  have k62 := k42.below b46 k42.lt
  have k63 := k43.below b46 k43.lt
  have k64 := kg4.below b46 kg4.lt
  clear x0 x1 x2 x3 y0 y1 y2 ho3 hc5 k41 k42 k43
  obtain ⟨x0, x1, x2, x3, _⟩ := k61.four
  have y0 := k62.cell 0
  have y1 := k62.cell 1
  have y2 := k62.cell 2
  go_upto_region 5 with (first
    | (go_at_call 40; (with_reducible refine (H4.out _ b6).mono ?_); rintro e w7 ⟨P4, o4, A6, c6, rfl, ho4, hc6, hr6, hb7⟩; obtain ⟨rfl, rfl⟩ := HU2.out _ _ _ _ HO3.out ho4))
  try simp only [palV]
  have kg6 := Blk.new w7 25 #[.int .i64 P3.d, .int .i64 P3.n, .slice A6 P3.c.length c6]
  have ba4 := below_alloc (Below.refl w7.heap.size w7) (.cells #[.int .i64 P3.d, .int .i64 P3.n, .slice A6 P3.c.length c6] 25)
  have b68 := below_then hb7 ba4
  have hg6 := hr6.to (Nat.le_refl _) ba4
  obtain ⟨g6, hhg6⟩ : ∃ g6, g6 = w7.heap.size := ⟨_, rfl⟩
  rw [← hhg6] at kg6 ⊢
  clear hhg6 hr6 ba4 hb7
  generalize w7.alloc (.cells #[.int .i64 P3.d, .int .i64 P3.n, .slice A6 P3.c.length c6] 25) = w8 at *
  have b8 := below_then b6 b68
  have k81 := k61.below b68 k61.lt
  have k82 := k62.below b68 k62.lt
  have k83 := k63.below b68 k63.lt
  have k84 := k64.below b68 k64.lt
  have k85 := kg5.below b68 kg5.lt
  have b28 := (below_then b24 b46).trans (b68.mono (below_then b24 b46).size)
  clear x0 x1 x2 x3 y0 y1 y2 ho4 hc6 k61 k62 k63 k64
  obtain ⟨x0, x1, x2, x3, _⟩ := k81.four
  have y0 := k82.cell 0
  have y1 := k82.cell 1
  have y2 := k82.cell 2
  go_upto_region 7 with (first
    | (go_at_call 21; (with_reducible refine (H5.out _ b8).mono ?_); rintro e w9 ⟨A7, c7, rfl, hc7, hr7, hb9⟩; have k92 := k82.below hb9 k82.lt; have k91 := k81.below hb9 k81.lt; clear x0 x1 x2 x3 y0 y1 y2; obtain ⟨x0, x1, x2, x3, _⟩ := k91.four; have y0 := k92.cell 0; have y1 := k92.cell 1; have y2 := k92.cell 2; have b9 := Lib.hid (below_then b8 hb9))
    | (go_at_call 41; (with_reducible refine (H6.out _ b9.out).mono ?_); rintro e wz ⟨A8, c8, rfl, hc8, hr8, hbz⟩; have kz2 := k92.below hbz k92.lt; clear x0 x1 x2 x3 y0 y1 y2))
  have b8z := below_then hb9 hbz
  have bz := below_then b8 b8z
  have b6z := below_then b68 b8z
  have b4z := below_then b46 b6z
  have b2z := below_then b24 b4z
  have kz3 := k83.below b8z k83.lt
  have kz4 := k84.below b8z k84.lt
  have kz5 := k85.below b8z k85.lt
  have kz6 := kg6.below b8z kg6.lt
  have HR3 := Lib.hid (fun W (h : Below wz.heap.size wz W) => hg3.to (Nat.le_refl _) (below_then b2z h))
  have HR4 := Lib.hid (fun W (h : Below wz.heap.size wz W) => hg4.to (Nat.le_refl _) (below_then b4z h))
  have HR5 := Lib.hid (fun W (h : Below wz.heap.size wz W) => hg5.to (Nat.le_refl _) (below_then b6z h))
  have HR6 := Lib.hid (fun W (h : Below wz.heap.size wz W) => hg6.to (Nat.le_refl _) (below_then b8z h))
  have HR7 := Lib.hid (fun W (h : Below wz.heap.size wz W) => (hr7.below (hbz.mono (Nat.le_refl _)) (Nat.le_refl _)).below (h.mono hbz.size) (Nat.le_refl _) |>.more (below_then hbz h).size)
  have HR8 := Lib.hid (fun W (h : Below wz.heap.size wz W) => hr8.below h (Nat.le_refl _) |>.more h.size)
  have HL1' := Lib.hid (HL1.out _ _ HO1.out)
  have HL2' := Lib.hid (HL2.out _ _ HO3.out)
  have y0 := kz2.cell 0
  have y1 := kz2.cell 1
  have y2 := kz2.cell 2
  have u0 := kz3.cell 0
  have u1 := kz3.cell 1
  have u2 := kz3.cell 2
  have v0 := kz4.cell 0
  have v1 := kz4.cell 1
  have v2 := kz4.cell 2
  have s0 := kz5.cell 0
  have s1 := kz5.cell 1
  have s2 := kz5.cell 2
  have t0 := kz6.cell 0
  have t1 := kz6.cell 1
  have t2 := kz6.cell 2
  have e1 : (o1 == o1) = true := by simp
  have e2 : (o3 == o3) = true := by simp
  have e3 : (IB == IB) = true := by simp
  have e4 : (PB == PB) = true := by simp
  clear hr7 hr8 hg3 hg4 hg5 hg6 k81 k82 k83 k84 k85 k91 k92 kg3 kg4 kg5 kg6 kz2 kz3 kz4 kz5 kz6 b2z b4z b6z b8z hbz hb9 b68 b46 b24 b02 b28
  refine wp_region_held_drew (S := (fun w' => Below wz.heap.size wz w')) (by kernel_rfl) ?_ (fun hHeld => ?_)
  focus exact (Below.refl _ _).drew
  refine wpAnyH_take (i := 0) (v := ?_) rfl (by kernel_rfl) (by kernel_rfl) (by kernel_rfl) (fun _ _ _ h => h) (Or.inl ⟨by kernel_rfl, ?_⟩) (by assumption) ?_
  rotate_left
  focus
    intro w9 hSw
    (try dsimp only at hSw)
    have zK : ∀ {a9 : Addr} {u9 : Value}, wz.cell? a9 = some u9 → w9.cell? a9 = some u9 := fun {a9} {u9} h9 => (hSw.cell (World.block_lt_of_cell? wz a9 h9)).trans h9
    have z0 := zK u0
    have z1 := zK u1
    have z2 := zK u2
    have z3 := zK v0
    have z4 := zK v1
    have z5 := zK v2
    clear zK hSw
    go_simp
    (try with_reducible rfl)
  (try simp only [Act.put, List.getElem_toArray, List.getElem_cons_succ, List.getElem_cons_zero, List.setIfInBounds_toArray, List.set_cons_zero, List.set_cons_succ])
  refine wpAnyH_take (i := 1) (v := ?_) rfl (by kernel_rfl) (by kernel_rfl) (by kernel_rfl) (fun _ _ _ h => h) (Or.inl ⟨by kernel_rfl, ?_⟩) (by assumption) ?_
  rotate_left
  focus
    intro w9 hSw
    (try dsimp only at hSw)
    have zK : ∀ {a9 : Addr} {u9 : Value}, wz.cell? a9 = some u9 → w9.cell? a9 = some u9 := fun {a9} {u9} h9 => (hSw.cell (World.block_lt_of_cell? wz a9 h9)).trans h9
    have z0 := zK u0
    have z1 := zK u1
    have z2 := zK u2
    have z3 := zK v0
    have z4 := zK v1
    have z5 := zK v2
    clear zK hSw
    go_simp
    (try with_reducible rfl)
  (try simp only [Act.put, List.getElem_toArray, List.getElem_cons_succ, List.getElem_cons_zero, List.setIfInBounds_toArray, List.set_cons_zero, List.set_cons_succ])
  refine wpAnyH_ready (rs := [2]) (by kernel_rfl) (by simp) (AllReadyH.cons rfl (fun K hK => ?_) AllReadyH.nil)
  go_simp
  go_at_call 42
  refine (HS.out P1 HL1'.out _ _ _ _ _ (HR3.out _ (Below.refl _ _).drew) (HR4.out _ (Below.refl _ _).drew)).mono ?_
  rintro e v1' ⟨rfl, hv1'⟩
  have hv1 := below_undr hv1'
  clear hv1'
  refine hK.out _ _ ?_ (fun hHeld => ?_)
  focus exact hv1
  clear hK K
  (try simp only [Act.put, List.getElem_toArray, List.getElem_cons_succ, List.getElem_cons_zero, List.setIfInBounds_toArray, List.set_cons_zero, List.set_cons_succ])
  refine wpAnyH_take (i := 3) (v := ?_) rfl (by kernel_rfl) (by kernel_rfl) (by kernel_rfl) (fun _ _ _ h => h) (Or.inl ⟨by kernel_rfl, ?_⟩) (by assumption) ?_
  rotate_left
  focus
    intro w9 hSw
    (try dsimp only at hSw)
    have zK : ∀ {a9 : Addr} {u9 : Value}, wz.cell? a9 = some u9 → w9.cell? a9 = some u9 := fun {a9} {u9} h9 => (hSw.cell (World.block_lt_of_cell? wz a9 h9)).trans h9
    have z0 := zK s0
    have z1 := zK s1
    have z2 := zK s2
    have z3 := zK t0
    have z4 := zK t1
    have z5 := zK t2
    clear zK hSw
    go_simp
    (try with_reducible rfl)
  (try simp only [Act.put, List.getElem_toArray, List.getElem_cons_succ, List.getElem_cons_zero, List.setIfInBounds_toArray, List.set_cons_zero, List.set_cons_succ])
  refine wpAnyH_take (i := 4) (v := ?_) rfl (by kernel_rfl) (by kernel_rfl) (by kernel_rfl) (fun _ _ _ h => h) (Or.inl ⟨by kernel_rfl, ?_⟩) (by assumption) ?_
  rotate_left
  focus
    intro w9 hSw
    (try dsimp only at hSw)
    have zK : ∀ {a9 : Addr} {u9 : Value}, wz.cell? a9 = some u9 → w9.cell? a9 = some u9 := fun {a9} {u9} h9 => (hSw.cell (World.block_lt_of_cell? wz a9 h9)).trans h9
    have z0 := zK s0
    have z1 := zK s1
    have z2 := zK s2
    have z3 := zK t0
    have z4 := zK t1
    have z5 := zK t2
    clear zK hSw
    go_simp
    (try with_reducible rfl)
  (try simp only [Act.put, List.getElem_toArray, List.getElem_cons_succ, List.getElem_cons_zero, List.setIfInBounds_toArray, List.set_cons_zero, List.set_cons_succ])
  refine wpAnyH_take (i := 5) (v := ?_) rfl (by kernel_rfl) (by kernel_rfl) (by kernel_rfl) (fun _ _ _ h => h) (Or.inl ⟨by kernel_rfl, ?_⟩) (by assumption) ?_
  rotate_left
  focus
    intro w9 hSw
    (try dsimp only at hSw)
    have zK : ∀ {a9 : Addr} {u9 : Value}, wz.cell? a9 = some u9 → w9.cell? a9 = some u9 := fun {a9} {u9} h9 => (hSw.cell (World.block_lt_of_cell? wz a9 h9)).trans h9
    have z0 := zK s0
    have z1 := zK s1
    have z2 := zK s2
    have z3 := zK t0
    have z4 := zK t1
    have z5 := zK t2
    clear zK hSw
    go_simp
    (try with_reducible rfl)
  (try simp only [Act.put, List.getElem_toArray, List.getElem_cons_succ, List.getElem_cons_zero, List.setIfInBounds_toArray, List.set_cons_zero, List.set_cons_succ])
  refine wpAnyH_take (i := 6) (v := ?_) rfl (by kernel_rfl) (by kernel_rfl) (by kernel_rfl) (fun _ _ _ h => h) (Or.inl ⟨by kernel_rfl, ?_⟩) (by assumption) ?_
  rotate_left
  focus
    intro w9 hSw
    (try dsimp only at hSw)
    have zK : ∀ {a9 : Addr} {u9 : Value}, wz.cell? a9 = some u9 → w9.cell? a9 = some u9 := fun {a9} {u9} h9 => (hSw.cell (World.block_lt_of_cell? wz a9 h9)).trans h9
    have z0 := zK s0
    have z1 := zK s1
    have z2 := zK s2
    have z3 := zK t0
    have z4 := zK t1
    have z5 := zK t2
    clear zK hSw
    go_simp
    (try with_reducible rfl)
  (try simp only [Act.put, List.getElem_toArray, List.getElem_cons_succ, List.getElem_cons_zero, List.setIfInBounds_toArray, List.set_cons_zero, List.set_cons_succ])
  refine wpAnyH_take (i := 7) (v := ?_) rfl (by kernel_rfl) (by kernel_rfl) (by kernel_rfl) (fun _ _ _ h => h) (Or.inl ⟨by kernel_rfl, ?_⟩) (by assumption) ?_
  rotate_left
  focus
    intro w9 hSw
    (try dsimp only at hSw)
    have zK : ∀ {a9 : Addr} {u9 : Value}, wz.cell? a9 = some u9 → w9.cell? a9 = some u9 := fun {a9} {u9} h9 => (hSw.cell (World.block_lt_of_cell? wz a9 h9)).trans h9
    have z0 := zK s0
    have z1 := zK s1
    have z2 := zK s2
    have z3 := zK t0
    have z4 := zK t1
    have z5 := zK t2
    clear zK hSw
    go_simp
    (try with_reducible rfl)
  (try simp only [Act.put, List.getElem_toArray, List.getElem_cons_succ, List.getElem_cons_zero, List.setIfInBounds_toArray, List.set_cons_zero, List.set_cons_succ])
  refine wpAnyH_take (i := 8) (v := ?_) rfl (by kernel_rfl) (by kernel_rfl) (by kernel_rfl) (fun _ _ _ h => h) (Or.inl ⟨by kernel_rfl, ?_⟩) (by assumption) ?_
  rotate_left
  focus
    intro w9 hSw
    (try dsimp only at hSw)
    have zK : ∀ {a9 : Addr} {u9 : Value}, wz.cell? a9 = some u9 → w9.cell? a9 = some u9 := fun {a9} {u9} h9 => (hSw.cell (World.block_lt_of_cell? wz a9 h9)).trans h9
    have z0 := zK s0
    have z1 := zK s1
    have z2 := zK s2
    have z3 := zK t0
    have z4 := zK t1
    have z5 := zK t2
    clear zK hSw
    go_simp
    (try with_reducible rfl)
  (try simp only [Act.put, List.getElem_toArray, List.getElem_cons_succ, List.getElem_cons_zero, List.setIfInBounds_toArray, List.set_cons_zero, List.set_cons_succ])
  refine wpAnyH_take (i := 9) (v := ?_) rfl (by kernel_rfl) (by kernel_rfl) (by kernel_rfl) (fun _ _ _ h => h) (Or.inl ⟨by kernel_rfl, ?_⟩) (by assumption) ?_
  rotate_left
  focus
    intro w9 hSw
    (try dsimp only at hSw)
    have zK : ∀ {a9 : Addr} {u9 : Value}, wz.cell? a9 = some u9 → w9.cell? a9 = some u9 := fun {a9} {u9} h9 => (hSw.cell (World.block_lt_of_cell? wz a9 h9)).trans h9
    have z0 := zK s0
    have z1 := zK s1
    have z2 := zK s2
    have z3 := zK t0
    have z4 := zK t1
    have z5 := zK t2
    clear zK hSw
    go_simp
    (try with_reducible rfl)
  (try simp only [Act.put, List.getElem_toArray, List.getElem_cons_succ, List.getElem_cons_zero, List.setIfInBounds_toArray, List.set_cons_zero, List.set_cons_succ])
  refine wpAnyH_take (i := 10) (v := ?_) rfl (by kernel_rfl) (by kernel_rfl) (by kernel_rfl) (fun _ _ _ h => h) (Or.inl ⟨by kernel_rfl, ?_⟩) (by assumption) ?_
  rotate_left
  focus
    intro w9 hSw
    (try dsimp only at hSw)
    have zK : ∀ {a9 : Addr} {u9 : Value}, wz.cell? a9 = some u9 → w9.cell? a9 = some u9 := fun {a9} {u9} h9 => (hSw.cell (World.block_lt_of_cell? wz a9 h9)).trans h9
    have z0 := zK s0
    have z1 := zK s1
    have z2 := zK s2
    have z3 := zK t0
    have z4 := zK t1
    have z5 := zK t2
    clear zK hSw
    go_simp
    (try with_reducible rfl)
  (try simp only [Act.put, List.getElem_toArray, List.getElem_cons_succ, List.getElem_cons_zero, List.setIfInBounds_toArray, List.set_cons_zero, List.set_cons_succ])
  refine wpAnyH_ready (rs := [11]) (by kernel_rfl) (by simp) (AllReadyH.cons rfl (fun K hK => ?_) AllReadyH.nil)
  go_simp
  go_at_call 42
  refine (HS.out P3 HL2'.out _ _ _ _ _ (HR5.out _ hv1) (HR6.out _ hv1)).mono ?_
  rintro e v2' ⟨rfl, hv2'⟩
  have hv2 := below_then hv1 hv2'
  clear hv2'
  refine hK.out _ _ ?_ (fun hHeld => ?_)
  focus exact hv2
  clear hK K
  (try simp only [Act.put, List.getElem_toArray, List.getElem_cons_succ, List.getElem_cons_zero, List.setIfInBounds_toArray, List.set_cons_zero, List.set_cons_succ])
  refine wpAnyH_take (i := 12) (v := ?_) rfl (by kernel_rfl) (by kernel_rfl) (by kernel_rfl) (fun _ _ _ h => h) (Or.inl ⟨by kernel_rfl, ?_⟩) (by assumption) ?_
  rotate_left
  focus
    intro w9 hSw
    (try dsimp only at hSw)
    have zK : ∀ {a9 : Addr} {u9 : Value}, wz.cell? a9 = some u9 → w9.cell? a9 = some u9 := fun {a9} {u9} h9 => (hSw.cell (World.block_lt_of_cell? wz a9 h9)).trans h9
    have z0 := zK y0
    clear zK hSw
    go_simp
    (try with_reducible rfl)
  (try simp only [Act.put, List.getElem_toArray, List.getElem_cons_succ, List.getElem_cons_zero, List.setIfInBounds_toArray, List.set_cons_zero, List.set_cons_succ])
  refine wpAnyH_take (i := 13) (v := ?_) rfl (by kernel_rfl) (by kernel_rfl) (by kernel_rfl) (fun _ _ _ h => h) (Or.inl ⟨by kernel_rfl, ?_⟩) (by assumption) ?_
  rotate_left
  focus
    intro w9 hSw
    (try dsimp only at hSw)
    have zK : ∀ {a9 : Addr} {u9 : Value}, wz.cell? a9 = some u9 → w9.cell? a9 = some u9 := fun {a9} {u9} h9 => (hSw.cell (World.block_lt_of_cell? wz a9 h9)).trans h9
    have z0 := zK y0
    clear zK hSw
    go_simp
    (try with_reducible rfl)
  (try simp only [Act.put, List.getElem_toArray, List.getElem_cons_succ, List.getElem_cons_zero, List.setIfInBounds_toArray, List.set_cons_zero, List.set_cons_succ])
  refine wpAnyH_take (i := 14) (v := ?_) rfl (by kernel_rfl) (by kernel_rfl) (by kernel_rfl) (fun _ _ _ h => h) (Or.inl ⟨by kernel_rfl, ?_⟩) (by assumption) ?_
  rotate_left
  focus
    intro w9 hSw
    (try dsimp only at hSw)
    have zK : ∀ {a9 : Addr} {u9 : Value}, wz.cell? a9 = some u9 → w9.cell? a9 = some u9 := fun {a9} {u9} h9 => (hSw.cell (World.block_lt_of_cell? wz a9 h9)).trans h9
    have z0 := zK y0
    clear zK hSw
    go_simp
    (try with_reducible rfl)
  (try simp only [Act.put, List.getElem_toArray, List.getElem_cons_succ, List.getElem_cons_zero, List.setIfInBounds_toArray, List.set_cons_zero, List.set_cons_succ])
  refine wpAnyH_take (i := 15) (v := ?_) rfl (by kernel_rfl) (by kernel_rfl) (by kernel_rfl) (fun _ _ _ h => h) (Or.inl ⟨by kernel_rfl, ?_⟩) (by assumption) ?_
  rotate_left
  focus
    intro w9 hSw
    (try dsimp only at hSw)
    have zK : ∀ {a9 : Addr} {u9 : Value}, wz.cell? a9 = some u9 → w9.cell? a9 = some u9 := fun {a9} {u9} h9 => (hSw.cell (World.block_lt_of_cell? wz a9 h9)).trans h9
    have z0 := zK y0
    clear zK hSw
    go_simp
    (try with_reducible rfl)
  (try simp only [Act.put, List.getElem_toArray, List.getElem_cons_succ, List.getElem_cons_zero, List.setIfInBounds_toArray, List.set_cons_zero, List.set_cons_succ])
  refine wpAnyH_take (i := 16) (v := ?_) rfl (by kernel_rfl) (by kernel_rfl) (by kernel_rfl) (fun _ _ _ h => h) (Or.inl ⟨by kernel_rfl, ?_⟩) (by assumption) ?_
  rotate_left
  focus
    intro w9 hSw
    (try dsimp only at hSw)
    have zK : ∀ {a9 : Addr} {u9 : Value}, wz.cell? a9 = some u9 → w9.cell? a9 = some u9 := fun {a9} {u9} h9 => (hSw.cell (World.block_lt_of_cell? wz a9 h9)).trans h9
    have z0 := zK y0
    clear zK hSw
    go_simp
    (try with_reducible rfl)
  (try simp only [Act.put, List.getElem_toArray, List.getElem_cons_succ, List.getElem_cons_zero, List.setIfInBounds_toArray, List.set_cons_zero, List.set_cons_succ])
  refine wpAnyH_take (i := 17) (v := ?_) rfl (by kernel_rfl) (by kernel_rfl) (by kernel_rfl) (fun _ _ _ h => h) (Or.inl ⟨by kernel_rfl, ?_⟩) (by assumption) ?_
  rotate_left
  focus
    intro w9 hSw
    (try dsimp only at hSw)
    have zK : ∀ {a9 : Addr} {u9 : Value}, wz.cell? a9 = some u9 → w9.cell? a9 = some u9 := fun {a9} {u9} h9 => (hSw.cell (World.block_lt_of_cell? wz a9 h9)).trans h9
    have z0 := zK y0
    clear zK hSw
    go_simp
    (try with_reducible rfl)
  (try simp only [Act.put, List.getElem_toArray, List.getElem_cons_succ, List.getElem_cons_zero, List.setIfInBounds_toArray, List.set_cons_zero, List.set_cons_succ])
  refine wpAnyH_take (i := 18) (v := ?_) rfl (by kernel_rfl) (by kernel_rfl) (by kernel_rfl) (fun _ _ _ h => h) (Or.inl ⟨by kernel_rfl, ?_⟩) (by assumption) ?_
  rotate_left
  focus
    intro w9 hSw
    (try dsimp only at hSw)
    have zK : ∀ {a9 : Addr} {u9 : Value}, wz.cell? a9 = some u9 → w9.cell? a9 = some u9 := fun {a9} {u9} h9 => (hSw.cell (World.block_lt_of_cell? wz a9 h9)).trans h9
    have z0 := zK y0
    clear zK hSw
    go_simp
    (try with_reducible rfl)
  (try simp only [Act.put, List.getElem_toArray, List.getElem_cons_succ, List.getElem_cons_zero, List.setIfInBounds_toArray, List.set_cons_zero, List.set_cons_succ])
  refine wpAnyH_take (i := 19) (v := ?_) rfl (by kernel_rfl) (by kernel_rfl) (by kernel_rfl) (fun _ _ _ h => h) (Or.inl ⟨by kernel_rfl, ?_⟩) (by assumption) ?_
  rotate_left
  focus
    intro w9 hSw
    (try dsimp only at hSw)
    have zK : ∀ {a9 : Addr} {u9 : Value}, wz.cell? a9 = some u9 → w9.cell? a9 = some u9 := fun {a9} {u9} h9 => (hSw.cell (World.block_lt_of_cell? wz a9 h9)).trans h9
    have z0 := zK y0
    clear zK hSw
    go_simp
    (try with_reducible rfl)
  (try simp only [Act.put, List.getElem_toArray, List.getElem_cons_succ, List.getElem_cons_zero, List.setIfInBounds_toArray, List.set_cons_zero, List.set_cons_succ])
  refine wpAnyH_take (i := 20) (v := ?_) rfl (by kernel_rfl) (by kernel_rfl) (by kernel_rfl) (fun _ _ _ h => h) (Or.inl ⟨by kernel_rfl, ?_⟩) (by assumption) ?_
  rotate_left
  focus
    intro w9 hSw
    (try dsimp only at hSw)
    have zK : ∀ {a9 : Addr} {u9 : Value}, wz.cell? a9 = some u9 → w9.cell? a9 = some u9 := fun {a9} {u9} h9 => (hSw.cell (World.block_lt_of_cell? wz a9 h9)).trans h9
    have z0 := zK y0
    clear zK hSw
    go_simp
    (try with_reducible rfl)
  (try simp only [Act.put, List.getElem_toArray, List.getElem_cons_succ, List.getElem_cons_zero, List.setIfInBounds_toArray, List.set_cons_zero, List.set_cons_succ])
  refine wpAnyH_ready (rs := [21]) (by kernel_rfl) (by simp) (AllReadyH.cons rfl (fun K hK => ?_) AllReadyH.nil)
  go_simp
  go_at_call 26
  refine (HI.out _ _ _ _ _ (HR7.out _ hv2) (HR8.out _ hv2)).mono ?_
  rintro e v3' ⟨rfl, n3, rfl⟩
  have hv3 := below_drewN hv2 n3
  refine hK.out _ _ ?_ (fun hHeld => ?_)
  focus exact hv3
  clear hK K
  (try simp only [Act.put, List.getElem_toArray, List.getElem_cons_succ, List.getElem_cons_zero, List.setIfInBounds_toArray, List.set_cons_zero, List.set_cons_succ])
  refine wpAnyH_take (i := 22) (v := ?_) rfl (by kernel_rfl) (by kernel_rfl) (by kernel_rfl) (fun _ _ _ h => h) (Or.inl ⟨by kernel_rfl, ?_⟩) (by assumption) ?_
  rotate_left
  focus
    intro w9 hSw
    (try dsimp only at hSw)
    have zK : ∀ {a9 : Addr} {u9 : Value}, wz.cell? a9 = some u9 → w9.cell? a9 = some u9 := fun {a9} {u9} h9 => (hSw.cell (World.block_lt_of_cell? wz a9 h9)).trans h9
    have z0 := zK y0
    have z1 := zK y1
    have z2 := zK y2
    clear zK hSw
    go_simp
    (try with_reducible rfl)
  (try simp only [Act.put, List.getElem_toArray, List.getElem_cons_succ, List.getElem_cons_zero, List.setIfInBounds_toArray, List.set_cons_zero, List.set_cons_succ])
  refine wpAnyH_take (i := 23) (v := ?_) rfl (by kernel_rfl) (by kernel_rfl) (by kernel_rfl) (fun _ _ _ h => h) (Or.inl ⟨by kernel_rfl, ?_⟩) (by assumption) ?_
  rotate_left
  focus
    intro w9 hSw
    (try dsimp only at hSw)
    have zK : ∀ {a9 : Addr} {u9 : Value}, wz.cell? a9 = some u9 → w9.cell? a9 = some u9 := fun {a9} {u9} h9 => (hSw.cell (World.block_lt_of_cell? wz a9 h9)).trans h9
    have z0 := zK y0
    have z1 := zK y1
    have z2 := zK y2
    clear zK hSw
    go_simp
    (try with_reducible rfl)
  (try simp only [Act.put, List.getElem_toArray, List.getElem_cons_succ, List.getElem_cons_zero, List.setIfInBounds_toArray, List.set_cons_zero, List.set_cons_succ])
  refine wpAnyH_take (i := 24) (v := ?_) rfl (by kernel_rfl) (by kernel_rfl) (by kernel_rfl) (fun _ _ _ h => h) (Or.inl ⟨by kernel_rfl, ?_⟩) (by assumption) ?_
  rotate_left
  focus
    intro w9 hSw
    (try dsimp only at hSw)
    have zK : ∀ {a9 : Addr} {u9 : Value}, wz.cell? a9 = some u9 → w9.cell? a9 = some u9 := fun {a9} {u9} h9 => (hSw.cell (World.block_lt_of_cell? wz a9 h9)).trans h9
    have z0 := zK y0
    have z1 := zK y1
    have z2 := zK y2
    clear zK hSw
    go_simp
    (try with_reducible rfl)
  (try simp only [Act.put, List.getElem_toArray, List.getElem_cons_succ, List.getElem_cons_zero, List.setIfInBounds_toArray, List.set_cons_zero, List.set_cons_succ])
  refine wpAnyH_take (i := 25) (v := ?_) rfl (by kernel_rfl) (by kernel_rfl) (by kernel_rfl) (fun _ _ _ h => h) (Or.inl ⟨by kernel_rfl, ?_⟩) (by assumption) ?_
  rotate_left
  focus
    intro w9 hSw
    (try dsimp only at hSw)
    have zK : ∀ {a9 : Addr} {u9 : Value}, wz.cell? a9 = some u9 → w9.cell? a9 = some u9 := fun {a9} {u9} h9 => (hSw.cell (World.block_lt_of_cell? wz a9 h9)).trans h9
    have z0 := zK y0
    have z1 := zK y1
    have z2 := zK y2
    clear zK hSw
    go_simp
    (try with_reducible rfl)
  (try simp only [Act.put, List.getElem_toArray, List.getElem_cons_succ, List.getElem_cons_zero, List.setIfInBounds_toArray, List.set_cons_zero, List.set_cons_succ])
  refine wpAnyH_take (i := 26) (v := ?_) rfl (by kernel_rfl) (by kernel_rfl) (by kernel_rfl) (fun _ _ _ h => h) (Or.inl ⟨by kernel_rfl, ?_⟩) (by assumption) ?_
  rotate_left
  focus
    intro w9 hSw
    (try dsimp only at hSw)
    have zK : ∀ {a9 : Addr} {u9 : Value}, wz.cell? a9 = some u9 → w9.cell? a9 = some u9 := fun {a9} {u9} h9 => (hSw.cell (World.block_lt_of_cell? wz a9 h9)).trans h9
    have z0 := zK y0
    have z1 := zK y1
    have z2 := zK y2
    clear zK hSw
    go_simp
    (try with_reducible rfl)
  (try simp only [Act.put, List.getElem_toArray, List.getElem_cons_succ, List.getElem_cons_zero, List.setIfInBounds_toArray, List.set_cons_zero, List.set_cons_succ])
  refine wpAnyH_take (i := 27) (v := ?_) rfl (by kernel_rfl) (by kernel_rfl) (by kernel_rfl) (fun _ _ _ h => h) (Or.inl ⟨by kernel_rfl, ?_⟩) (by assumption) ?_
  rotate_left
  focus
    intro w9 hSw
    (try dsimp only at hSw)
    have zK : ∀ {a9 : Addr} {u9 : Value}, wz.cell? a9 = some u9 → w9.cell? a9 = some u9 := fun {a9} {u9} h9 => (hSw.cell (World.block_lt_of_cell? wz a9 h9)).trans h9
    have z0 := zK y0
    have z1 := zK y1
    have z2 := zK y2
    clear zK hSw
    go_simp
    (try with_reducible rfl)
  (try simp only [Act.put, List.getElem_toArray, List.getElem_cons_succ, List.getElem_cons_zero, List.setIfInBounds_toArray, List.set_cons_zero, List.set_cons_succ])
  refine wpAnyH_take (i := 28) (v := ?_) rfl (by kernel_rfl) (by kernel_rfl) (by kernel_rfl) (fun _ _ _ h => h) (Or.inl ⟨by kernel_rfl, ?_⟩) (by assumption) ?_
  rotate_left
  focus
    intro w9 hSw
    (try dsimp only at hSw)
    have zK : ∀ {a9 : Addr} {u9 : Value}, wz.cell? a9 = some u9 → w9.cell? a9 = some u9 := fun {a9} {u9} h9 => (hSw.cell (World.block_lt_of_cell? wz a9 h9)).trans h9
    have z0 := zK y0
    have z1 := zK y1
    have z2 := zK y2
    clear zK hSw
    go_simp
    (try with_reducible rfl)
  (try simp only [Act.put, List.getElem_toArray, List.getElem_cons_succ, List.getElem_cons_zero, List.setIfInBounds_toArray, List.set_cons_zero, List.set_cons_succ])
  refine wpAnyH_take (i := 29) (v := ?_) rfl (by kernel_rfl) (by kernel_rfl) (by kernel_rfl) (fun _ _ _ h => h) (Or.inl ⟨by kernel_rfl, ?_⟩) (by assumption) ?_
  rotate_left
  focus
    intro w9 hSw
    (try dsimp only at hSw)
    have zK : ∀ {a9 : Addr} {u9 : Value}, wz.cell? a9 = some u9 → w9.cell? a9 = some u9 := fun {a9} {u9} h9 => (hSw.cell (World.block_lt_of_cell? wz a9 h9)).trans h9
    have z0 := zK y0
    have z1 := zK y1
    have z2 := zK y2
    clear zK hSw
    go_simp
    (try with_reducible rfl)
  (try simp only [Act.put, List.getElem_toArray, List.getElem_cons_succ, List.getElem_cons_zero, List.setIfInBounds_toArray, List.set_cons_zero, List.set_cons_succ])
  refine wpAnyH_take (i := 31) (v := ?_) rfl (by kernel_rfl) (by kernel_rfl) (by kernel_rfl) (fun _ _ _ h => h) (Or.inl ⟨by kernel_rfl, ?_⟩) (by assumption) ?_
  rotate_left
  focus
    intro w9 hSw
    (try dsimp only at hSw)
    have zK : ∀ {a9 : Addr} {u9 : Value}, wz.cell? a9 = some u9 → w9.cell? a9 = some u9 := fun {a9} {u9} h9 => (hSw.cell (World.block_lt_of_cell? wz a9 h9)).trans h9
    have z0 := zK y0
    have z1 := zK y1
    have z2 := zK y2
    clear zK hSw
    go_simp
    (try with_reducible rfl)
  (try simp only [Act.put, List.getElem_toArray, List.getElem_cons_succ, List.getElem_cons_zero, List.setIfInBounds_toArray, List.set_cons_zero, List.set_cons_succ])
  refine wpAnyH_ready (rs := [30]) (by kernel_rfl) (by simp) (AllReadyH.cons rfl (fun K hK => ?_) AllReadyH.nil)
  go_simp
  go_at_call 37
  refine (H7.out _ (below_then bz hv3)).mono ?_
  rintro e v4' ⟨rfl, hv4'⟩
  have hv4 := below_then hv3 hv4'
  clear hv4'
  refine hK.out _ _ ?_ (fun hHeld => ?_)
  focus exact hv4
  clear hK K
  (try simp only [Act.put, List.getElem_toArray, List.getElem_cons_succ, List.getElem_cons_zero, List.setIfInBounds_toArray, List.set_cons_zero, List.set_cons_succ])
  refine wpAnyH_ready (rs := [32]) (by kernel_rfl) (by simp) (AllReadyH.cons rfl (fun K hK => ?_) AllReadyH.nil)
  go_simp
  go_at_call 28
  refine (H8.out _ (below_then bz hv4)).mono ?_
  rintro e v5' ⟨rfl, hv5'⟩
  have hv5 := below_then hv4 hv5'
  clear hv5'
  refine hK.out _ _ ?_ (fun hHeld => ?_)
  focus exact hv5
  clear hK K
  (try simp only [Act.put, List.getElem_toArray, List.getElem_cons_succ, List.getElem_cons_zero, List.setIfInBounds_toArray, List.set_cons_zero, List.set_cons_succ])
  refine wpAnyH_take (i := 33) (v := ?_) rfl (by kernel_rfl) (by kernel_rfl) (by kernel_rfl) (fun _ _ _ h => h) (Or.inl ⟨by kernel_rfl, ?_⟩) (by assumption) ?_
  rotate_left
  focus
    intro w9 hSw
    (try dsimp only at hSw)
    have zK : ∀ {a9 : Addr} {u9 : Value}, wz.cell? a9 = some u9 → w9.cell? a9 = some u9 := fun {a9} {u9} h9 => (hSw.cell (World.block_lt_of_cell? wz a9 h9)).trans h9
    have z0 := zK y0
    clear zK hSw
    go_simp
    (try with_reducible rfl)
  (try simp only [Act.put, List.getElem_toArray, List.getElem_cons_succ, List.getElem_cons_zero, List.setIfInBounds_toArray, List.set_cons_zero, List.set_cons_succ])
  refine wpAnyH_take (i := 34) (v := ?_) rfl (by kernel_rfl) (by kernel_rfl) (by kernel_rfl) (fun _ _ _ h => h) (Or.inl ⟨by kernel_rfl, ?_⟩) (by assumption) ?_
  rotate_left
  focus
    intro w9 hSw
    (try dsimp only at hSw)
    have zK : ∀ {a9 : Addr} {u9 : Value}, wz.cell? a9 = some u9 → w9.cell? a9 = some u9 := fun {a9} {u9} h9 => (hSw.cell (World.block_lt_of_cell? wz a9 h9)).trans h9
    have z0 := zK y0
    clear zK hSw
    go_simp
    (try with_reducible rfl)
  (try simp only [Act.put, List.getElem_toArray, List.getElem_cons_succ, List.getElem_cons_zero, List.setIfInBounds_toArray, List.set_cons_zero, List.set_cons_succ])
  refine wpAnyH_take (i := 35) (v := ?_) rfl (by kernel_rfl) (by kernel_rfl) (by kernel_rfl) (fun _ _ _ h => h) (Or.inl ⟨by kernel_rfl, ?_⟩) (by assumption) ?_
  rotate_left
  focus
    intro w9 hSw
    (try dsimp only at hSw)
    have zK : ∀ {a9 : Addr} {u9 : Value}, wz.cell? a9 = some u9 → w9.cell? a9 = some u9 := fun {a9} {u9} h9 => (hSw.cell (World.block_lt_of_cell? wz a9 h9)).trans h9
    have z0 := zK y0
    clear zK hSw
    go_simp
    (try with_reducible rfl)
  (try simp only [Act.put, List.getElem_toArray, List.getElem_cons_succ, List.getElem_cons_zero, List.setIfInBounds_toArray, List.set_cons_zero, List.set_cons_succ])
  refine wpAnyH_done (by kernel_rfl) ?_ _
  (try simp only [Act.put, List.getElem_toArray, List.getElem_cons_succ, List.getElem_cons_zero, List.setIfInBounds_toArray, List.set_cons_zero, List.set_cons_succ])
  go_wp2
  go_ret
  exact ⟨rfl, below_then bz hv5⟩
end Go.Proofs.Ytbbflddhbamjbaa
