/- PicTells: the walk. -/
import Derived.Test.YtbmgnclfecejeaaPicTellsL
import Derived.Test.YtbmgnclfecejeaaPicPic
import Derived.Test.YtbmgnclfecejeaaPicPlain2
set_option linter.unusedSimpArgs false
set_option linter.unusedVariables false
namespace Go.Proofs.Ytbmgnclfecejeaa.picTells
open Go.RowKit

def newPc (a b c d : Int) : Pc := if possB a b c d = true then ⟨a, b, c, zeros a b d.toNat⟩ else ⟨0, 0, 0, []⟩
def newErr (a b c d : Int) : Int := if possB a b c d = true then 0 else 1
theorem newPc_small (a b c d : Int) : Small (newPc a b c d).p := by
  unfold newPc
  split
  · rename_i h
    simp only [possB, decide_eq_true_eq] at h
    have hm := mul_64 (a := a) (b := b) ⟨by omega, by omega⟩ ⟨by omega, by omega⟩
    refine ⟨by simp [zeros]; omega, fun l hl => ?_⟩
    simp only [zeros, List.mem_replicate] at hl
    rw [hl.2, List.length_replicate]
    omega
  · exact ⟨by simp, by simp⟩

theorem new_any (a b c d : Int) (w : World) :
    Calls Try.prog 27 #[.int .i64 a, .int .i64 b, .int .i64 c, .int .i64 d] w fun e w' => ∃ A' c', e = .returned (.tuple #[.agg #[.int .i64 (newPc a b c d).w, .int .i64 (newPc a b c d).h, .int .i64 (newPc a b c d).d, .slice A' (newPc a b c d).p.length c'], .int .i64 (newErr a b c d)]) ∧
      RdLL w' w'.heap.size .i64 A' (newPc a b c d).p ∧ Below w.heap.size w w' := by
  cases h : possB a b c d
  · have e1 : newPc a b c d = ⟨0, 0, 0, []⟩ := by rw [newPc, if_neg (by simp [h])]
    have e2 : newErr a b c d = 1 := by rw [newErr, if_neg (by simp [h])]
    rw [e1, e2]
    exact (new_no a b c d h w).mono fun e w' ⟨he, hb⟩ => ⟨none, 0, he, fun j hj => absurd hj (by simp), hb⟩
  · have e1 : newPc a b c d = ⟨a, b, c, zeros a b d.toNat⟩ := by rw [newPc, if_pos h]
    have e2 : newErr a b c d = 0 := by rw [newErr, if_pos h]
    rw [e1, e2]
    refine (new_yes a b c d h w).mono fun e w' ⟨A', c', he, ho, hb⟩ => ⟨A', c', ?_, rdOwn ho (Below.refl _ _), hb⟩
    rw [he]
    simp [zeros]
theorem rnew_any (a b c d : Int) (w : World) :
    Calls Try.prog 28 #[.int .i64 a, .int .i64 b, .int .i64 c, .int .i64 d] w fun e w' => ∃ A' c', e = .returned (.tuple #[.agg #[.int .i64 (newPc a b c d).w, .int .i64 (newPc a b c d).h, .int .i64 (newPc a b c d).d, .slice A' (newPc a b c d).p.length c'], .int .i64 (newErr a b c d)]) ∧
      RdLL w' w'.heap.size .i64 A' (newPc a b c d).p ∧ Below w.heap.size w w' := by
  cases h : possB a b c d
  · have e1 : newPc a b c d = ⟨0, 0, 0, []⟩ := by rw [newPc, if_neg (by simp [h])]
    have e2 : newErr a b c d = 1 := by rw [newErr, if_neg (by simp [h])]
    rw [e1, e2]
    exact (rnew_no a b c d h w).mono fun e w' ⟨he, hb⟩ => ⟨none, 0, he, fun j hj => absurd hj (by simp), hb⟩
  · have e1 : newPc a b c d = ⟨a, b, c, zeros a b d.toNat⟩ := by rw [newPc, if_pos h]
    have e2 : newErr a b c d = 0 := by rw [newErr, if_pos h]
    rw [e1, e2]
    refine (rnew_yes a b c d h w).mono fun e w' ⟨A', c', he, ho, hb⟩ => ⟨A', c', ?_, rdOwn ho (Below.refl _ _), hb⟩
    rw [he]
    simp [zeros]
theorem and63 (v : Int) : 0 ≤ bits .and .i64 v 63 ∧ bits .and .i64 v 63 ≤ 63 := by
  have h : bits .and .i64 v 63 = v % 64 := and_mask64 v 6 (by omega)
  omega
theorem and15 (v : Int) : 0 ≤ bits .and .i64 v 15 ∧ bits .and .i64 v 15 ≤ 15 := by
  have h : bits .and .i64 v 15 = v % 16 := and_mask64 v 4 (by omega)
  omega
theorem and3 (v : Int) : 0 ≤ bits .and .i64 v 3 ∧ bits .and .i64 v 3 ≤ 3 := by
  have h : bits .and .i64 v 3 = v % 4 := and_mask64 v 2 (by omega)
  omega
theorem newErr_yes {a b c d : Int} (h1 : 0 ≤ a ∧ a ≤ 63) (h2 : 0 ≤ b ∧ b ≤ 63) (h3 : 0 ≤ c ∧ c ≤ 15) (h4 : 0 ≤ d ∧ d ≤ 3) : newErr (a + 1) (b + 1) (c + 1) (d + 1) = 0 := by
  rw [newErr, if_pos]
  simp only [possB, decide_eq_true_eq]
  omega
theorem same_empty {W H : Int} {d : Int} {p : List (List Int)} (h : isB ⟨W, H, d, p⟩ = true) : sameB ⟨W, H, d, p⟩ ⟨W, H, d, []⟩ = false := by
  obtain ⟨_, _, _, h4, _⟩ := isB_sum h
  simp only at h4
  simp only [sameB, decide_eq_false_iff_not]
  rintro ⟨_, _, _, h5⟩
  rw [h5] at h4
  simp at h4

set_option maxHeartbeats 8000000 in
set_option maxRecDepth 100000 in
theorem walk (w : World) (p : Pc) (Ap : Option Addr) (cp : Nat) (hRp : LenR p.p) (hrp : RdLL w w.heap.size .i64 Ap p.p) (q : Pc) (Aq : Option Addr) (cq : Nat) (hRq : LenR q.p) (hrq : RdLL w w.heap.size .i64 Aq q.p)
    (A0 : Option Addr) (c0 : Nat) (t : List Int) (ht : ∀ x ∈ t, -9223372036854775808 ≤ x ∧ x ≤ 9223372036854775807) (hc : t.length ≤ c0) (h63 : c0 ≤ 9223372036854775807) (hrt : RdI w w.heap.size .i64 A0 t)
    (ww : Int) (ww0 : -9223372036854775808 ≤ ww) (ww1 : ww ≤ 9223372036854775807) (hh : Int) (hh0 : -9223372036854775808 ≤ hh) (hh1 : hh ≤ 9223372036854775807) (dd : Int) (dd0 : -9223372036854775808 ≤ dd) (dd1 : dd ≤ 9223372036854775807) (nn : Int) (nn0 : -9223372036854775808 ≤ nn) (nn1 : nn ≤ 9223372036854775807) :
    Calls Try.prog 8 #[.agg #[.int .i64 p.w, .int .i64 p.h, .int .i64 p.d, .slice Ap p.p.length cp], .agg #[.int .i64 q.w, .int .i64 q.h, .int .i64 q.d, .slice Aq q.p.length cq], .slice A0 t.length c0, .int .i64 ww, .int .i64 hh, .int .i64 dd, .int .i64 nn] w fun e w' => e = .returned (.bool true) ∧ Below w.heap.size w w' := by
  have HK := Lib.hid (fun W => known_any W)
  have HH1 := Lib.hid (fun W (hb : Below w.heap.size w W) => heavy2_any (c := cp) (hrp.below hb (Nat.le_refl _)) hb.size hRp)
  have HH2 := Lib.hid (fun W (hb : Below w.heap.size w W) => heavy2_any (c := cq) (hrq.below hb (Nat.le_refl _)) hb.size hRq)
  have HT := Lib.hid (fun W (hb : Below w.heap.size w W) => newtape_any A0 t c0 ht hc (by omega) W (hrt.below hb (Nat.le_refl _)) hb.size)
  have HP20 := Lib.hid (fun W g (hW : TapeB W w.heap.size g) => tapepic_any hW 20 (by omega) (by omega))
  have HN1 := Lib.hid (fun W => new_any ww hh dd nn W)
  have HR1 := Lib.hid (fun W => rnew_any ww hh dd nn W)
  have HN2 := Lib.hid (fun W => new_any (bits .and .i64 ww 63 + 1) (bits .and .i64 hh 63 + 1) (bits .and .i64 dd 15 + 1) (bits .and .i64 nn 3 + 1) W)
  have HR2 := Lib.hid (fun W => rnew_any (bits .and .i64 ww 63 + 1) (bits .and .i64 hh 63 + 1) (bits .and .i64 dd 15 + 1) (bits .and .i64 nn 3 + 1) W)
  obtain ⟨m1, m1'⟩ := and63 ww
  obtain ⟨m2, m2'⟩ := and63 hh
  obtain ⟨m3, m3'⟩ := and15 dd
  obtain ⟨m4, m4'⟩ := and3 nn
  have HE2 := Lib.hid (newErr_yes ⟨m1, m1'⟩ ⟨m2, m2'⟩ ⟨m3, m3'⟩ ⟨m4, m4'⟩)
  have HS1 := Lib.hid (newPc_small ww hh dd nn)
  have HS2 := Lib.hid (newPc_small (bits .and .i64 ww 63 + 1) (bits .and .i64 hh 63 + 1) (bits .and .i64 dd 15 + 1) (bits .and .i64 nn 3 + 1))
  generalize newPc ww hh dd nn = N at *
  generalize newPc (bits .and .i64 ww 63 + 1) (bits .and .i64 hh 63 + 1) (bits .and .i64 dd 15 + 1) (bits .and .i64 nn 3 + 1) = M at *
  generalize newErr ww hh dd nn = err1 at *
  generalize newErr (bits .and .i64 ww 63 + 1) (bits .and .i64 hh 63 + 1) (bits .and .i64 dd 15 + 1) (bits .and .i64 nn 3 + 1) = err2 at *
  obtain rfl := HE2.out
  clear HE2 ht hrt
  obtain ⟨pw, ph, pd, pp⟩ := p
  obtain ⟨qw, qh, qd, qp⟩ := q
  obtain ⟨Nw, Nh, Nd, Np⟩ := N
  obtain ⟨Mw, Mh, Md, Mp⟩ := M
  simp only at *
  go_enter Try.func8, Try.ntmps8
  go_wp2_with (first
    | (go_at_call 19; (with_reducible refine (HH1.out _ (by repeat (first | exact Below.refl _ _ | refine below_alloc ?_ _))).mono ?_); rintro e w1 ⟨he, hb1⟩; have kp1 := ((Blk.new w 28 #[.int .i64 pw, .int .i64 ph, .int .i64 pd, .slice Ap pp.length cp]).alloc (.cells #[.int .i64 qw, .int .i64 qh, .int .i64 qd, .slice Aq qp.length cq] 28)).below hb1 (by simp; omega); have kq1 := (Blk.new1 w (.cells #[.int .i64 pw, .int .i64 ph, .int .i64 pd, .slice Ap pp.length cp] 28) 28 #[.int .i64 qw, .int .i64 qh, .int .i64 qd, .slice Aq qp.length cq]).below hb1 (by simp); obtain ⟨y0, y1, y2, y3, _⟩ := kq1.four; have bb1 := below_then (below_alloc (below_alloc (Below.refl w.heap.size w) _) _) hb1; rcases he with rfl | ⟨rfl, hsp⟩)
    | (go_at_call 19; (with_reducible refine (HH2.out _ bb1).mono ?_); rintro e w2 ⟨he, hb2⟩; have kp2 := kp1.below hb2 kp1.lt; have kq2 := kq1.below hb2 kq1.lt; have bb2 := below_then bb1 hb2; rcases he with rfl | ⟨rfl, hsq⟩)
    | (go_at_call 14; (with_reducible refine (HT.out _ bb2).mono ?_); rintro e w3 ⟨rfl, hT3, hb3⟩; have kp3 := kp2.below hb3 kp2.lt; have kq3 := kq2.below hb3 kq2.lt; have bb3 := below_then bb2 hb3)
    | (go_at_call 15; (with_reducible refine (HP20.out _ _ hT3).mono ?_); rintro e w4 ⟨W, H, d, px, Ax, cx, rfl, hB, _, _, ho4, _, hg4⟩; have kp4 := kp3.grown hg4 (by have := kp2.lt; simp; omega); have kq4 := kq3.grown hg4 (by have := kq2.lt; simp; omega); have bb4 : Below w.heap.size w w4 := below_only bb3 hg4 bb3.size hT3.ge)
    | (go_at_call 27; (with_reducible refine (HN1.out _).mono ?_); rintro e w5 ⟨A5, c5, rfl, hr5, hb5⟩; have zz5 := below_then (below_alloc (Below.refl w4.heap.size w4) _) hb5)
    | (go_at_call 28; (with_reducible refine (HR1.out _).mono ?_); rintro e w6 ⟨A6, c6, rfl, hr6, hb6⟩; have zz6 := below_then (below_alloc (Below.refl w5.heap.size w5) _) hb6)
    | (go_at_call 27; (with_reducible refine (HN2.out _).mono ?_); rintro e w7 ⟨A7, c7, rfl, hr7, hb7⟩; have zz7 := below_then (below_alloc (Below.refl w6.heap.size w6) _) hb7)
    | (go_at_call 28; (with_reducible refine (HR2.out _).mono ?_); rintro e w8 ⟨A8, c8, rfl, hr8, hb8⟩; have zz8 := below_then (below_alloc (Below.refl w7.heap.size w7) _) hb8))
  · go_ret
    exact ⟨rfl, bb1⟩
  · go_ret
    exact ⟨rfl, bb2⟩
  have z8 := below_alloc (Below.refl w8.heap.size w8) (.cells #[.int .i64 Mw, .int .i64 Mh, .int .i64 Md, .slice A8 Mp.length c8] 28)
  have z7 := below_then zz8 z8
  have z6 := below_then zz7 z7
  have z5 := below_then zz6 z6
  have z4 := below_then zz5 z5
  have s4 := bb4.size
  have s5 := zz5.size
  have s6 := zz6.size
  have s7 := zz7.size
  have s8 := zz8.size
  have bbs := bb4.trans (z4.mono s4)
  have kp := kp4.below z4 kp4.lt
  have kq := kq4.below z4 kq4.lt
  have kx := (Blk.new w4 28 #[.int .i64 (W : Int), .int .i64 (H : Int), .int .i64 (d : Int), .slice Ax px.length cx]).below (below_then hb5 z5) (by simp)
  have ka := (Blk.new w5 28 #[.int .i64 Nw, .int .i64 Nh, .int .i64 Nd, .slice A5 Np.length c5]).below (below_then hb6 z6) (by simp)
  have kb := (Blk.new w6 28 #[.int .i64 Nw, .int .i64 Nh, .int .i64 Nd, .slice A6 Np.length c6]).below (below_then hb7 z7) (by simp)
  have kc := (Blk.new w7 28 #[.int .i64 Mw, .int .i64 Mh, .int .i64 Md, .slice A7 Mp.length c7]).below (below_then hb8 z8) (by simp)
  have kd := Blk.new w8 28 #[.int .i64 Mw, .int .i64 Mh, .int .i64 Md, .slice A8 Mp.length c8]
  have rp := hrp.to (Nat.le_refl _) bbs
  have rq := hrq.to (Nat.le_refl _) bbs
  have rx := rdOwn ho4 z4
  have ra := hr5.to (Nat.le_refl _) z5
  have rb := hr6.to (Nat.le_refl _) z6
  have rc := hr7.to (Nat.le_refl _) z7
  have rd := hr8.to (Nat.le_refl _) z8
  generalize w8.alloc (.cells #[.int .i64 Mw, .int .i64 Mh, .int .i64 Md, .slice A8 Mp.length c8] 28) = ws at *
  have hsx := isB_small hB
  have HSE := Lib.hid (same_empty hB)
  have HSA := Lib.hid (fun W' (hb : Below ws.heap.size ws W') => same29_any (q := ⟨pw, ph, pd, pp⟩) (c := cp) (rp.to (Nat.le_refl _) hb) (Nat.le_refl _) hsp)
  have HSX := Lib.hid (fun W' (hb : Below ws.heap.size ws W') => same29_any (q := ⟨(W : Int), (H : Int), (d : Int), px⟩) (c := cx) (rx.to (Nat.le_refl _) hb) (Nat.le_refl _) hsx)
  have HPQ := Lib.hid (fun W' (hb : Below ws.heap.size ws W') => psame_any (a := ⟨pw, ph, pd, pp⟩) (b := ⟨qw, qh, qd, qp⟩) (c := cp) (c2 := cq) (rp.to (Nat.le_refl _) hb) (rq.to (Nat.le_refl _) hb) (Nat.le_refl _) (small_63 hsp))
  have HRQ := Lib.hid (fun W' (hb : Below ws.heap.size ws W') => same_any (a := ⟨pw, ph, pd, pp⟩) (b := ⟨qw, qh, qd, qp⟩) (c := cp) (c2 := cq) (rp.to (Nat.le_refl _) hb) (rq.to (Nat.le_refl _) hb) (Nat.le_refl _) (small_63 hsp))
  have HPE := fun W' (hb : Below ws.heap.size ws W') => psame_any (a := ⟨(W : Int), (H : Int), (d : Int), px⟩) (b := ⟨(W : Int), (H : Int), (d : Int), []⟩) (A2 := none) (c := cx) (c2 := 0) (rx.to (Nat.le_refl _) hb) (fun j hj => absurd hj (by simp)) (Nat.le_refl _) (small_63 hsx)
  have HAB := fun W' (hb : Below ws.heap.size ws W') => same_any (a := ⟨Nw, Nh, Nd, Np⟩) (b := ⟨Nw, Nh, Nd, Np⟩) (c := c5) (c2 := c6) (ra.to (Nat.le_refl _) hb) (rb.to (Nat.le_refl _) hb) (Nat.le_refl _) (small_63 HS1.out)
  have HCD := fun W' (hb : Below ws.heap.size ws W') => same_any (a := ⟨Mw, Mh, Md, Mp⟩) (b := ⟨Mw, Mh, Md, Mp⟩) (c := c7) (c2 := c8) (rc.to (Nat.le_refl _) hb) (rd.to (Nat.le_refl _) hb) (Nat.le_refl _) (small_63 HS2.out)
  rw [HSE.out] at HPE
  simp only [sameB_self] at HAB HCD
  generalize sameB ⟨pw, ph, pd, pp⟩ ⟨qw, qh, qd, qp⟩ = pq at *
  replace HPE := Lib.hid HPE
  replace HAB := Lib.hid HAB
  replace HCD := Lib.hid HCD
  have hee : (err1 == err1) = true := by simp
  obtain ⟨p0, p1, p2, p3, _⟩ := kp.four
  obtain ⟨q0, q1, q2, q3, _⟩ := kq.four
  obtain ⟨x0, x1, x2, x3, _⟩ := kx.four
  obtain ⟨a0, a1, a2, a3, _⟩ := ka.four
  obtain ⟨b0, b1, b2, b3, _⟩ := kb.four
  obtain ⟨c0', c1', c2', c3', _⟩ := kc.four
  obtain ⟨d0, d1, d2, d3, _⟩ := kd.four
  clear kp kq kx ka kb kc kd rp rq rx ra rb rc rd z8 z7 z6 z5 z4 zz5 zz6 zz7 zz8 hb1 hb2 hb3 hb5 hb6 hb7 hb8 kp1 kq1 kp2 kq2 kp3 kq3 kp4 kq4 ho4 hr5 hr6 hr7 hr8 hT3 hg4 HN1 HN2 HR1 HR2 HH1 HH2 HT HP20 hrp hrq HS1 HS2 HSE bb1 bb2 bb3 bb4 y0 y1 y2 y3 s4 s5 s6 s7 s8
  go_wp2
  refine wp_region_held_drew (S := (fun w' => Below ws.heap.size ws w')) (by kernel_rfl) ?_ (fun hHeld => ?_)
  focus exact (Below.refl _ _).drew
  refine wpAnyH_take (i := 0) (v := ?_) rfl (by kernel_rfl) (by kernel_rfl) (by kernel_rfl) (fun _ _ _ h => h) (Or.inl ⟨by rfl, ?_⟩) (by assumption) ?_
  rotate_left
  focus
    intro w9 hSw
    (try dsimp only at hSw)
    have zK : ∀ {a9 : Addr} {u9 : Value}, ws.cell? a9 = some u9 → w9.cell? a9 = some u9 := fun {a9} {u9} h9 => (hSw.cell (World.block_lt_of_cell? ws a9 h9)).trans h9
    have z0 := zK p0
    have z1 := zK p1
    have z2 := zK p2
    have z3 := zK p3
    clear zK hSw
    go_simp
    (try with_reducible rfl)
  (try simp only [Act.put, List.getElem_toArray, List.getElem_cons_succ, List.getElem_cons_zero, List.setIfInBounds_toArray, List.set_cons_zero, List.set_cons_succ])
  refine wpAnyH_ready (rs := [1]) (by kernel_rfl) (by simp) (AllReadyH.cons rfl (fun K hK => ?_) AllReadyH.nil)
  go_simp
  go_at_call 29
  refine (HSA.out _ (by repeat (first | exact Below.refl _ _ | assumption | refine Below.drew ?_ | refine below_drewN ?_ _ | refine below_alloc ?_ _))).mono ?_
  rintro e v1 ⟨rfl, hv1'⟩
  have hv1 := below_undrew hv1'
  clear hv1'
  refine hK.out _ _ ?_ (fun hHeld => ?_)
  focus exact hv1
  clear hK K
  (try simp only [Act.put, List.getElem_toArray, List.getElem_cons_succ, List.getElem_cons_zero, List.setIfInBounds_toArray, List.set_cons_zero, List.set_cons_succ])
  refine wpAnyH_take (i := 2) (v := ?_) rfl (by kernel_rfl) (by kernel_rfl) (by kernel_rfl) (fun _ _ _ h => h) (Or.inl ⟨by rfl, ?_⟩) (by assumption) ?_
  rotate_left
  focus
    intro w9 hSw
    (try dsimp only at hSw)
    have zK : ∀ {a9 : Addr} {u9 : Value}, ws.cell? a9 = some u9 → w9.cell? a9 = some u9 := fun {a9} {u9} h9 => (hSw.cell (World.block_lt_of_cell? ws a9 h9)).trans h9
    have z0 := zK x0
    have z1 := zK x1
    have z2 := zK x2
    have z3 := zK x3
    clear zK hSw
    go_simp
    (try with_reducible rfl)
  (try simp only [Act.put, List.getElem_toArray, List.getElem_cons_succ, List.getElem_cons_zero, List.setIfInBounds_toArray, List.set_cons_zero, List.set_cons_succ])
  refine wpAnyH_take (i := 3) (v := ?_) rfl (by kernel_rfl) (by kernel_rfl) (by kernel_rfl) (fun _ _ _ h => h) (Or.inl ⟨by rfl, ?_⟩) (by assumption) ?_
  rotate_left
  focus
    intro w9 hSw
    (try dsimp only at hSw)
    have zK : ∀ {a9 : Addr} {u9 : Value}, ws.cell? a9 = some u9 → w9.cell? a9 = some u9 := fun {a9} {u9} h9 => (hSw.cell (World.block_lt_of_cell? ws a9 h9)).trans h9
    have z0 := zK x0
    have z1 := zK x1
    have z2 := zK x2
    have z3 := zK x3
    clear zK hSw
    go_simp
    (try with_reducible rfl)
  (try simp only [Act.put, List.getElem_toArray, List.getElem_cons_succ, List.getElem_cons_zero, List.setIfInBounds_toArray, List.set_cons_zero, List.set_cons_succ])
  refine wpAnyH_ready (rs := [4]) (by kernel_rfl) (by simp) (AllReadyH.cons rfl (fun K hK => ?_) AllReadyH.nil)
  go_simp
  go_at_call 29
  refine (HSX.out _ hv1).mono ?_
  rintro e v2 ⟨rfl, hv2'⟩
  have hv2 := below_then hv1 hv2'
  refine hK.out _ _ ?_ (fun hHeld => ?_)
  focus exact hv2
  clear hK K
  (try simp only [Act.put, List.getElem_toArray, List.getElem_cons_succ, List.getElem_cons_zero, List.setIfInBounds_toArray, List.set_cons_zero, List.set_cons_succ])
  refine wpAnyH_take (i := 5) (v := ?_) rfl (by kernel_rfl) (by kernel_rfl) (by kernel_rfl) (fun _ _ _ h => h) (Or.inl ⟨by rfl, ?_⟩) (by assumption) ?_
  rotate_left
  focus
    intro w9 hSw
    (try dsimp only at hSw)
    have zK : ∀ {a9 : Addr} {u9 : Value}, ws.cell? a9 = some u9 → w9.cell? a9 = some u9 := fun {a9} {u9} h9 => (hSw.cell (World.block_lt_of_cell? ws a9 h9)).trans h9
    have z0 := zK p0
    have z1 := zK p1
    have z2 := zK p2
    have z3 := zK p3
    have z4 := zK q0
    have z5 := zK q1
    have z6 := zK q2
    have z7 := zK q3
    clear zK hSw
    go_simp
    (try with_reducible rfl)
  (try simp only [Act.put, List.getElem_toArray, List.getElem_cons_succ, List.getElem_cons_zero, List.setIfInBounds_toArray, List.set_cons_zero, List.set_cons_succ])
  refine wpAnyH_take (i := 6) (v := ?_) rfl (by kernel_rfl) (by kernel_rfl) (by kernel_rfl) (fun _ _ _ h => h) (Or.inl ⟨by rfl, ?_⟩) (by assumption) ?_
  rotate_left
  focus
    intro w9 hSw
    (try dsimp only at hSw)
    have zK : ∀ {a9 : Addr} {u9 : Value}, ws.cell? a9 = some u9 → w9.cell? a9 = some u9 := fun {a9} {u9} h9 => (hSw.cell (World.block_lt_of_cell? ws a9 h9)).trans h9
    have z0 := zK p0
    have z1 := zK p1
    have z2 := zK p2
    have z3 := zK p3
    have z4 := zK q0
    have z5 := zK q1
    have z6 := zK q2
    have z7 := zK q3
    clear zK hSw
    go_simp
    (try with_reducible rfl)
  (try simp only [Act.put, List.getElem_toArray, List.getElem_cons_succ, List.getElem_cons_zero, List.setIfInBounds_toArray, List.set_cons_zero, List.set_cons_succ])
  refine wpAnyH_take (i := 7) (v := ?_) rfl (by kernel_rfl) (by kernel_rfl) (by kernel_rfl) (fun _ _ _ h => h) (Or.inl ⟨by rfl, ?_⟩) (by assumption) ?_
  rotate_left
  focus
    intro w9 hSw
    (try dsimp only at hSw)
    have zK : ∀ {a9 : Addr} {u9 : Value}, ws.cell? a9 = some u9 → w9.cell? a9 = some u9 := fun {a9} {u9} h9 => (hSw.cell (World.block_lt_of_cell? ws a9 h9)).trans h9
    have z0 := zK p0
    have z1 := zK p1
    have z2 := zK p2
    have z3 := zK p3
    have z4 := zK q0
    have z5 := zK q1
    have z6 := zK q2
    have z7 := zK q3
    clear zK hSw
    go_simp
    (try with_reducible rfl)
  (try simp only [Act.put, List.getElem_toArray, List.getElem_cons_succ, List.getElem_cons_zero, List.setIfInBounds_toArray, List.set_cons_zero, List.set_cons_succ])
  refine wpAnyH_take (i := 8) (v := ?_) rfl (by kernel_rfl) (by kernel_rfl) (by kernel_rfl) (fun _ _ _ h => h) (Or.inl ⟨by rfl, ?_⟩) (by assumption) ?_
  rotate_left
  focus
    intro w9 hSw
    (try dsimp only at hSw)
    have zK : ∀ {a9 : Addr} {u9 : Value}, ws.cell? a9 = some u9 → w9.cell? a9 = some u9 := fun {a9} {u9} h9 => (hSw.cell (World.block_lt_of_cell? ws a9 h9)).trans h9
    have z0 := zK p0
    have z1 := zK p1
    have z2 := zK p2
    have z3 := zK p3
    have z4 := zK q0
    have z5 := zK q1
    have z6 := zK q2
    have z7 := zK q3
    clear zK hSw
    go_simp
    (try with_reducible rfl)
  (try simp only [Act.put, List.getElem_toArray, List.getElem_cons_succ, List.getElem_cons_zero, List.setIfInBounds_toArray, List.set_cons_zero, List.set_cons_succ])
  refine wpAnyH_take (i := 10) (v := ?_) rfl (by kernel_rfl) (by kernel_rfl) (by kernel_rfl) (fun _ _ _ h => h) (Or.inl ⟨by rfl, ?_⟩) (by assumption) ?_
  rotate_left
  focus
    intro w9 hSw
    (try dsimp only at hSw)
    have zK : ∀ {a9 : Addr} {u9 : Value}, ws.cell? a9 = some u9 → w9.cell? a9 = some u9 := fun {a9} {u9} h9 => (hSw.cell (World.block_lt_of_cell? ws a9 h9)).trans h9
    have z0 := zK p0
    have z1 := zK p1
    have z2 := zK p2
    have z3 := zK p3
    have z4 := zK q0
    have z5 := zK q1
    have z6 := zK q2
    have z7 := zK q3
    clear zK hSw
    go_simp
    (try with_reducible rfl)
  (try simp only [Act.put, List.getElem_toArray, List.getElem_cons_succ, List.getElem_cons_zero, List.setIfInBounds_toArray, List.set_cons_zero, List.set_cons_succ])
  refine wpAnyH_take (i := 11) (v := ?_) rfl (by kernel_rfl) (by kernel_rfl) (by kernel_rfl) (fun _ _ _ h => h) (Or.inl ⟨by rfl, ?_⟩) (by assumption) ?_
  rotate_left
  focus
    intro w9 hSw
    (try dsimp only at hSw)
    have zK : ∀ {a9 : Addr} {u9 : Value}, ws.cell? a9 = some u9 → w9.cell? a9 = some u9 := fun {a9} {u9} h9 => (hSw.cell (World.block_lt_of_cell? ws a9 h9)).trans h9
    have z0 := zK p0
    have z1 := zK p1
    have z2 := zK p2
    have z3 := zK p3
    have z4 := zK q0
    have z5 := zK q1
    have z6 := zK q2
    have z7 := zK q3
    clear zK hSw
    go_simp
    (try with_reducible rfl)
  (try simp only [Act.put, List.getElem_toArray, List.getElem_cons_succ, List.getElem_cons_zero, List.setIfInBounds_toArray, List.set_cons_zero, List.set_cons_succ])
  refine wpAnyH_ready (rs := [9]) (by kernel_rfl) (by simp) (AllReadyH.cons rfl (fun K hK => ?_) AllReadyH.nil)
  go_simp
  go_at_call 30
  refine (HPQ.out _ hv2).mono ?_
  rintro e v3 ⟨rfl, hv3'⟩
  have hv3 := below_then hv2 hv3'
  refine hK.out _ _ ?_ (fun hHeld => ?_)
  focus exact hv3
  clear hK K
  (try simp only [Act.put, List.getElem_toArray, List.getElem_cons_succ, List.getElem_cons_zero, List.setIfInBounds_toArray, List.set_cons_zero, List.set_cons_succ])
  refine wpAnyH_ready (rs := [12]) (by kernel_rfl) (by simp) (AllReadyH.cons rfl (fun K hK => ?_) AllReadyH.nil)
  go_simp
  go_at_call 25
  refine (HRQ.out _ hv3).mono ?_
  rintro e v4 ⟨rfl, hv4'⟩
  have hv4 := below_then hv3 hv4'
  refine hK.out _ _ ?_ (fun hHeld => ?_)
  focus exact hv4
  clear hK K
  (try simp only [Act.put, List.getElem_toArray, List.getElem_cons_succ, List.getElem_cons_zero, List.setIfInBounds_toArray, List.set_cons_zero, List.set_cons_succ])
  refine wpAnyH_take (i := 13) (v := ?_) rfl (by kernel_rfl) (by kernel_rfl) (by kernel_rfl) (fun _ _ _ h => h) (Or.inl ⟨by rfl, ?_⟩) (by assumption) ?_
  rotate_left
  focus
    intro w9 hSw
    (try dsimp only at hSw)
    have zK : ∀ {a9 : Addr} {u9 : Value}, ws.cell? a9 = some u9 → w9.cell? a9 = some u9 := fun {a9} {u9} h9 => (hSw.cell (World.block_lt_of_cell? ws a9 h9)).trans h9
    have z0 := zK x0
    have z1 := zK x1
    have z2 := zK x2
    have z3 := zK x3
    clear zK hSw
    go_simp
    (try with_reducible rfl)
  (try simp only [Act.put, List.getElem_toArray, List.getElem_cons_succ, List.getElem_cons_zero, List.setIfInBounds_toArray, List.set_cons_zero, List.set_cons_succ])
  refine wpAnyH_take (i := 14) (v := ?_) rfl (by kernel_rfl) (by kernel_rfl) (by kernel_rfl) (fun _ _ _ h => h) (Or.inl ⟨by rfl, ?_⟩) (by assumption) ?_
  rotate_left
  focus
    intro w9 hSw
    (try dsimp only at hSw)
    have zK : ∀ {a9 : Addr} {u9 : Value}, ws.cell? a9 = some u9 → w9.cell? a9 = some u9 := fun {a9} {u9} h9 => (hSw.cell (World.block_lt_of_cell? ws a9 h9)).trans h9
    have z0 := zK x0
    have z1 := zK x1
    have z2 := zK x2
    have z3 := zK x3
    clear zK hSw
    go_simp
    (try with_reducible rfl)
  (try simp only [Act.put, List.getElem_toArray, List.getElem_cons_succ, List.getElem_cons_zero, List.setIfInBounds_toArray, List.set_cons_zero, List.set_cons_succ])
  refine wpAnyH_take (i := 15) (v := ?_) rfl (by kernel_rfl) (by kernel_rfl) (by kernel_rfl) (fun _ _ _ h => h) (Or.inl ⟨by rfl, ?_⟩) (by assumption) ?_
  rotate_left
  focus
    intro w9 hSw
    (try dsimp only at hSw)
    have zK : ∀ {a9 : Addr} {u9 : Value}, ws.cell? a9 = some u9 → w9.cell? a9 = some u9 := fun {a9} {u9} h9 => (hSw.cell (World.block_lt_of_cell? ws a9 h9)).trans h9
    have z0 := zK x0
    have z1 := zK x1
    have z2 := zK x2
    have z3 := zK x3
    clear zK hSw
    go_simp
    (try with_reducible rfl)
  (try simp only [Act.put, List.getElem_toArray, List.getElem_cons_succ, List.getElem_cons_zero, List.setIfInBounds_toArray, List.set_cons_zero, List.set_cons_succ])
  refine wpAnyH_take (i := 16) (v := ?_) rfl (by kernel_rfl) (by kernel_rfl) (by kernel_rfl) (fun _ _ _ h => h) (Or.inl ⟨by rfl, ?_⟩) (by assumption) ?_
  rotate_left
  focus
    intro w9 hSw
    (try dsimp only at hSw)
    have zK : ∀ {a9 : Addr} {u9 : Value}, ws.cell? a9 = some u9 → w9.cell? a9 = some u9 := fun {a9} {u9} h9 => (hSw.cell (World.block_lt_of_cell? ws a9 h9)).trans h9
    have z0 := zK x0
    have z1 := zK x1
    have z2 := zK x2
    have z3 := zK x3
    clear zK hSw
    go_simp
    (try with_reducible rfl)
  (try simp only [Act.put, List.getElem_toArray, List.getElem_cons_succ, List.getElem_cons_zero, List.setIfInBounds_toArray, List.set_cons_zero, List.set_cons_succ])
  refine wpAnyH_take (i := 17) (v := ?_) rfl (by kernel_rfl) (by kernel_rfl) (by kernel_rfl) (fun _ _ _ h => h) (Or.inl ⟨by rfl, ?_⟩) (by assumption) ?_
  rotate_left
  focus
    intro w9 hSw
    (try dsimp only at hSw)
    have zK : ∀ {a9 : Addr} {u9 : Value}, ws.cell? a9 = some u9 → w9.cell? a9 = some u9 := fun {a9} {u9} h9 => (hSw.cell (World.block_lt_of_cell? ws a9 h9)).trans h9
    have z0 := zK x0
    have z1 := zK x1
    have z2 := zK x2
    have z3 := zK x3
    clear zK hSw
    go_simp
    (try with_reducible rfl)
  (try simp only [Act.put, List.getElem_toArray, List.getElem_cons_succ, List.getElem_cons_zero, List.setIfInBounds_toArray, List.set_cons_zero, List.set_cons_succ])
  refine wpAnyH_take (i := 18) (v := ?_) rfl (by kernel_rfl) (by kernel_rfl) (by kernel_rfl) (fun _ _ _ h => h) (Or.inl ⟨by rfl, ?_⟩) (by assumption) ?_
  rotate_left
  focus
    intro w9 hSw
    (try dsimp only at hSw)
    have zK : ∀ {a9 : Addr} {u9 : Value}, ws.cell? a9 = some u9 → w9.cell? a9 = some u9 := fun {a9} {u9} h9 => (hSw.cell (World.block_lt_of_cell? ws a9 h9)).trans h9
    have z0 := zK x0
    have z1 := zK x1
    have z2 := zK x2
    have z3 := zK x3
    clear zK hSw
    go_simp
    (try with_reducible rfl)
  (try simp only [Act.put, List.getElem_toArray, List.getElem_cons_succ, List.getElem_cons_zero, List.setIfInBounds_toArray, List.set_cons_zero, List.set_cons_succ])
  refine wpAnyH_take (i := 19) (v := ?_) rfl (by kernel_rfl) (by kernel_rfl) (by kernel_rfl) (fun _ _ _ h => h) (Or.inl ⟨by rfl, ?_⟩) (by assumption) ?_
  rotate_left
  focus
    intro w9 hSw
    (try dsimp only at hSw)
    have zK : ∀ {a9 : Addr} {u9 : Value}, ws.cell? a9 = some u9 → w9.cell? a9 = some u9 := fun {a9} {u9} h9 => (hSw.cell (World.block_lt_of_cell? ws a9 h9)).trans h9
    have z0 := zK x0
    have z1 := zK x1
    have z2 := zK x2
    have z3 := zK x3
    clear zK hSw
    go_simp
    (try with_reducible rfl)
  (try simp only [Act.put, List.getElem_toArray, List.getElem_cons_succ, List.getElem_cons_zero, List.setIfInBounds_toArray, List.set_cons_zero, List.set_cons_succ])
  refine wpAnyH_take (i := 20) (v := ?_) rfl (by kernel_rfl) (by kernel_rfl) (by kernel_rfl) (fun _ _ _ h => h) (Or.inl ⟨by rfl, ?_⟩) (by assumption) ?_
  rotate_left
  focus
    intro w9 hSw
    (try dsimp only at hSw)
    have zK : ∀ {a9 : Addr} {u9 : Value}, ws.cell? a9 = some u9 → w9.cell? a9 = some u9 := fun {a9} {u9} h9 => (hSw.cell (World.block_lt_of_cell? ws a9 h9)).trans h9
    have z0 := zK x0
    have z1 := zK x1
    have z2 := zK x2
    have z3 := zK x3
    clear zK hSw
    go_simp
    (try with_reducible rfl)
  (try simp only [Act.put, List.getElem_toArray, List.getElem_cons_succ, List.getElem_cons_zero, List.setIfInBounds_toArray, List.set_cons_zero, List.set_cons_succ])
  refine wpAnyH_take (i := 21) (v := ?_) rfl (by kernel_rfl) (by kernel_rfl) (by kernel_rfl) (fun _ _ _ h => h) (Or.inl ⟨by rfl, ?_⟩) (by assumption) ?_
  rotate_left
  focus
    intro w9 hSw
    (try dsimp only at hSw)
    have zK : ∀ {a9 : Addr} {u9 : Value}, ws.cell? a9 = some u9 → w9.cell? a9 = some u9 := fun {a9} {u9} h9 => (hSw.cell (World.block_lt_of_cell? ws a9 h9)).trans h9
    have z0 := zK x0
    have z1 := zK x1
    have z2 := zK x2
    have z3 := zK x3
    clear zK hSw
    go_simp
    (try with_reducible rfl)
  (try simp only [Act.put, List.getElem_toArray, List.getElem_cons_succ, List.getElem_cons_zero, List.setIfInBounds_toArray, List.set_cons_zero, List.set_cons_succ])
  refine wpAnyH_take (i := 22) (v := ?_) rfl (by kernel_rfl) (by kernel_rfl) (by kernel_rfl) (fun _ _ _ h => h) (Or.inl ⟨by rfl, ?_⟩) (by assumption) ?_
  rotate_left
  focus
    intro w9 hSw
    (try dsimp only at hSw)
    have zK : ∀ {a9 : Addr} {u9 : Value}, ws.cell? a9 = some u9 → w9.cell? a9 = some u9 := fun {a9} {u9} h9 => (hSw.cell (World.block_lt_of_cell? ws a9 h9)).trans h9
    have z0 := zK x0
    have z1 := zK x1
    have z2 := zK x2
    have z3 := zK x3
    clear zK hSw
    go_simp
    (try with_reducible rfl)
  (try simp only [Act.put, List.getElem_toArray, List.getElem_cons_succ, List.getElem_cons_zero, List.setIfInBounds_toArray, List.set_cons_zero, List.set_cons_succ])
  refine wpAnyH_take (i := 23) (v := ?_) rfl (by kernel_rfl) (by kernel_rfl) (by kernel_rfl) (fun _ _ _ h => h) (Or.inl ⟨by rfl, ?_⟩) (by assumption) ?_
  rotate_left
  focus
    intro w9 hSw
    (try dsimp only at hSw)
    have zK : ∀ {a9 : Addr} {u9 : Value}, ws.cell? a9 = some u9 → w9.cell? a9 = some u9 := fun {a9} {u9} h9 => (hSw.cell (World.block_lt_of_cell? ws a9 h9)).trans h9
    have z0 := zK x0
    have z1 := zK x1
    have z2 := zK x2
    have z3 := zK x3
    clear zK hSw
    go_simp
    (try with_reducible rfl)
  (try simp only [Act.put, List.getElem_toArray, List.getElem_cons_succ, List.getElem_cons_zero, List.setIfInBounds_toArray, List.set_cons_zero, List.set_cons_succ])
  refine wpAnyH_ready (rs := [24]) (by kernel_rfl) (by simp) (AllReadyH.cons rfl (fun K hK => ?_) AllReadyH.nil)
  go_simp
  go_at_call 30
  refine (HPE.out _ hv4).mono ?_
  rintro e v5 ⟨rfl, hv5'⟩
  have hv5 := below_then hv4 hv5'
  refine hK.out _ _ ?_ (fun hHeld => ?_)
  focus exact hv5
  clear hK K
  (try simp only [Act.put, List.getElem_toArray, List.getElem_cons_succ, List.getElem_cons_zero, List.setIfInBounds_toArray, List.set_cons_zero, List.set_cons_succ])
  refine wpAnyH_take (i := 25) (v := ?_) rfl (by kernel_rfl) (by kernel_rfl) (by kernel_rfl) (fun _ _ _ h => h) (Or.inl ⟨by rfl, ?_⟩) (by assumption) ?_
  rotate_left
  focus
    intro w9 hSw
    (try dsimp only at hSw)
    have zK : ∀ {a9 : Addr} {u9 : Value}, ws.cell? a9 = some u9 → w9.cell? a9 = some u9 := fun {a9} {u9} h9 => (hSw.cell (World.block_lt_of_cell? ws a9 h9)).trans h9
    have z0 := zK a0
    have z1 := zK a1
    have z2 := zK a2
    have z3 := zK a3
    have z4 := zK b0
    have z5 := zK b1
    have z6 := zK b2
    have z7 := zK b3
    clear zK hSw
    go_simp
    (try with_reducible rfl)
  (try simp only [Act.put, List.getElem_toArray, List.getElem_cons_succ, List.getElem_cons_zero, List.setIfInBounds_toArray, List.set_cons_zero, List.set_cons_succ])
  refine wpAnyH_take (i := 26) (v := ?_) rfl (by kernel_rfl) (by kernel_rfl) (by kernel_rfl) (fun _ _ _ h => h) (Or.inl ⟨by rfl, ?_⟩) (by assumption) ?_
  rotate_left
  focus
    intro w9 hSw
    (try dsimp only at hSw)
    have zK : ∀ {a9 : Addr} {u9 : Value}, ws.cell? a9 = some u9 → w9.cell? a9 = some u9 := fun {a9} {u9} h9 => (hSw.cell (World.block_lt_of_cell? ws a9 h9)).trans h9
    have z0 := zK a0
    have z1 := zK a1
    have z2 := zK a2
    have z3 := zK a3
    have z4 := zK b0
    have z5 := zK b1
    have z6 := zK b2
    have z7 := zK b3
    clear zK hSw
    go_simp
    (try with_reducible rfl)
  (try simp only [Act.put, List.getElem_toArray, List.getElem_cons_succ, List.getElem_cons_zero, List.setIfInBounds_toArray, List.set_cons_zero, List.set_cons_succ])
  refine wpAnyH_take (i := 27) (v := ?_) rfl (by kernel_rfl) (by kernel_rfl) (by kernel_rfl) (fun _ _ _ h => h) (Or.inl ⟨by rfl, ?_⟩) (by assumption) ?_
  rotate_left
  focus
    intro w9 hSw
    (try dsimp only at hSw)
    have zK : ∀ {a9 : Addr} {u9 : Value}, ws.cell? a9 = some u9 → w9.cell? a9 = some u9 := fun {a9} {u9} h9 => (hSw.cell (World.block_lt_of_cell? ws a9 h9)).trans h9
    have z0 := zK a0
    have z1 := zK a1
    have z2 := zK a2
    have z3 := zK a3
    have z4 := zK b0
    have z5 := zK b1
    have z6 := zK b2
    have z7 := zK b3
    clear zK hSw
    go_simp
    (try with_reducible rfl)
  (try simp only [Act.put, List.getElem_toArray, List.getElem_cons_succ, List.getElem_cons_zero, List.setIfInBounds_toArray, List.set_cons_zero, List.set_cons_succ])
  refine wpAnyH_take (i := 28) (v := ?_) rfl (by kernel_rfl) (by kernel_rfl) (by kernel_rfl) (fun _ _ _ h => h) (Or.inl ⟨by rfl, ?_⟩) (by assumption) ?_
  rotate_left
  focus
    intro w9 hSw
    (try dsimp only at hSw)
    have zK : ∀ {a9 : Addr} {u9 : Value}, ws.cell? a9 = some u9 → w9.cell? a9 = some u9 := fun {a9} {u9} h9 => (hSw.cell (World.block_lt_of_cell? ws a9 h9)).trans h9
    have z0 := zK a0
    have z1 := zK a1
    have z2 := zK a2
    have z3 := zK a3
    have z4 := zK b0
    have z5 := zK b1
    have z6 := zK b2
    have z7 := zK b3
    clear zK hSw
    go_simp
    (try with_reducible rfl)
  (try simp only [Act.put, List.getElem_toArray, List.getElem_cons_succ, List.getElem_cons_zero, List.setIfInBounds_toArray, List.set_cons_zero, List.set_cons_succ])
  refine wpAnyH_take (i := 29) (v := ?_) rfl (by kernel_rfl) (by kernel_rfl) (by kernel_rfl) (fun _ _ _ h => h) (Or.inl ⟨by rfl, ?_⟩) (by assumption) ?_
  rotate_left
  focus
    intro w9 hSw
    (try dsimp only at hSw)
    have zK : ∀ {a9 : Addr} {u9 : Value}, ws.cell? a9 = some u9 → w9.cell? a9 = some u9 := fun {a9} {u9} h9 => (hSw.cell (World.block_lt_of_cell? ws a9 h9)).trans h9
    have z0 := zK a0
    have z1 := zK a1
    have z2 := zK a2
    have z3 := zK a3
    have z4 := zK b0
    have z5 := zK b1
    have z6 := zK b2
    have z7 := zK b3
    clear zK hSw
    go_simp
    (try with_reducible rfl)
  (try simp only [Act.put, List.getElem_toArray, List.getElem_cons_succ, List.getElem_cons_zero, List.setIfInBounds_toArray, List.set_cons_zero, List.set_cons_succ])
  refine wpAnyH_ready (rs := [30]) (by kernel_rfl) (by simp) (AllReadyH.cons rfl (fun K hK => ?_) AllReadyH.nil)
  go_simp
  go_at_call 25
  refine (HAB.out _ hv5).mono ?_
  rintro e v6 ⟨rfl, hv6'⟩
  have hv6 := below_then hv5 hv6'
  refine hK.out _ _ ?_ (fun hHeld => ?_)
  focus exact hv6
  clear hK K
  (try simp only [Act.put, List.getElem_toArray, List.getElem_cons_succ, List.getElem_cons_zero, List.setIfInBounds_toArray, List.set_cons_zero, List.set_cons_succ])
  refine wpAnyH_take (i := 31) (v := ?_) rfl (by kernel_rfl) (by kernel_rfl) (by kernel_rfl) (fun _ _ _ h => h) (Or.inl ⟨by rfl, ?_⟩) (by assumption) ?_
  rotate_left
  focus
    intro w9 hSw
    (try dsimp only at hSw)
    have zK : ∀ {a9 : Addr} {u9 : Value}, ws.cell? a9 = some u9 → w9.cell? a9 = some u9 := fun {a9} {u9} h9 => (hSw.cell (World.block_lt_of_cell? ws a9 h9)).trans h9
    have z0 := zK c0'
    have z1 := zK c1'
    have z2 := zK c2'
    have z3 := zK c3'
    have z4 := zK d0
    have z5 := zK d1
    have z6 := zK d2
    have z7 := zK d3
    clear zK hSw
    go_simp
    (try with_reducible rfl)
  (try simp only [Act.put, List.getElem_toArray, List.getElem_cons_succ, List.getElem_cons_zero, List.setIfInBounds_toArray, List.set_cons_zero, List.set_cons_succ])
  refine wpAnyH_take (i := 32) (v := ?_) rfl (by kernel_rfl) (by kernel_rfl) (by kernel_rfl) (fun _ _ _ h => h) (Or.inl ⟨by rfl, ?_⟩) (by assumption) ?_
  rotate_left
  focus
    intro w9 hSw
    (try dsimp only at hSw)
    have zK : ∀ {a9 : Addr} {u9 : Value}, ws.cell? a9 = some u9 → w9.cell? a9 = some u9 := fun {a9} {u9} h9 => (hSw.cell (World.block_lt_of_cell? ws a9 h9)).trans h9
    have z0 := zK c0'
    have z1 := zK c1'
    have z2 := zK c2'
    have z3 := zK c3'
    have z4 := zK d0
    have z5 := zK d1
    have z6 := zK d2
    have z7 := zK d3
    clear zK hSw
    go_simp
    (try with_reducible rfl)
  (try simp only [Act.put, List.getElem_toArray, List.getElem_cons_succ, List.getElem_cons_zero, List.setIfInBounds_toArray, List.set_cons_zero, List.set_cons_succ])
  refine wpAnyH_take (i := 33) (v := ?_) rfl (by kernel_rfl) (by kernel_rfl) (by kernel_rfl) (fun _ _ _ h => h) (Or.inl ⟨by rfl, ?_⟩) (by assumption) ?_
  rotate_left
  focus
    intro w9 hSw
    (try dsimp only at hSw)
    have zK : ∀ {a9 : Addr} {u9 : Value}, ws.cell? a9 = some u9 → w9.cell? a9 = some u9 := fun {a9} {u9} h9 => (hSw.cell (World.block_lt_of_cell? ws a9 h9)).trans h9
    have z0 := zK c0'
    have z1 := zK c1'
    have z2 := zK c2'
    have z3 := zK c3'
    have z4 := zK d0
    have z5 := zK d1
    have z6 := zK d2
    have z7 := zK d3
    clear zK hSw
    go_simp
    (try with_reducible rfl)
  (try simp only [Act.put, List.getElem_toArray, List.getElem_cons_succ, List.getElem_cons_zero, List.setIfInBounds_toArray, List.set_cons_zero, List.set_cons_succ])
  refine wpAnyH_take (i := 34) (v := ?_) rfl (by kernel_rfl) (by kernel_rfl) (by kernel_rfl) (fun _ _ _ h => h) (Or.inl ⟨by rfl, ?_⟩) (by assumption) ?_
  rotate_left
  focus
    intro w9 hSw
    (try dsimp only at hSw)
    have zK : ∀ {a9 : Addr} {u9 : Value}, ws.cell? a9 = some u9 → w9.cell? a9 = some u9 := fun {a9} {u9} h9 => (hSw.cell (World.block_lt_of_cell? ws a9 h9)).trans h9
    have z0 := zK c0'
    have z1 := zK c1'
    have z2 := zK c2'
    have z3 := zK c3'
    have z4 := zK d0
    have z5 := zK d1
    have z6 := zK d2
    have z7 := zK d3
    clear zK hSw
    go_simp
    (try with_reducible rfl)
  (try simp only [Act.put, List.getElem_toArray, List.getElem_cons_succ, List.getElem_cons_zero, List.setIfInBounds_toArray, List.set_cons_zero, List.set_cons_succ])
  refine wpAnyH_take (i := 35) (v := ?_) rfl (by kernel_rfl) (by kernel_rfl) (by kernel_rfl) (fun _ _ _ h => h) (Or.inl ⟨by rfl, ?_⟩) (by assumption) ?_
  rotate_left
  focus
    intro w9 hSw
    (try dsimp only at hSw)
    have zK : ∀ {a9 : Addr} {u9 : Value}, ws.cell? a9 = some u9 → w9.cell? a9 = some u9 := fun {a9} {u9} h9 => (hSw.cell (World.block_lt_of_cell? ws a9 h9)).trans h9
    have z0 := zK c0'
    have z1 := zK c1'
    have z2 := zK c2'
    have z3 := zK c3'
    have z4 := zK d0
    have z5 := zK d1
    have z6 := zK d2
    have z7 := zK d3
    clear zK hSw
    go_simp
    (try with_reducible rfl)
  (try simp only [Act.put, List.getElem_toArray, List.getElem_cons_succ, List.getElem_cons_zero, List.setIfInBounds_toArray, List.set_cons_zero, List.set_cons_succ])
  refine wpAnyH_take (i := 36) (v := ?_) rfl (by kernel_rfl) (by kernel_rfl) (by kernel_rfl) (fun _ _ _ h => h) (Or.inl ⟨by rfl, ?_⟩) (by assumption) ?_
  rotate_left
  focus
    intro w9 hSw
    (try dsimp only at hSw)
    have zK : ∀ {a9 : Addr} {u9 : Value}, ws.cell? a9 = some u9 → w9.cell? a9 = some u9 := fun {a9} {u9} h9 => (hSw.cell (World.block_lt_of_cell? ws a9 h9)).trans h9
    have z0 := zK c0'
    have z1 := zK c1'
    have z2 := zK c2'
    have z3 := zK c3'
    have z4 := zK d0
    have z5 := zK d1
    have z6 := zK d2
    have z7 := zK d3
    clear zK hSw
    go_simp
    (try with_reducible rfl)
  (try simp only [Act.put, List.getElem_toArray, List.getElem_cons_succ, List.getElem_cons_zero, List.setIfInBounds_toArray, List.set_cons_zero, List.set_cons_succ])
  refine wpAnyH_take (i := 37) (v := ?_) rfl (by kernel_rfl) (by kernel_rfl) (by kernel_rfl) (fun _ _ _ h => h) (Or.inl ⟨by rfl, ?_⟩) (by assumption) ?_
  rotate_left
  focus
    intro w9 hSw
    (try dsimp only at hSw)
    have zK : ∀ {a9 : Addr} {u9 : Value}, ws.cell? a9 = some u9 → w9.cell? a9 = some u9 := fun {a9} {u9} h9 => (hSw.cell (World.block_lt_of_cell? ws a9 h9)).trans h9
    have z0 := zK c0'
    have z1 := zK c1'
    have z2 := zK c2'
    have z3 := zK c3'
    have z4 := zK d0
    have z5 := zK d1
    have z6 := zK d2
    have z7 := zK d3
    clear zK hSw
    go_simp
    (try with_reducible rfl)
  (try simp only [Act.put, List.getElem_toArray, List.getElem_cons_succ, List.getElem_cons_zero, List.setIfInBounds_toArray, List.set_cons_zero, List.set_cons_succ])
  refine wpAnyH_take (i := 38) (v := ?_) rfl (by kernel_rfl) (by kernel_rfl) (by kernel_rfl) (fun _ _ _ h => h) (Or.inl ⟨by rfl, ?_⟩) (by assumption) ?_
  rotate_left
  focus
    intro w9 hSw
    (try dsimp only at hSw)
    have zK : ∀ {a9 : Addr} {u9 : Value}, ws.cell? a9 = some u9 → w9.cell? a9 = some u9 := fun {a9} {u9} h9 => (hSw.cell (World.block_lt_of_cell? ws a9 h9)).trans h9
    have z0 := zK c0'
    have z1 := zK c1'
    have z2 := zK c2'
    have z3 := zK c3'
    have z4 := zK d0
    have z5 := zK d1
    have z6 := zK d2
    have z7 := zK d3
    clear zK hSw
    go_simp
    (try with_reducible rfl)
  (try simp only [Act.put, List.getElem_toArray, List.getElem_cons_succ, List.getElem_cons_zero, List.setIfInBounds_toArray, List.set_cons_zero, List.set_cons_succ])
  refine wpAnyH_take (i := 39) (v := ?_) rfl (by kernel_rfl) (by kernel_rfl) (by kernel_rfl) (fun _ _ _ h => h) (Or.inl ⟨by rfl, ?_⟩) (by assumption) ?_
  rotate_left
  focus
    intro w9 hSw
    (try dsimp only at hSw)
    have zK : ∀ {a9 : Addr} {u9 : Value}, ws.cell? a9 = some u9 → w9.cell? a9 = some u9 := fun {a9} {u9} h9 => (hSw.cell (World.block_lt_of_cell? ws a9 h9)).trans h9
    have z0 := zK c0'
    have z1 := zK c1'
    have z2 := zK c2'
    have z3 := zK c3'
    have z4 := zK d0
    have z5 := zK d1
    have z6 := zK d2
    have z7 := zK d3
    clear zK hSw
    go_simp
    (try with_reducible rfl)
  (try simp only [Act.put, List.getElem_toArray, List.getElem_cons_succ, List.getElem_cons_zero, List.setIfInBounds_toArray, List.set_cons_zero, List.set_cons_succ])
  refine wpAnyH_ready (rs := [40]) (by kernel_rfl) (by simp) (AllReadyH.cons rfl (fun K hK => ?_) AllReadyH.nil)
  go_simp
  go_at_call 25
  refine (HCD.out _ hv6).mono ?_
  rintro e v7 ⟨rfl, hv7'⟩
  have hv7 := below_then hv6 hv7'
  refine hK.out _ _ ?_ (fun hHeld => ?_)
  focus exact hv7
  clear hK K
  (try simp only [Act.put, List.getElem_toArray, List.getElem_cons_succ, List.getElem_cons_zero, List.setIfInBounds_toArray, List.set_cons_zero, List.set_cons_succ])
  refine wpAnyH_take (i := 41) (v := ?_) rfl (by kernel_rfl) (by kernel_rfl) (by kernel_rfl) (fun _ _ _ h => h) (Or.inl ⟨by rfl, ?_⟩) (by assumption) ?_
  rotate_left
  focus
    intro w9 hSw
    (try dsimp only at hSw)
    have zK : ∀ {a9 : Addr} {u9 : Value}, ws.cell? a9 = some u9 → w9.cell? a9 = some u9 := fun {a9} {u9} h9 => (hSw.cell (World.block_lt_of_cell? ws a9 h9)).trans h9
    have z0 := zK p0
    have z1 := zK p1
    have z2 := zK p2
    have z3 := zK p3
    clear zK hSw
    go_simp
    (try with_reducible rfl)
  (try simp only [Act.put, List.getElem_toArray, List.getElem_cons_succ, List.getElem_cons_zero, List.setIfInBounds_toArray, List.set_cons_zero, List.set_cons_succ])
  refine wpAnyH_take (i := 42) (v := ?_) rfl (by kernel_rfl) (by kernel_rfl) (by kernel_rfl) (fun _ _ _ h => h) (Or.inl ⟨by rfl, ?_⟩) (by assumption) ?_
  rotate_left
  focus
    intro w9 hSw
    (try dsimp only at hSw)
    have zK : ∀ {a9 : Addr} {u9 : Value}, ws.cell? a9 = some u9 → w9.cell? a9 = some u9 := fun {a9} {u9} h9 => (hSw.cell (World.block_lt_of_cell? ws a9 h9)).trans h9
    have z0 := zK p0
    have z1 := zK p1
    have z2 := zK p2
    have z3 := zK p3
    clear zK hSw
    go_simp
    (try with_reducible rfl)
  (try simp only [Act.put, List.getElem_toArray, List.getElem_cons_succ, List.getElem_cons_zero, List.setIfInBounds_toArray, List.set_cons_zero, List.set_cons_succ])
  refine wpAnyH_take (i := 43) (v := ?_) rfl (by kernel_rfl) (by kernel_rfl) (by kernel_rfl) (fun _ _ _ h => h) (Or.inl ⟨by rfl, ?_⟩) (by assumption) ?_
  rotate_left
  focus
    intro w9 hSw
    (try dsimp only at hSw)
    have zK : ∀ {a9 : Addr} {u9 : Value}, ws.cell? a9 = some u9 → w9.cell? a9 = some u9 := fun {a9} {u9} h9 => (hSw.cell (World.block_lt_of_cell? ws a9 h9)).trans h9
    have z0 := zK p0
    have z1 := zK p1
    have z2 := zK p2
    have z3 := zK p3
    clear zK hSw
    go_simp
    (try with_reducible rfl)
  (try simp only [Act.put, List.getElem_toArray, List.getElem_cons_succ, List.getElem_cons_zero, List.setIfInBounds_toArray, List.set_cons_zero, List.set_cons_succ])
  refine wpAnyH_take (i := 44) (v := ?_) rfl (by kernel_rfl) (by kernel_rfl) (by kernel_rfl) (fun _ _ _ h => h) (Or.inl ⟨by rfl, ?_⟩) (by assumption) ?_
  rotate_left
  focus
    intro w9 hSw
    (try dsimp only at hSw)
    have zK : ∀ {a9 : Addr} {u9 : Value}, ws.cell? a9 = some u9 → w9.cell? a9 = some u9 := fun {a9} {u9} h9 => (hSw.cell (World.block_lt_of_cell? ws a9 h9)).trans h9
    have z0 := zK p0
    have z1 := zK p1
    have z2 := zK p2
    have z3 := zK p3
    clear zK hSw
    go_simp
    (try with_reducible rfl)
  (try simp only [Act.put, List.getElem_toArray, List.getElem_cons_succ, List.getElem_cons_zero, List.setIfInBounds_toArray, List.set_cons_zero, List.set_cons_succ])
  refine wpAnyH_take (i := 45) (v := ?_) rfl (by kernel_rfl) (by kernel_rfl) (by kernel_rfl) (fun _ _ _ h => h) (Or.inl ⟨by rfl, ?_⟩) (by assumption) ?_
  rotate_left
  focus
    intro w9 hSw
    (try dsimp only at hSw)
    have zK : ∀ {a9 : Addr} {u9 : Value}, ws.cell? a9 = some u9 → w9.cell? a9 = some u9 := fun {a9} {u9} h9 => (hSw.cell (World.block_lt_of_cell? ws a9 h9)).trans h9
    have z0 := zK p0
    have z1 := zK p1
    have z2 := zK p2
    have z3 := zK p3
    clear zK hSw
    go_simp
    (try with_reducible rfl)
  (try simp only [Act.put, List.getElem_toArray, List.getElem_cons_succ, List.getElem_cons_zero, List.setIfInBounds_toArray, List.set_cons_zero, List.set_cons_succ])
  refine wpAnyH_take (i := 46) (v := ?_) rfl (by kernel_rfl) (by kernel_rfl) (by kernel_rfl) (fun _ _ _ h => h) (Or.inl ⟨by rfl, ?_⟩) (by assumption) ?_
  rotate_left
  focus
    intro w9 hSw
    (try dsimp only at hSw)
    have zK : ∀ {a9 : Addr} {u9 : Value}, ws.cell? a9 = some u9 → w9.cell? a9 = some u9 := fun {a9} {u9} h9 => (hSw.cell (World.block_lt_of_cell? ws a9 h9)).trans h9
    have z0 := zK p0
    have z1 := zK p1
    have z2 := zK p2
    have z3 := zK p3
    clear zK hSw
    go_simp
    (try with_reducible rfl)
  (try simp only [Act.put, List.getElem_toArray, List.getElem_cons_succ, List.getElem_cons_zero, List.setIfInBounds_toArray, List.set_cons_zero, List.set_cons_succ])
  refine wpAnyH_ready (rs := [47]) (by kernel_rfl) (by simp) (AllReadyH.cons rfl (fun K hK => ?_) AllReadyH.nil)
  go_simp
  go_at_call 13
  refine (HK.out _).mono ?_
  rintro e v8 ⟨rfl, hv8'⟩
  have hv8 := below_then hv7 hv8'
  refine hK.out _ _ ?_ (fun hHeld => ?_)
  focus exact hv8
  clear hK K
  (try simp only [Act.put, List.getElem_toArray, List.getElem_cons_succ, List.getElem_cons_zero, List.setIfInBounds_toArray, List.set_cons_zero, List.set_cons_succ])
  refine wpAnyH_take (i := 48) (v := ?_) rfl (by kernel_rfl) (by kernel_rfl) (by kernel_rfl) (fun _ _ _ h => h) (Or.inl ⟨by rfl, ?_⟩) (by assumption) ?_
  rotate_left
  focus
    intro w9 hSw
    (try dsimp only at hSw)
    have zK : ∀ {a9 : Addr} {u9 : Value}, ws.cell? a9 = some u9 → w9.cell? a9 = some u9 := fun {a9} {u9} h9 => (hSw.cell (World.block_lt_of_cell? ws a9 h9)).trans h9
    have z0 := zK p0
    have z1 := zK p1
    have z2 := zK p2
    have z3 := zK p3
    clear zK hSw
    go_simp
    (try with_reducible rfl)
  (try simp only [Act.put, List.getElem_toArray, List.getElem_cons_succ, List.getElem_cons_zero, List.setIfInBounds_toArray, List.set_cons_zero, List.set_cons_succ])
  refine wpAnyH_take (i := 49) (v := ?_) rfl (by kernel_rfl) (by kernel_rfl) (by kernel_rfl) (fun _ _ _ h => h) (Or.inl ⟨by rfl, ?_⟩) (by assumption) ?_
  rotate_left
  focus
    intro w9 hSw
    (try dsimp only at hSw)
    have zK : ∀ {a9 : Addr} {u9 : Value}, ws.cell? a9 = some u9 → w9.cell? a9 = some u9 := fun {a9} {u9} h9 => (hSw.cell (World.block_lt_of_cell? ws a9 h9)).trans h9
    have z0 := zK p0
    have z1 := zK p1
    have z2 := zK p2
    have z3 := zK p3
    clear zK hSw
    go_simp
    (try with_reducible rfl)
  (try simp only [Act.put, List.getElem_toArray, List.getElem_cons_succ, List.getElem_cons_zero, List.setIfInBounds_toArray, List.set_cons_zero, List.set_cons_succ])
  refine wpAnyH_done (by kernel_rfl) ?_ _
  (try simp only [Act.put, List.getElem_toArray, List.getElem_cons_succ, List.getElem_cons_zero, List.setIfInBounds_toArray, List.set_cons_zero, List.set_cons_succ])
  go_wp2
  go_ret
  exact ⟨rfl, bbs.trans (hv8.mono bbs.size)⟩
end Go.Proofs.Ytbmgnclfecejeaa.picTells
