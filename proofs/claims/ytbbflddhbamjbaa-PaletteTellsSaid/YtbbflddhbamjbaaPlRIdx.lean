/- The reference's PalIndex. -/
import Derived.Test.YtbbflddhbamjbaaPlIdx
import Derived.Test.YtbbflddhbamjbaaRColour
import Derived.Test.YtbbflddhbamjbaaPicRIs
import Derived.Test.YtbbflddhbamjbaaLb
set_option linter.unusedSimpArgs false
set_option linter.unusedVariables false
namespace Go.Proofs.Ytbbflddhbamjbaa
open Go.RowKit

set_option maxHeartbeats 4000000 in
set_option maxRecDepth 100000 in
theorem ridx_head {q : Pc} {A A2 : Option Addr} {c c2 : Nat} {P : Pal} {w : World} {B : Nat} (hr : RdLL w B .i64 A q.p) (hr2 : RdLL w B .i64 A2 P.c) (hB : B ≤ w.heap.size) (hc2 : P.c.length ≤ c2) (h63 : Len63 P.c) (h63q : Len63 q.p) (h : idxOk q P = false) :
    Calls Try.prog 41 #[picV q A c, palV P A2 c2] w (IdxPost w [] false) := by
  have HMy := fun W (hb : Below w.heap.size w W) => rmay_any (c := c2) (hr2.below hb hB) (Nat.le_trans hB hb.size) hc2 h63
  have HIs := fun W (hb : Below w.heap.size w W) => picis_any (c := c) (hr.below hb hB) (Nat.le_trans hB hb.size) h63q
  have HB0 := Lib.hid (show Below w.heap.size w ((w.alloc (.cells #[.int .i64 q.w, .int .i64 q.h, .int .i64 q.d, .slice A q.p.length c] 30)).alloc (.cells #[.int .i64 P.d, .int .i64 P.n, .slice A2 P.c.length c2] 25)) from below_alloc (below_alloc (Below.refl _ _) _) _)
  have HPic := Lib.hid (show Blk ((w.alloc (.cells #[.int .i64 q.w, .int .i64 q.h, .int .i64 q.d, .slice A q.p.length c] 30)).alloc (.cells #[.int .i64 P.d, .int .i64 P.n, .slice A2 P.c.length c2] 25)) w.heap.size 30 #[.int .i64 q.w, .int .i64 q.h, .int .i64 q.d, .slice A q.p.length c] from (Blk.new w _ _).alloc _)
  have HPal := Lib.hid (show Blk ((w.alloc (.cells #[.int .i64 q.w, .int .i64 q.h, .int .i64 q.d, .slice A q.p.length c] 30)).alloc (.cells #[.int .i64 P.d, .int .i64 P.n, .slice A2 P.c.length c2] 25)) (w.heap.size + 1) 25 #[.int .i64 P.d, .int .i64 P.n, .slice A2 P.c.length c2] from Blk.new1 w _ _ _)
  have hw : palV P A2 c2 = .agg #[.int .i64 P.d, .int .i64 P.n, .slice A2 P.c.length c2] := rfl
  have hw2 : picV q A c = .agg #[.int .i64 q.w, .int .i64 q.h, .int .i64 q.d, .slice A q.p.length c] := rfl
  rw [hw] at HMy ⊢
  rw [hw2]
  cases hp : palB P with
  | false =>
    simp only [hp] at HMy
    have HMy := Lib.hid HMy
    clear h hp hw hw2 HIs HPic HPal
    go_enter Try.func41, Try.ntmps41
    go_wp2_with (first
      | (go_at_call 28; (with_reducible refine (HMy.out _ (by repeat (first | exact Below.refl _ _ | assumption | refine Below.drew ?_ | refine below_drewN ?_ _ | refine below_alloc ?_ _))).mono ?_); rintro e w1 ⟨rfl, hb1⟩))
    go_ret2
    exact IdxPost.none_ rfl (below_then HB0.out hb1)
  | true =>
    simp only [hp] at HMy
    have HMy := Lib.hid HMy
    cases hq : isB q with
    | false =>
      simp only [hq] at HIs
      have HIs := Lib.hid HIs
      clear h hp hq hw hw2 HPal
      go_enter Try.func41, Try.ntmps41
      go_wp2_with (first
        | (go_at_call 28; (with_reducible refine (HMy.out _ HB0.out).mono ?_); rintro e w1 ⟨rfl, hb1⟩; have kq := HPic.out.below hb1 (by simp; omega); obtain ⟨x0, x1, x2, x3, _⟩ := kq.four)
        | (go_at_call 29; (with_reducible refine (HIs.out _ (below_then HB0.out hb1)).mono ?_); rintro e w2 ⟨rfl, hb2⟩))
      go_ret2
      exact IdxPost.none_ rfl (below_then (below_then HB0.out hb1) hb2)
    | true =>
      simp only [hq] at HIs
      have HIs := Lib.hid HIs
      rw [idxOk, hp, hq, Bool.true_and, Bool.true_and, Bool.and_eq_false_iff, decide_eq_false_iff_not, decide_eq_false_iff_not] at h
      have hcase : ¬ P.d = q.d ∨ (P.d = q.d ∧ ¬ P.n = q.p.length) := by omega
      clear h hp hq hw hw2
      have HC := Lib.hid hcase
      clear hcase
      rcases HC.out with h1 | ⟨h1, h2⟩
      · have t1 : (q.d != P.d) = true := by simp; omega
        clear h1
        go_enter Try.func41, Try.ntmps41
        go_wp2_with (first
          | (go_at_call 28; (with_reducible refine (HMy.out _ HB0.out).mono ?_); rintro e w1 ⟨rfl, hb1⟩; have kq := HPic.out.below hb1 (by simp; omega); obtain ⟨x0, x1, x2, x3, _⟩ := kq.four)
          | (go_at_call 29; (with_reducible refine (HIs.out _ (below_then HB0.out hb1)).mono ?_); rintro e w2 ⟨rfl, hb2⟩; have kq2 := kq.below hb2 kq.lt; clear x0 x1 x2 x3; obtain ⟨x0, x1, x2, x3, _⟩ := kq2.four; have kp2 := (HPal.out.below hb1 (by simp)).below hb2 (HPal.out.below hb1 (by simp)).lt; have y0 := kp2.cell 0; have y1 := kp2.cell 1))
        go_ret2
        exact IdxPost.none_ rfl (below_then (below_then HB0.out hb1) hb2)
      · have t1 : (q.d != P.d) = false := by rw [h1]; simp
        have t2 : ((q.p.length : Int) != P.n) = true := by simp; omega
        clear h1 h2
        go_enter Try.func41, Try.ntmps41
        go_wp2_with (first
          | (go_at_call 28; (with_reducible refine (HMy.out _ HB0.out).mono ?_); rintro e w1 ⟨rfl, hb1⟩; have kq := HPic.out.below hb1 (by simp; omega); obtain ⟨x0, x1, x2, x3, _⟩ := kq.four)
          | (go_at_call 29; (with_reducible refine (HIs.out _ (below_then HB0.out hb1)).mono ?_); rintro e w2 ⟨rfl, hb2⟩; have kq2 := kq.below hb2 kq.lt; clear x0 x1 x2 x3; obtain ⟨x0, x1, x2, x3, _⟩ := kq2.four; have kp2 := (HPal.out.below hb1 (by simp)).below hb2 (HPal.out.below hb1 (by simp)).lt; have y0 := kp2.cell 0; have y1 := kp2.cell 1))
        go_ret2
        exact IdxPost.none_ rfl (below_then (below_then HB0.out hb1) hb2)

set_option maxHeartbeats 8000000 in
set_option maxRecDepth 100000 in
theorem ridx_any {q : Pc} {A A2 : Option Addr} {c c2 : Nat} {P : Pal} {w : World} {B : Nat} (hr : RdLL w B .i64 A q.p) (hr2 : RdLL w B .i64 A2 P.c) (hB : B ≤ w.heap.size) (hc2 : P.c.length ≤ c2) (h63 : Len63 P.c) (h63q : Len63 q.p) :
    Calls Try.prog 41 #[picV q A c, palV P A2 c2] w (IdxPost w (idxL q P) (idxB q P)) := by
  cases hok : idxOk q P with
  | false =>
    rw [(idx_no hok).1, (idx_no hok).2]
    exact ridx_head hr hr2 hB hc2 h63 h63q hok
  | true =>
    have hok' := hok
    simp only [idxOk, Bool.and_eq_true, decide_eq_true_eq] at hok'
    obtain ⟨⟨⟨hp, hq⟩, hd⟩, hn⟩ := hok'
    have HO := Lib.hid (fun i hi h2 => idx_out (q := q) (P := P) (i := i) hi h2)
    have HY := Lib.hid (fun h2 => idx_yes hok h2)
    obtain ⟨s1, s2, s3, s4, s5⟩ := isB_sum hq
    obtain ⟨m1, m2⟩ := mul_64 s1 s2
    obtain ⟨m, hm⟩ : ∃ m : Nat, q.w * q.h = m := ⟨(q.w * q.h).toNat, by omega⟩
    obtain ⟨nn, hnn⟩ : ∃ nn, q.p.length = nn := ⟨_, rfl⟩
    have HPl : ∀ l ∈ q.p, l.length = m := fun l hl => by have := (s5 l hl).2.1; omega
    have HMy := fun W (hb : Below w.heap.size w W) => rmay_any (c := c2) (hr2.below hb hB) (Nat.le_trans hB hb.size) hc2 h63
    have HIs := fun W (hb : Below w.heap.size w W) => picis_any (c := c) (hr.below hb hB) (Nat.le_trans hB hb.size) h63q
    simp only [hp] at HMy
    simp only [hq] at HIs
    have HCo := fun i (hi : i < m) W (hb : Below w.heap.size w W) => colour_any (c := c) (n := i) (hr.below hb hB) (Nat.le_trans hB hb.size) (by omega) (fun l hl => by rw [HPl l hl]; exact hi) (by omega)
    have HCl := Lib.hid (show ∀ i, (colAt q.p i).length = nn from fun i => by simp [colAt, hnn])
    have HFi := Lib.hid (fun (W : World) (hb : Below w.heap.size w W) (A9 : Option Addr) (c9 i : Nat) (h : RdI W W.heap.size .i64 A9 (colAt q.p i)) => find_any (cc := c2) (c2 := c9) (RdLL.grow (hr2.below hb hB) (Nat.le_trans hB hb.size)) h h63)
    have t1 : (q.d != P.d) = false := by simp [hd]
    have t2 : ((nn : Int) != P.n) = false := by rw [hn, hnn]; simp
    have hm4 : m ≤ 4096 ∧ 1 ≤ m := by omega
    have hwr : IntKind.i64.wrap (q.w * q.h) = (m : Int) := by rw [hm]; exact IntWalk.i64_in _ (by omega)
    have HFn := Lib.hid (show ∀ x, (x ∈ P.c → 0 ≤ findI P.c x) ∧ (x ∉ P.c → findI P.c x = -1) from fun x => ⟨fun h => by rw [findI, if_pos h]; omega, fun h => by rw [findI, if_neg h]⟩)
    rw [hm, Int.toNat_natCast] at HO HY
    clear hok hp hq hd hn m1 m2 s5 HPl
    obtain ⟨qw, qh, qd, qp⟩ := q
    obtain ⟨d, n, cs⟩ := P
    simp only at hnn hm t1 t2 hwr HCl HCo HFi HO HY HFn
    simp only [picV, palV] at HMy HIs HCo ⊢
    have HCe : ∀ i, colL qp i = colAt qp i := fun _ => rfl
    simp only [HCe] at HCo
    generalize hIB : idxB ⟨qw, qh, qd, qp⟩ ⟨d, n, cs⟩ = IB at *
    generalize hIL : idxL ⟨qw, qh, qd, qp⟩ ⟨d, n, cs⟩ = IL at *
    generalize colAt qp = CA at *
    generalize findI cs = FI at *
    rw [hnn] at HIs HCo ⊢
    replace HMy := Lib.hid HMy
    replace HIs := Lib.hid HIs
    replace HCo := Lib.hid HCo
    clear HCe hIB hIL hm
    have kq0 := (Blk.new w 30 #[.int .i64 qw, .int .i64 qh, .int .i64 qd, .slice A nn c]).alloc (.cells #[.int .i64 d, .int .i64 n, .slice A2 cs.length c2] 25)
    have kp0 := Blk.new1 w (.cells #[.int .i64 qw, .int .i64 qh, .int .i64 qd, .slice A nn c] 30) 25 #[.int .i64 d, .int .i64 n, .slice A2 cs.length c2]
    have b0 := below_alloc (below_alloc (Below.refl w.heap.size w) (.cells #[.int .i64 qw, .int .i64 qh, .int .i64 qd, .slice A nn c] 30)) (.cells #[.int .i64 d, .int .i64 n, .slice A2 cs.length c2] 25)
    go_enter Try.func41, Try.ntmps41
    go_upto_region 1 with fail
    generalize (w.alloc (.cells #[.int .i64 qw, .int .i64 qh, .int .i64 qd, .slice A nn c] 30)).alloc (.cells #[.int .i64 d, .int .i64 n, .slice A2 cs.length c2] 25) = w0 at *
    have y0 := kp0.cell 0
    have y1 := kp0.cell 1
    have y2 := kp0.cell 2
    have hkq := kq0.lt
    have hkp := kp0.lt
    go_upto_region 3 with (first
      | (go_at_call 28; (with_reducible refine (HMy.out _ b0).mono ?_); rintro e w1 ⟨rfl, hb1⟩; have kq1 := kq0.below hb1 hkq; have kp1 := kp0.below hb1 hkp; obtain ⟨x0, x1, x2, x3, _⟩ := kq1.four; have b1 := Lib.hid (below_then b0 hb1))
      | (go_at_call 29; (with_reducible refine (HIs.out _ b1.out).mono ?_); rintro e w2 ⟨rfl, hb2⟩; have kq2 := kq1.below hb2 kq1.lt; have kp2 := kp1.below hb2 kp1.lt; clear x0 x1 x2 x3; obtain ⟨x0, x1, x2, x3, _⟩ := kq2.four; have y0 := kp2.cell 0; have y1 := kp2.cell 1; have y2 := kp2.cell 2))
    have b2 := below_then b1.out hb2
    have hkq2 := kq2.lt
    have hkp2 := kp2.lt
    clear x0 x1 x2 x3 y0 y1 y2 kq1 kp1 b1 hb1 hb2 kq0 kp0 b0 HMy HIs
    go_wp2
    go_loopw [6, 7] (fun v iv wr => ∃ i : Nat, i ≤ m ∧ iv = .int .i64 i ∧ (∀ k, k < i → CA k ∈ cs) ∧ OwnI wr w2.heap.size 3 .i64 v ((List.range i).map fun k => FI (CA k)) ∧ Below w2.heap.size w2 wr) (fun _ iv _ => m - (intOf iv).toNat)
    case atStart => exact ⟨0, Nat.zero_le _, rfl, fun k hk => absurd hk (by omega), by simpa using OwnI.nil_ _ _ _ _, Below.refl _ _⟩
    case round =>
      obtain ⟨i, hi, rfl, hall, hown, hbr⟩ := hrel
      have HAl := Lib.hid hall
      have HOw := Lib.hid hown
      have kqr := kq2.below hbr hkq2
      have kpr := kp2.below hbr hkp2
      have b0r := below_then b2 hbr
      obtain ⟨x0, x1, x2, x3, _⟩ := kqr.four
      clear hall hown
      by_cases hlt : i < m
      · have y2 := kpr.cell 2
        have HCi := Lib.hid (HCo.out i hlt wr.drew b0r.drew)
        have hlti : (i : Int) < (m : Int) := by omega
        go_upto_region 7 with fail
        refine wp_region_held_drew (S := (fun w' => Below wr.heap.size wr w')) (by kernel_rfl) ?_ (fun hHeld => ?_)
        focus exact (Below.refl _ _).drew
        refine wpAnyH_take (i := 0) (v := ?_) rfl (by kernel_rfl) (by kernel_rfl) (by kernel_rfl) (fun _ _ _ h => h) (Or.inl ⟨by kernel_rfl, ?_⟩) (by assumption) ?_
        rotate_left
        focus
          intro w9 hSw
          (try dsimp only at hSw)
          have zK : ∀ {a9 : Addr} {u9 : Value}, wr.cell? a9 = some u9 → w9.cell? a9 = some u9 := fun {a9} {u9} h9 => (hSw.cell (World.block_lt_of_cell? wr a9 h9)).trans h9
          have z0 := zK y2
          have z1 := zK x0
          have z2 := zK x1
          have z3 := zK x2
          have z4 := zK x3
          clear zK hSw
          go_simp
          (try with_reducible rfl)
        (try simp only [Act.put, List.getElem_toArray, List.getElem_cons_succ, List.getElem_cons_zero, List.setIfInBounds_toArray, List.set_cons_zero, List.set_cons_succ])
        refine wpAnyH_take (i := 1) (v := ?_) rfl (by kernel_rfl) (by kernel_rfl) (by kernel_rfl) (fun _ _ _ h => h) (Or.inl ⟨by kernel_rfl, ?_⟩) (by assumption) ?_
        rotate_left
        focus
          intro w9 hSw
          (try dsimp only at hSw)
          have zK : ∀ {a9 : Addr} {u9 : Value}, wr.cell? a9 = some u9 → w9.cell? a9 = some u9 := fun {a9} {u9} h9 => (hSw.cell (World.block_lt_of_cell? wr a9 h9)).trans h9
          have z0 := zK y2
          have z1 := zK x0
          have z2 := zK x1
          have z3 := zK x2
          have z4 := zK x3
          clear zK hSw
          go_simp
          (try with_reducible rfl)
        (try simp only [Act.put, List.getElem_toArray, List.getElem_cons_succ, List.getElem_cons_zero, List.setIfInBounds_toArray, List.set_cons_zero, List.set_cons_succ])
        refine wpAnyH_take (i := 2) (v := ?_) rfl (by kernel_rfl) (by kernel_rfl) (by kernel_rfl) (fun _ _ _ h => h) (Or.inl ⟨by kernel_rfl, ?_⟩) (by assumption) ?_
        rotate_left
        focus
          intro w9 hSw
          (try dsimp only at hSw)
          have zK : ∀ {a9 : Addr} {u9 : Value}, wr.cell? a9 = some u9 → w9.cell? a9 = some u9 := fun {a9} {u9} h9 => (hSw.cell (World.block_lt_of_cell? wr a9 h9)).trans h9
          have z0 := zK y2
          have z1 := zK x0
          have z2 := zK x1
          have z3 := zK x2
          have z4 := zK x3
          clear zK hSw
          go_simp
          (try with_reducible rfl)
        (try simp only [Act.put, List.getElem_toArray, List.getElem_cons_succ, List.getElem_cons_zero, List.setIfInBounds_toArray, List.set_cons_zero, List.set_cons_succ])
        refine wpAnyH_take (i := 3) (v := ?_) rfl (by kernel_rfl) (by kernel_rfl) (by kernel_rfl) (fun _ _ _ h => h) (Or.inl ⟨by kernel_rfl, ?_⟩) (by assumption) ?_
        rotate_left
        focus
          intro w9 hSw
          (try dsimp only at hSw)
          have zK : ∀ {a9 : Addr} {u9 : Value}, wr.cell? a9 = some u9 → w9.cell? a9 = some u9 := fun {a9} {u9} h9 => (hSw.cell (World.block_lt_of_cell? wr a9 h9)).trans h9
          have z0 := zK y2
          have z1 := zK x0
          have z2 := zK x1
          have z3 := zK x2
          have z4 := zK x3
          clear zK hSw
          go_simp
          (try with_reducible rfl)
        (try simp only [Act.put, List.getElem_toArray, List.getElem_cons_succ, List.getElem_cons_zero, List.setIfInBounds_toArray, List.set_cons_zero, List.set_cons_succ])
        refine wpAnyH_ready (rs := [4]) (by kernel_rfl) (by simp) (AllReadyH.cons rfl (fun K hK => ?_) AllReadyH.nil)
        go_simp
        go_at_call 30
        refine HCi.out.mono ?_
        rintro e w3 ⟨A3, c3, rfl, hc3, how3, hb3'⟩
        have hb3 := below_undr hb3'
        have b03 := below_then b0r hb3
        obtain ⟨_, _, hr3⟩ := how3.rds
        have HFc := HFi.out w3 b03 A3 c3 i hr3.top
        rw [HCl.out] at HFc
        replace HFc := Lib.hid HFc
        clear hb3' how3 hr3
        refine hK.out _ _ ?_ (fun hHeld => ?_)
        focus exact hb3
        clear hK K
        (try simp only [Act.put, List.getElem_toArray, List.getElem_cons_succ, List.getElem_cons_zero, List.setIfInBounds_toArray, List.set_cons_zero, List.set_cons_succ])
        refine wpAnyH_ready (rs := [5]) (by kernel_rfl) (by simp) (AllReadyH.cons rfl (fun K hK => ?_) AllReadyH.nil)
        go_simp
        go_at_call 31
        refine HFc.out.mono ?_
        rintro e w4 ⟨rfl, n4, rfl⟩
        have hb4 := below_drewN hb3 n4
        refine hK.out _ _ ?_ (fun hHeld => ?_)
        focus exact hb4
        clear hK K
        (try simp only [Act.put, List.getElem_toArray, List.getElem_cons_succ, List.getElem_cons_zero, List.setIfInBounds_toArray, List.set_cons_zero, List.set_cons_succ])
        refine wpAnyH_take (i := 6) (v := ?_) rfl (by kernel_rfl) (by kernel_rfl) (by kernel_rfl) (fun _ _ _ h => h) (Or.inl ⟨by kernel_rfl, ?_⟩) (by assumption) ?_
        rotate_left
        focus
          intro w9 hSw
          (try dsimp only at hSw)
          go_simp
          (try with_reducible rfl)
        (try simp only [Act.put, List.getElem_toArray, List.getElem_cons_succ, List.getElem_cons_zero, List.setIfInBounds_toArray, List.set_cons_zero, List.set_cons_succ])
        refine wpAnyH_done (by kernel_rfl) ?_ _
        (try simp only [Act.put, List.getElem_toArray, List.getElem_cons_succ, List.getElem_cons_zero, List.setIfInBounds_toArray, List.set_cons_zero, List.set_cons_succ])
        have HOw4 := Lib.hid (HOw.out.below hb4)
        have hbr4 := below_then hbr hb4
        have b04 := below_then b0r hb4
        have hs4 := hbr4.size
        clear x0 x1 x2 x3 y2 HCi HFc hb3 b03 hHeld hb4
        generalize w3.drewN n4 = w4 at *
        obtain ⟨hf1, hf2⟩ := HFn.out (CA i)
        by_cases hin : CA i ∈ cs
        · have h0 := hf1 hin
          have HIn := Lib.hid hin
          obtain ⟨fi, hfi⟩ : ∃ fi, fi = FI (CA i) := ⟨_, rfl⟩
          have g1 : decide (FI (CA i) < 0) = false := decide_eq_false (by omega)
          have hlw : ((List.range i).map fun k => FI (CA k)).length = i := by simp
          clear hf1 hf2 hin hfi fi
          go_wp2_with (first
            | (at_builtin; refine wpList_push_int _ rfl (.tmp 49) (.tmp 51) _ rfl w4 w2.heap.size w2.heap.size 3 .i64 8 Try.underlying22 info_int _ ((List.range i).map fun k => FI (CA k)) (by rfl) HOw4.out _ _ _ (by rfl) (by rfl) (by rw [hlw]; omega) (by omega) (Below.refl _ _) (Nat.le_refl _) hs4 ?_; intro v5 w5 hown5 hb5))
          have b25 := hbr4.trans hb5
          have HE := Lib.hid (show (List.range (i + 1)).map (fun k => FI (CA k)) = (List.range i).map (fun k => FI (CA k)) ++ [FI (CA i)] by rw [List.range_succ, List.map_append]; rfl)
          have HO5 := Lib.hid hown5
          clear hown5
          go_roundw
          case rel => exact ⟨i + 1, by omega, by go_num, fun k hk => (by
            rcases Nat.lt_succ_iff_lt_or_eq.1 hk with h | h
            · exact HAl.out k h
            · rw [h]; exact HIn.out), by rw [HE.out]; exact HO5.out, b25⟩
          case measure => simp [intOf]; omega
        · have h1 := hf2 hin
          obtain ⟨e1, e2⟩ := HO.out i hlt hin
          have g1 : decide (FI (CA i) < 0) = true := decide_eq_true (by omega)
          clear hf1 hf2 hin h1
          go_wp2
          go_ret2
          subst e1 e2
          exact IdxPost.none_ rfl b04
      · have him : i = m := by omega
        subst him
        obtain ⟨e1, e2⟩ := HY.out HAl.out
        have HE := Lib.hid e2
        have HE1 := Lib.hid e1
        have hltn : ¬ (i : Int) < (i : Int) := by omega
        have hlw : ((List.range i).map fun k => FI (CA k)).length = i := by simp
        obtain ⟨A7, c7, rfl, hc7, hrd7, _⟩ := HOw.out.form
        clear e1 e2
        go_wp2
        go_ret2
        refine ⟨A7, c7, ?_, ?_, ?_, b0r⟩
        · rw [HE.out, HE1.out, hlw]; rfl
        · rw [HE.out]; exact hc7
        · rw [HE.out]; exact hrd7
end Go.Proofs.Ytbbflddhbamjbaa
