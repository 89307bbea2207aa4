/- The reference's PalPaint. -/
import Derived.Test.YtbbflddhbamjbaaPlRMay
import Derived.Test.YtbbflddhbamjbaaPlPaint
import Derived.Test.YtbbflddhbamjbaaPicRNew
set_option linter.unusedSimpArgs false
set_option linter.unusedVariables false
namespace Go.Proofs.Ytbbflddhbamjbaa
open Go.RowKit

/-- k numbers of each plane painted, of the planes ahead of i one more -/
def rM (l : List Int) (P : Pal) (n k i : Nat) : List (List Int) := (List.range n).map fun j => (paintK l P j).take (if j < i then k + 1 else k) ++ List.replicate (l.length - (if j < i then k + 1 else k)) 0
theorem rM_len {l : List Int} {P : Pal} {n k i : Nat} : (rM l P n k i).length = n := by simp [rM]
theorem rM_get {l : List Int} {P : Pal} {n k i j : Nat} (h : j < n) : (rM l P n k i).getD j [] = (paintK l P j).take (if j < i then k + 1 else k) ++ List.replicate (l.length - (if j < i then k + 1 else k)) 0 := by
  rw [List.getD_eq_getElem?_getD, List.getElem?_eq_getElem (by rw [rM_len]; exact h)]
  simp [rM]
theorem rM_rowlen {l : List Int} {P : Pal} {n k i j : Nat} (h : j < n) (hk : k < l.length) : ((rM l P n k i).getD j []).length = l.length := by
  rw [rM_get h, List.length_append, List.length_take, paintK_len, List.length_replicate]; split <;> omega
theorem rM_set {l : List Int} {P : Pal} {n k i : Nat} (h : i < n) (hk : k < l.length) : (rM l P n k i).set i (((rM l P n k i).getD i []).set k ((P.c.getD (l.getD k 0).toNat []).getD i 0)) = rM l P n k (i + 1) := by
  refine List.ext_getElem (by rw [List.length_set, rM_len, rM_len]) fun j h1 h2 => ?_
  rw [rM_len] at h2
  rw [List.getElem_set]
  by_cases hj : i = j
  · subst hj
    rw [if_pos rfl, rM_get h, if_neg (by omega)]
    have hkk : k < (paintK l P i).length := by rw [paintK_len]; exact hk
    have e1 : (paintK l P i)[k] = (P.c.getD (l.getD k 0).toNat []).getD i 0 := by
      simp only [paintK, List.getElem_map]
      congr 3
      simp [List.getD, List.getElem?_eq_getElem hk]
    have hl : ((paintK l P i).take k).length = k := by rw [List.length_take]; omega
    obtain ⟨m, hm⟩ : ∃ m, l.length - k = m + 1 := ⟨l.length - k - 1, by omega⟩
    simp only [rM, List.getElem_map, List.getElem_range]
    rw [if_pos (by omega), List.set_append, if_neg (by omega), hl, Nat.sub_self, hm, List.replicate_succ, List.set_cons_zero, List.take_succ_eq_append_getElem hkk, e1, show l.length - (k + 1) = m by omega]
    simp
  · rw [if_neg hj]
    simp only [rM, List.getElem_map, List.getElem_range]
    by_cases h3 : j < i
    · rw [if_pos h3, if_pos (by omega)]
    · rw [if_neg h3, if_neg (by omega)]
theorem rM_next {l : List Int} {P : Pal} {n k : Nat} : rM l P n k n = rM l P n (k + 1) 0 := by
  refine List.map_congr_left fun j hj => ?_
  rw [List.mem_range] at hj
  rw [if_pos hj, if_neg (by omega)]
theorem rM_zero {l : List Int} {P : Pal} {n : Nat} : rM l P n 0 0 = List.replicate n (List.replicate l.length 0) := by
  refine List.ext_getElem (by simp [rM]) fun j h1 h2 => ?_
  simp [rM]
theorem rM_full {l : List Int} {P : Pal} {n : Nat} : rM l P n l.length 0 = paintL l P n := by
  rw [rM, paintL]
  refine List.map_congr_left fun j hj => ?_
  rw [if_neg (by omega), List.take_of_length_le (by rw [paintK_len]; omega)]
  simp

set_option maxHeartbeats 4000000 in
set_option maxRecDepth 100000 in
theorem rpaint_head {l : List Int} {A A2 : Option Addr} {c c2 : Nat} {a b : Int} {P : Pal} {w : World} {B : Nat} (hr2 : RdLL w B .i64 A2 P.c) (hB : B ≤ w.heap.size) (hc2 : P.c.length ≤ c2) (h63 : Len63 P.c) (h : paintOk l a b P = false) :
    Calls Try.prog 33 #[.slice A l.length c, .int .i64 a, .int .i64 b, palV P A2 c2] w (PaintPost w ⟨0, 0, 0, []⟩ 1) := by
  have HMy := fun W (hb : Below w.heap.size w W) => rmay_any (c := c2) (hr2.below hb hB) (Nat.le_trans hB hb.size) hc2 h63
  have hz : ∀ w2, Below ((w.alloc (.cells #[.int .i64 P.d, .int .i64 P.n, .slice A2 P.c.length c2] 25)).alloc (.cells #[.int .i64 0, .int .i64 0, .int .i64 0, .slice none 0 0] 30)).heap.size ((w.alloc (.cells #[.int .i64 P.d, .int .i64 P.n, .slice A2 P.c.length c2] 25)).alloc (.cells #[.int .i64 0, .int .i64 0, .int .i64 0, .slice none 0 0] 30)) w2 →
      Blk w2 (w.heap.size + 1) 30 #[.int .i64 0, .int .i64 0, .int .i64 0, .slice none 0 0] := fun w2 hb2 => (Blk.new1 w _ _ _).below hb2 (by simp)
  have HZ := Lib.hid hz
  have hb0 : Below w.heap.size w ((w.alloc (.cells #[.int .i64 P.d, .int .i64 P.n, .slice A2 P.c.length c2] 25)).alloc (.cells #[.int .i64 0, .int .i64 0, .int .i64 0, .slice none 0 0] 30)) := below_alloc (below_alloc (Below.refl _ _) _) _
  have HB0 := Lib.hid hb0
  have HSa := Lib.hid (fun W => side_any a W)
  have HSb := Lib.hid (fun W => side_any b W)
  clear hz hb0
  have hw : palV P A2 c2 = .agg #[.int .i64 P.d, .int .i64 P.n, .slice A2 P.c.length c2] := rfl
  rw [hw] at HMy ⊢
  cases hp : palB P with
  | false =>
    simp only [hp] at HMy
    have HMy := Lib.hid (HMy _ HB0.out)
    clear h hp hw HSa HSb
    go_enter Try.func33, Try.ntmps33
    go_wp2_with (first
      | (go_at_call 28; (with_reducible refine HMy.out.mono ?_); rintro e w1 ⟨rfl, hb1⟩; have kz := HZ.out _ hb1; obtain ⟨z0, z1, z2, z3, f0, f1, f2, f3⟩ := kz.four))
    refine bodyPost_ret (v := .tuple #[.agg #[.int .i64 0, .int .i64 0, .int .i64 0, .slice none 0 0], .int .i64 1]) (by simp [results, Try.results33, go_sem, z0, z1, z2, z3]) rfl ?_
    exact PaintPost.zero rfl (below_then HB0.out hb1 |>.setCell (by simp) _ |>.setCell (by simp) _ |>.setCell (by simp) _ |>.setCell (by simp) _)
  | true =>
    simp only [hp] at HMy
    have HMy := Lib.hid (HMy _ HB0.out)
    rw [paintOk, hp, Bool.true_and, decide_eq_false_iff_not] at h
    have hcase : ¬ (1 ≤ a ∧ a ≤ 64) ∨ ((1 ≤ a ∧ a ≤ 64) ∧ ¬ (1 ≤ b ∧ b ≤ 64)) ∨ ((1 ≤ a ∧ a ≤ 64) ∧ (1 ≤ b ∧ b ≤ 64) ∧ ¬ (l.length : Int) = a * b) := by
      by_cases h9 : (l.length : Int) = a * b
      · omega
      · omega
    clear h hp hw
    rcases hcase with h1 | ⟨h1, h2⟩ | ⟨h1, h2, h5⟩
    · rw [decide_eq_false h1] at HSa
      clear h1
      go_enter Try.func33, Try.ntmps33
      go_wp2_with (first
        | (go_at_call 58; (with_reducible refine (HSa.out _).mono ?_); rintro e w3 ⟨rfl, rfl⟩)
        | (go_at_call 28; (with_reducible refine HMy.out.mono ?_); rintro e w1 ⟨rfl, hb1⟩; have kz := HZ.out _ hb1; obtain ⟨z0, z1, z2, z3, f0, f1, f2, f3⟩ := kz.four))
      refine bodyPost_ret (v := .tuple #[.agg #[.int .i64 0, .int .i64 0, .int .i64 0, .slice none 0 0], .int .i64 1]) (by simp [results, Try.results33, go_sem, z0, z1, z2, z3]) rfl ?_
      exact PaintPost.zero rfl (below_then HB0.out hb1 |>.setCell (by simp) _ |>.setCell (by simp) _ |>.setCell (by simp) _ |>.setCell (by simp) _)
    · rw [decide_eq_true h1] at HSa
      rw [decide_eq_false h2] at HSb
      clear h1 h2
      go_enter Try.func33, Try.ntmps33
      go_wp2_with (first
        | (go_at_call 58; (with_reducible refine (HSa.out _).mono ?_); rintro e w3 ⟨rfl, rfl⟩)
        | (go_at_call 58; (with_reducible refine (HSb.out _).mono ?_); rintro e w3 ⟨rfl, rfl⟩)
        | (go_at_call 28; (with_reducible refine HMy.out.mono ?_); rintro e w1 ⟨rfl, hb1⟩; have kz := HZ.out _ hb1; obtain ⟨z0, z1, z2, z3, f0, f1, f2, f3⟩ := kz.four))
      refine bodyPost_ret (v := .tuple #[.agg #[.int .i64 0, .int .i64 0, .int .i64 0, .slice none 0 0], .int .i64 1]) (by simp [results, Try.results33, go_sem, z0, z1, z2, z3]) rfl ?_
      exact PaintPost.zero rfl (below_then HB0.out hb1 |>.setCell (by simp) _ |>.setCell (by simp) _ |>.setCell (by simp) _ |>.setCell (by simp) _)
    · rw [decide_eq_true h1] at HSa
      rw [decide_eq_true h2] at HSb
      obtain ⟨m1, m2⟩ := mul_64 h1 h2
      have hwr : IntKind.i64.wrap (a * b) = a * b := IntWalk.i64_in _ (by omega)
      have q1 : ((l.length : Int) != a * b) = true := by simpa using h5
      clear h5 h1 h2
      go_enter Try.func33, Try.ntmps33
      go_wp2_with (first
        | (go_at_call 58; (with_reducible refine (HSa.out _).mono ?_); rintro e w3 ⟨rfl, rfl⟩)
        | (go_at_call 58; (with_reducible refine (HSb.out _).mono ?_); rintro e w3 ⟨rfl, rfl⟩)
        | (go_at_call 28; (with_reducible refine HMy.out.mono ?_); rintro e w1 ⟨rfl, hb1⟩; have kz := HZ.out _ hb1; obtain ⟨z0, z1, z2, z3, f0, f1, f2, f3⟩ := kz.four))
      refine bodyPost_ret (v := .tuple #[.agg #[.int .i64 0, .int .i64 0, .int .i64 0, .slice none 0 0], .int .i64 1]) (by simp [results, Try.results33, go_sem, z0, z1, z2, z3]) rfl ?_
      exact PaintPost.zero rfl (below_then HB0.out hb1 |>.setCell (by simp) _ |>.setCell (by simp) _ |>.setCell (by simp) _ |>.setCell (by simp) _)

set_option maxHeartbeats 8000000 in
set_option maxRecDepth 100000 in
theorem rpaint_any {l : List Int} {A A2 : Option Addr} {c c2 : Nat} {a b : Int} {P : Pal} {w : World} {B : Nat} (hr : RdI w B .i64 A l) (hr2 : RdLL w B .i64 A2 P.c) (hB : B ≤ w.heap.size) (hc2 : P.c.length ≤ c2) (h63 : Len63 P.c) :
    Calls Try.prog 33 #[.slice A l.length c, .int .i64 a, .int .i64 b, palV P A2 c2] w (PaintPost w (paintQ l a b P) (paintE l a b P)) := by
  cases hok : paintOk l a b P with
  | false =>
    rw [(paint_no hok).1, (paint_no hok).2]
    exact rpaint_head hr2 hB hc2 h63 hok
  | true =>
    have hok' := hok
    rw [paintOk, Bool.and_eq_true, decide_eq_true_eq] at hok'
    obtain ⟨hp, a1, a2, b1, b2, hlen⟩ := hok'
    have HO := Lib.hid (fun h2 => paint_out hok h2)
    have HY := Lib.hid (fun h2 => paint_yes hok h2)
    have hpb := hp
    rw [palB_iff] at hpb
    have hhd := hpb.1
    simp only [headB, decide_eq_true_eq] at hhd
    have HRow := Lib.hid (fun i (hi : i < P.c.length) => (rowOk_all (hpb.2 i hi)).1)
    have HMy := fun W (hb : Below w.heap.size w W) => rmay_any (c := c2) (hr2.below hb hB) (Nat.le_trans hB hb.size) hc2 h63
    simp only [hp] at HMy
    replace HMy := Lib.hid HMy
    have HSa := fun W => side_any a W
    have HSb := fun W => side_any b W
    rw [decide_eq_true ⟨a1, a2⟩] at HSa
    rw [decide_eq_true ⟨b1, b2⟩] at HSb
    replace HSa := Lib.hid HSa
    replace HSb := Lib.hid HSb
    clear hok hp hpb h63 hc2
    obtain ⟨nn, hnn⟩ := Int.eq_ofNat_of_zero_le (show 0 ≤ P.n by omega)
    have HNw := fun W => rnew_yes a b P.d P.n (by simp only [possB, decide_eq_true_eq]; omega) W
    have hzz : zeros a b nn = rM l P nn 0 0 := by rw [rM_zero, zeros]; congr 2; omega
    obtain ⟨m1, m2⟩ := mul_64 (a := a) (b := b) (by omega) (by omega)
    have hwr : IntKind.i64.wrap (a * b) = (l.length : Int) := by rw [hlen]; exact IntWalk.i64_in _ (by omega)
    have q1 : ((l.length : Int) != (l.length : Int)) = false := by simp
    have hm4 : l.length ≤ 4096 ∧ 1 ≤ l.length := by omega
    clear hlen m1 m2
    have HAll := Lib.hid (fun j (hj : j < l.length) (h : l.all (inB P) = true) => inB_at hj h)
    have HTk := Lib.hid (fun j (hj : j < l.length) (h : (l.take j).all (inB P) = true) (hx : inB P (l.getD j 0) = true) => all_take_succ hj h hx)
    have HBd := Lib.hid (fun j (hj : j < l.length) (hx : inB P (l.getD j 0) = false) => all_bad (p := inB P) hj hx)
    have HIn := Lib.hid (show ∀ i, inB P i = decide (0 ≤ i ∧ i < P.c.length) from fun _ => rfl)
    have HMl := Lib.hid (fun k i => rM_len (l := l) (P := P) (n := nn) (k := k) (i := i))
    have HMr := Lib.hid (fun k i j (h : j < nn) (hk : k < l.length) => rM_rowlen (l := l) (P := P) (n := nn) (i := i) h hk)
    have HMs := Lib.hid (fun k i (h : i < nn) (hk : k < l.length) => rM_set (l := l) (P := P) (n := nn) h hk)
    have HMn := Lib.hid (fun k => rM_next (l := l) (P := P) (n := nn) (k := k))
    have HMf := Lib.hid (rM_full (l := l) (P := P) (n := nn))
    have HLl := Lib.hid (paintL_len l P nn)
    rw [hnn, Int.toNat_natCast, hzz] at HNw
    rw [hnn, Int.toNat_natCast] at HY
    rw [hnn] at hhd HRow
    generalize paintQ l a b P = Q at *
    generalize paintE l a b P = E at *
    clear hzz
    obtain ⟨d, n, cs⟩ := P
    simp only at hnn hhd HIn HRow HAll HMs hr2 HMy HNw
    subst hnn
    replace HNw := Lib.hid HNw
    generalize rM l ⟨d, (nn : Int), cs⟩ nn = RM at *
    generalize paintL l ⟨d, (nn : Int), cs⟩ nn = RL at *
    generalize inB ⟨d, (nn : Int), cs⟩ = IB at *
    simp only [palV] at HMy ⊢
    go_enter Try.func33, Try.ntmps33
    go_upto_region 3 with (first
      | (go_at_call 58; (with_reducible refine (HSa.out _).mono ?_); rintro e w3 ⟨rfl, rfl⟩)
      | (go_at_call 58; (with_reducible refine (HSb.out _).mono ?_); rintro e w3 ⟨rfl, rfl⟩)
      | (go_at_call 28; (with_reducible refine (HMy.out _ (by repeat (first | exact Below.refl _ _ | assumption | refine Below.drew ?_ | refine below_drewN ?_ _ | refine below_alloc ?_ _))).mono ?_); rintro e w1 ⟨rfl, hb1⟩))
    have kp := ((Blk.new w 25 #[.int .i64 d, .int .i64 (nn : Int), .slice A2 cs.length c2]).alloc (.cells #[.int .i64 0, .int .i64 0, .int .i64 0, .slice none 0 0] 30)).below hb1 (by simp; omega)
    have kz := (Blk.new1 w (.cells #[.int .i64 d, .int .i64 (nn : Int), .slice A2 cs.length c2] 25) 30 #[.int .i64 0, .int .i64 0, .int .i64 0, .slice none 0 0]).below hb1 (by simp)
    have bb := below_then (below_alloc (below_alloc (Below.refl w.heap.size w) _) _) hb1
    have p0 := kp.cell 0
    have p1 := kp.cell 1
    have p2 := kp.cell 2
    clear hb1 HMy HSa HSb
    go_upto_region 4 with (first
      | (go_at_call 59; (with_reducible refine (HNw.out _).mono ?_); rintro e w2 ⟨A', c', rfl, hown, hb2⟩))
    have hsz2 := hb2.size
    have hk1 := kp.lt
    have hkz := kz.lt
    have k10 := Blk.new w2 30 #[.int .i64 a, .int .i64 b, .int .i64 d, .slice A' nn c']
    have ba : Below w1.heap.size w1 (w2.alloc (.cells #[.int .i64 a, .int .i64 b, .int .i64 d, .slice A' nn c'] 30)) := below_alloc hb2 _
    have hownA := hown.below (below_alloc (Below.refl w2.heap.size w2) (.cells #[.int .i64 a, .int .i64 b, .int .i64 d, .slice A' nn c'] 30))
    obtain ⟨G, _, _, _, hv, _⟩ := hownA.cell_ (j := 0) (i := 0) (by decide) (by rw [HMl.out]; omega) (by rw [HMr.out 0 0 0 (by omega) (by omega)]; omega)
    simp only [Value.slice.injEq] at hv
    obtain ⟨rfl, hv1, hv2⟩ := hv
    clear hv1 hv2
    generalize w2.alloc (.cells #[.int .i64 a, .int .i64 b, .int .i64 d, .slice (some ⟨G, 0, none⟩) nn c'] 30) = wa at *
    clear hown hb2 p0 p1 p2 HNw
    go_wp2
    go_loopw [12] (fun iv wr => ∃ k : Nat, k ≤ l.length ∧ iv = .int .i64 k ∧ (l.take k).all IB = true ∧ OwnLL wr w1.heap.size 22 3 .i64 (.slice (some ⟨G, 0, none⟩) nn c') (RM k 0) ∧ Blk wr w2.heap.size 30 #[.int .i64 a, .int .i64 b, .int .i64 d, .slice (some ⟨G, 0, none⟩) nn c'] ∧ Below w1.heap.size w1 wr) (fun iv _ => l.length - (intOf iv).toNat)
    case atStart => exact ⟨0, Nat.zero_le _, rfl, by simp, hownA, k10, ba⟩
    case round =>
      obtain ⟨k, hk, rfl, hall, hown, hk10, hbr⟩ := hrel
      have HA := Lib.hid hall
      have HOw := Lib.hid hown
      clear hall hown
      have hszr := hbr.size
      by_cases hkl : k < l.length
      · have b0r := bb.trans (hbr.mono bb.size)
        obtain ⟨ad, rfl, _, k0⟩ := (hr.below b0r hB).at_ hkl
        have HTj := Lib.hid (HTk.out k hkl HA.out)
        have HBj := Lib.hid (HBd.out k hkl)
        have kpr := kp.below hbr hk1
        have kzr := kz.below hbr hkz
        have p2 := kpr.cell 2
        generalize hx : l.getD k 0 = x at *
        have HX := Lib.hid hx
        have hin := HIn.out x
        clear hx
        by_cases hx0 : x < 0
        · obtain ⟨hE, hQ⟩ := HO.out (HBj.out (by rw [hin]; exact decide_eq_false (by omega)))
          subst hE hQ
          have bz := bb.trans ((below_drewN hbr 1).mono bb.size)
          clear bz
          go_upto_region 7 with fail
          go_quiet (fail)
          have kzq := kzr.drewN nq
          have bq := below_drewN b0r nq
          generalize wr.drewN nq = wq at *
          obtain ⟨z0, z1, z2, z3, f0, f1, f2, f3⟩ := kzq.four
          go_wp2
          refine bodyPost_ret (v := .tuple #[.agg #[.int .i64 0, .int .i64 0, .int .i64 0, .slice none 0 0], .int .i64 6]) (by simp [results, Try.results33, go_sem, z0, z1, z2, z3]) rfl ?_
          exact PaintPost.zero rfl (bq |>.setCell (by simp) _ |>.setCell (by simp) _ |>.setCell (by simp) _ |>.setCell (by simp) _)
        · by_cases hx1 : (cs.length : Int) ≤ x
          · obtain ⟨hE, hQ⟩ := HO.out (HBj.out (by rw [hin]; exact decide_eq_false (by omega)))
            subst hE hQ
            go_upto_region 7 with fail
            go_quiet (fail)
            have kzq := kzr.drewN nq
            have bq := below_drewN b0r nq
            generalize wr.drewN nq = wq at *
            obtain ⟨z0, z1, z2, z3, f0, f1, f2, f3⟩ := kzq.four
            go_wp2
            refine bodyPost_ret (v := .tuple #[.agg #[.int .i64 0, .int .i64 0, .int .i64 0, .slice none 0 0], .int .i64 6]) (by simp [results, Try.results33, go_sem, z0, z1, z2, z3]) rfl ?_
            exact PaintPost.zero rfl (bq |>.setCell (by simp) _ |>.setCell (by simp) _ |>.setCell (by simp) _ |>.setCell (by simp) _)
          · have HT := Lib.hid (HTj.out (by rw [hin]; exact decide_eq_true (by omega)))
            obtain ⟨ix, rfl⟩ := Int.eq_ofNat_of_zero_le (show 0 ≤ x by omega)
            have hixl : ix < cs.length := by omega
            clear hin HTj HBj
            have hxx : decide ((cs.length : Int) ≤ (ix : Int)) = false := decide_eq_false (by omega)
            have hxy : decide ((ix : Int) < 0) = false := decide_eq_false (by omega)
            go_upto_region 7 with fail
            go_quiet (fail)
            have HOq : Hid (OwnLL (wr.drewN nq) w1.heap.size 22 3 .i64 (.slice (some ⟨G, 0, none⟩) nn c') (RM k 0)) := HOw.out.below (below_drewN (Below.refl _ _) _)
            have hkq := hk10.drewN nq
            have hbq := below_drewN hbr nq
            generalize wr.drewN nq = wq at *
            obtain ⟨wo, rfl⟩ : ∃ wo : World, wo = wr := ⟨_, rfl⟩
            clear p2 k0 kpr kzr hxx hxy
            go_wp2
            go_loopw [13] (fun iv w3 => ∃ i : Nat, i ≤ nn ∧ iv = .int .i64 i ∧ OwnLL w3 w1.heap.size 22 3 .i64 (.slice (some ⟨G, 0, none⟩) nn c') (RM k i) ∧ Blk w3 w2.heap.size 30 #[.int .i64 a, .int .i64 b, .int .i64 d, .slice (some ⟨G, 0, none⟩) nn c'] ∧ Below w1.heap.size w1 w3) (fun iv _ => nn - (intOf iv).toNat)
            case atStart => exact ⟨0, Nat.zero_le _, rfl, HOq.out, hkq, hbq⟩
            case round =>
              obtain ⟨i, hi, rfl, hown3, hk3, hb3⟩ := hrel
              have kp3 := kp.below hb3 hk1
              have y1 := kp3.cell 1
              by_cases hin : i < nn
              · obtain ⟨G', C, g, cg, hv, hC, hcell, hcg, hgb, hgc, hgf, ⟨cur, hcur⟩, hset⟩ := hown3.cell_ (j := i) (i := k) (by decide) (by rw [HMl.out]; exact hin) (by rw [HMr.out k i i hin hkl]; exact hkl)
                simp only [Value.slice.injEq, Option.some.injEq, Addr.mk.injEq, and_true] at hv
                obtain ⟨rfl, hclr, rfl⟩ := hv
                have b03 := bb.trans (hb3.mono bb.size)
                obtain ⟨ad9, e9, _, k0⟩ := (hr.below b03 hB).at_ hkl
                cases e9
                rw [HX.out] at k0
                obtain ⟨ad2, Ai, ci, rfl, _, k1, hci, hri⟩ := (hr2.below b03 hB) ix hixl
                have hrow := HRow.out ix hixl
                obtain ⟨ad3, rfl, _, k2⟩ := hri.at_ (j := i) (by omega)
                have k4 := kp3.cell 2
                have k5 := hk3.cell 3
                have hne : g ≠ w2.heap.size := fun e => by
                  subst e
                  have := hcur.symm.trans hk3
                  simp at this
                have hSt := hset ((cs.getD ix []).getD i 0)
                have e9 := HMs.out k i hin hkl
                rw [HX.out, Int.toNat_natCast] at e9
                rw [e9] at hSt
                rw [HMr.out k i i hin hkl] at hcell hcg
                have HSt := Lib.hid hSt
                have hrl : (cs.getD ix []).length = nn := by omega
                rw [hrl] at k1 hci
                have HK3 := Lib.hid hk3
                clear hset hSt e9 hclr hC hrow hri hrl hk3 hcur
                generalize (RM k i).getD i [] = rr at *
                generalize rr.getD k 0 = u0 at *
                generalize (cs.getD ix []).getD i 0 = x at *
                have d0 : wr.drew.cell? (ad.add k) = some (.int .i64 (ix : Int)) := k0
                have d1 : wr.drew.cell? (ad2.add ix) = some (.slice (some ad3) nn ci) := k1
                have d2 : wr.drew.cell? (ad3.add i) = some (.int .i64 x) := k2
                have d3 : wr.drew.cell? ⟨w.heap.size, 2, none⟩ = some (.slice (some ad2) cs.length c2) := k4
                have d4 : wr.drew.cell? ⟨G, i, none⟩ = some (.slice (some ⟨g, 0, none⟩) l.length cg) := hcell
                have d5 : wr.drew.cell? ⟨g, k, none⟩ = some (.int .i64 u0) := hgc
                have d6 : wr.drew.frozen? ⟨g, k, none⟩ = false := hgf
                have d7 : wr.drew.cell? ⟨w2.heap.size, 3, none⟩ = some (.slice (some ⟨G, 0, none⟩) nn c') := k5
                have hixi : (ix : Int) < (cs.length : Int) := by omega
                have hini : (i : Int) < (nn : Int) := by omega
                have hkli : (k : Int) < (l.length : Int) := by omega
                go_upto_region 12 with fail
                refine wp_still_tail 18 (by kernel_rfl) (by kernel_rfl) ?_
                simp only [List.take_succ_cons, List.take_zero, List.drop_succ_cons, List.drop_zero]
                repeat still_step
                refine wpStill_nil ?_
                go_wp2
                go_roundw
                case rel => exact ⟨i + 1, by omega, by go_num, HSt.out.drew, (HK3.out.far (Ne.symm hne) _).drew, (below_put (B := w1.heap.size) (g := g) hb3 hgb).drew⟩
                case measure => simp [intOf]; omega
              · have hin2 : i = nn := by omega
                subst hin2
                rw [HMn.out] at hown3
                have HOk := Lib.hid hown3
                clear hown3
                go_wp2
                go_roundw
                case rel =>
                  repeat (first | exact ⟨k + 1, by omega, by go_num, HT.out, HOk.out, hk3, hb3⟩ | refine Exists.intro _ ?_)
                case measure => simp [intOf]; omega
      · have hkq : k = l.length := by omega
        subst hkq
        obtain ⟨hE, hQ⟩ := HY.out (by have := HA.out; rwa [List.take_length] at this)
        subst hE hQ
        have HOk : Hid (OwnLL wr w1.heap.size 22 3 .i64 (.slice (some ⟨G, 0, none⟩) nn c') RL) := by rw [← HMf.out]; exact HOw.out
        have b0r := bb.trans (hbr.mono bb.size)
        have kzr := kz.below hbr hkz
        obtain ⟨z0, z1, z2, z3, f0, f1, f2, f3⟩ := kzr.four
        obtain ⟨x0, x1, x2, x3, _⟩ := hk10.four
        clear HOw HO HY HTk HBd HIn HA HAll
        go_wp2
        refine bodyPost_ret (v := .tuple #[.agg #[.int .i64 a, .int .i64 b, .int .i64 d, .slice (some ⟨G, 0, none⟩) nn c'], .int .i64 0]) (by simp [results, Try.results33, go_sem, z0, z1, z2, z3]) rfl ?_
        refine ⟨some ⟨G, 0, none⟩, c', by rw [HLl.out], ?_, b0r |>.setCell (by simp) _ |>.setCell (by simp) _ |>.setCell (by simp) _ |>.setCell (by simp) _⟩
        exact rdOwn ((((HOk.out.far (by exact hkz) _).far (by exact hkz) _).far (by exact hkz) _).far (by exact hkz) _) (Below.refl _ _)
end Go.Proofs.Ytbbflddhbamjbaa
