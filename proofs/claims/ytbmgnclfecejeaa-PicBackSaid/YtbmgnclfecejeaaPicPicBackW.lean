/- PicBack: the walk. -/
import Derived.Test.YtbmgnclfecejeaaPicBackL
import Derived.Test.YtbmgnclfecejeaaPicRCopy
import Derived.Test.YtbmgnclfecejeaaPicPlain2
namespace Go.Proofs.Ytbmgnclfecejeaa.picBack
open Go.RowKit

theorem cutLL_length (p : List (List Int)) (W x y a b : Nat) : (cutLL p W x y a b).length = p.length := by rw [cutLL, List.length_map]
theorem ownrd {w : World} {base : Nat} {A : Option Addr} {n c : Nat} {ls : List (List Int)} (h : OwnLL w base 25 3 .i64 (.slice A n c) ls) : RdLL w w.heap.size .i64 A ls := by
  obtain ⟨A', c', hv, _, h, _⟩ := h.form
  simp only [Value.slice.injEq] at hv
  obtain ⟨rfl, _, _⟩ := hv
  exact h
theorem _root_.Go.Proofs.Ytbmgnclfecejeaa.OwnLL.drewNN {w : World} {base : Nat} {eS e : TypeId} {k : IntKind} {v : Value} {ls : List (List Int)} (h : OwnLL w base eS e k v ls) (n : Nat) : OwnLL (w.drewN n) base eS e k v ls := h.below (below_drewN (Below.refl _ _) n)
theorem RdLL_more {w : World} {B B' : Nat} {k : IntKind} {A : Option Addr} {ls : List (List Int)} (h : RdLL w B k A ls) (hB : B ≤ B') : RdLL w B' k A ls := fun j hj => by
  obtain ⟨ad, Aj, cj, e, h1, h2, h3, h4⟩ := h j hj
  exact ⟨ad, Aj, cj, e, by omega, h2, h3, h4.more hB⟩
theorem rdTo {w W' : World} {base : Nat} {A : Option Addr} {n c : Nat} {ls : List (List Int)} (h : OwnLL w base 25 3 .i64 (.slice A n c) ls) (hb : Below w.heap.size w W') : RdLL W' W'.heap.size .i64 A ls :=
  RdLL_more (RdLL.below (ownrd h) hb (Nat.le_refl _)) hb.size
theorem head {w : World} {base G n C : Nat} {eS e : TypeId} {k : IntKind} {ls : List (List Int)} (h : OwnLL w base eS e k (.slice (some ⟨G, 0, none⟩) n C) ls) : base ≤ G ∧ ∃ cs, Blk w G eS cs := by
  obtain ⟨hs, ho, _⟩ := h
  rcases ho.2 with ⟨hh, _⟩ | ⟨G', _, cs, hv, hb, hcs, _⟩
  · simp at hh
  · simp only [Value.slice.injEq, Option.some.injEq, Addr.mk.injEq, and_true, true_and] at hv
    obtain ⟨rfl, _⟩ := hv
    exact ⟨hb, cs, hcs⟩
theorem small63 {q : Pc} (h : isB q = true) : Len63 q.p := by
  have hsm := isB_small h
  exact ⟨by have := hsm.1; omega, fun l hl => by have := hsm.2 l hl; omega⟩

set_option maxHeartbeats 8000000 in
set_option maxRecDepth 100000 in
theorem walk (w : World) (A0 : Option Addr) (c0 : Nat) (t : List Int) (ht : ∀ x ∈ t, -9223372036854775808 ≤ x ∧ x ≤ 9223372036854775807) (hc : t.length ≤ c0) (h63 : c0 ≤ 9223372036854775807) (hrt : RdI w w.heap.size .i64 A0 t)
    (x : Int) (x0 : -9223372036854775808 ≤ x) (x1 : x ≤ 9223372036854775807) (y : Int) (y0 : -9223372036854775808 ≤ y) (y1 : y ≤ 9223372036854775807) (ww : Int) (ww0 : -9223372036854775808 ≤ ww) (ww1 : ww ≤ 9223372036854775807) (hh : Int) (hh0 : -9223372036854775808 ≤ hh) (hh1 : hh ≤ 9223372036854775807) :
    Calls Try.prog 6 #[.slice A0 t.length c0, .int .i64 x, .int .i64 y, .int .i64 ww, .int .i64 hh] w fun e w' => e = .returned (.bool true) ∧ Below w.heap.size w w' := by
  have HK := Lib.hid (fun W => known_any W)
  have HT := Lib.hid (newtape_any A0 t c0 ht hc (by omega) w hrt (Nat.le_refl _))
  have HPic := Lib.hid (fun W (hW : TapeB W w.heap.size w.heap.size) => tapepic_any hW 20 (by omega) (by omega))
  clear ht hrt
  go_enter Try.func6, Try.ntmps6
  go_wp2_with (first
    | (go_at_call 14; go_must (refine HT.out.mono ?_); rintro e w1 ⟨rfl, hT1, hb1⟩)
    | (go_at_call 15; go_must (refine (HPic.out _ hT1).mono ?_); rintro e w2 ⟨W, H, d, p, A, c, rfl, hB, _, _, ho2, hT2, hg2⟩; have bb2 : Below w.heap.size w w2 := below_only hb1 hg2 hb1.size (Nat.le_refl _)))
  have hT1l := hT1.lt
  have hsz2 := bb2.size
  have hT2l := hT2.lt
  obtain ⟨b1, b2, b3, b4, b5, b6, b7, b8, b9⟩ := isB_all hB
  have k2 := Blk.new w2 28 #[.int .i64 (W : Int), .int .i64 (H : Int), .int .i64 (d : Int), .slice A p.length c]
  have hTa := hT2.alloc (.cells #[.int .i64 (W : Int), .int .i64 (H : Int), .int .i64 (d : Int), .slice A p.length c] 28)
  have yz := below_alloc (Below.refl w2.heap.size w2) (.cells #[.int .i64 (W : Int), .int .i64 (H : Int), .int .i64 (d : Int), .slice A p.length c] 28)
  have m0 := k2.cell 0
  have m1 := k2.cell 1
  have k2a : Blk (w2.alloc (.cells #[.int .i64 (W : Int), .int .i64 (H : Int), .int .i64 (d : Int), .slice A p.length c] 28)) w2.heap.size 28 #[.int .i64 (W : Int), .int .i64 (H : Int), .int .i64 (d : Int), .slice A p.length c] := k2
  have ho2a := ho2.below (below_alloc (Below.refl w2.heap.size w2) (.cells #[.int .i64 (W : Int), .int .i64 (H : Int), .int .i64 (d : Int), .slice A p.length c] 28))
  generalize w2.alloc (.cells #[.int .i64 (W : Int), .int .i64 (H : Int), .int .i64 (d : Int), .slice A p.length c] 28) = wa at *
  have HX := Lib.hid (fun n => quiet_left (within_any x 0 ((W : Int) - 1) x0 x1 (by omega) (by omega) (by omega) (wa.drewN n)))
  have HY := Lib.hid (fun n => quiet_left (within_any y 0 ((H : Int) - 1) y0 y1 (by omega) (by omega) (by omega) (wa.drewN n)))
  have hxi := withinV_in (n := x) (lo := 0) (hi := (W : Int) - 1) (by omega)
  have hyi := withinV_in (n := y) (lo := 0) (hi := (H : Int) - 1) (by omega)
  obtain ⟨an, han⟩ := Int.eq_ofNat_of_zero_le hxi.1
  obtain ⟨bn, hbn⟩ := Int.eq_ofNat_of_zero_le hyi.1
  rw [han] at hxi HX
  rw [hbn] at hyi HY
  clear han hbn
  go_quiet (first
    | (go_at_call 17; with_reducible exact HX.out _)
    | (go_at_call 17; with_reducible exact HY.out _))
  go_wp2
  obtain ⟨n1, hn1⟩ : ∃ n1, n1 = nq := ⟨_, rfl⟩
  subst hn1
  have HXc := Lib.hid (fun n => quiet_add_left (a := n1) (within_any ww 1 ((W : Int) - an) ww0 ww1 (by omega) (by omega) (by omega) (wa.drewN (n1 + n))))
  have HYc := Lib.hid (fun n => quiet_add_left (a := n1) (within_any hh 1 ((H : Int) - bn) hh0 hh1 (by omega) (by omega) (by omega) (wa.drewN (n1 + n))))
  have hci := withinV_in (n := ww) (lo := 1) (hi := (W : Int) - an) (by omega)
  have hdi := withinV_in (n := hh) (lo := 1) (hi := (H : Int) - bn) (by omega)
  obtain ⟨cn, hcn⟩ := Int.eq_ofNat_of_zero_le (show 0 ≤ withinV ww 1 ((W : Int) - an) by omega)
  obtain ⟨dn, hdn⟩ := Int.eq_ofNat_of_zero_le (show 0 ≤ withinV hh 1 ((H : Int) - bn) by omega)
  rw [hcn] at hci HXc
  rw [hdn] at hdi HYc
  clear hcn hdn
  go_quiet (first
    | (go_at_call 17; with_reducible exact HXc.out _)
    | (go_at_call 17; with_reducible exact HYc.out _))
  have hins : insB W H an bn cn dn = true := by simp only [insB, decide_eq_true_eq]; omega
  have hT2 : TapeB wa w.heap.size w.heap.size := hTa
  have yz := below_drewN (below_drewN yz n1) nq
  have hTz := (hTa.drewN n1).drewN nq
  have k2z := (Blk.drewN (Blk.drewN k2a n1) nq)
  have hoz := (ho2a.drewNN n1).drewNN nq
  clear HX HY HXc HYc hTa hT2 k2a ho2a m0 m1
  generalize (wa.drewN n1).drewN nq = wz at *
  have hpl : ∀ l ∈ p, l.length = W * H := fun l hl => (b9 l hl).1
  have hBq := cutLL_isB hB hins
  have HCut := Lib.hid (fun W' (hb : Below wz.heap.size wz W') => cut_yes (c := c) (rdTo hoz hb) (Nat.le_refl _) an bn cn dn hB hins)
  have yz0 := Below.refl wz.heap.size wz
  obtain ⟨x0, x1, x2, x3, _⟩ := k2z.four
  go_wp2_with (first
    | (go_at_call 23; go_must (refine (HCut.out _ (by repeat (first | exact Below.refl _ _ | assumption | refine Below.drew ?_ | refine below_drewN ?_ _ | refine below_alloc ?_ _))).mono ?_); rintro e w3 ⟨A3, c3, rfl, ho3, hb3⟩; have k3 := k2z.below hb3 k2z.lt; have q3 := Blk.new w3 28 #[.int .i64 (cn : Int), .int .i64 (dn : Int), .int .i64 (d : Int), .slice A3 p.length c3]; clear x0 x1 x2 x3; obtain ⟨x0, x1, x2, x3, _⟩ := (k3.alloc (.cells #[.int .i64 (cn : Int), .int .i64 (dn : Int), .int .i64 (d : Int), .slice A3 p.length c3] 28)).four; obtain ⟨y0, y1, y2, y3, _⟩ := q3.four; have HP := fun W' (hb : Below w3.heap.size w3 W') => paste_yes (c := c) (c2 := c3) (rdTo hoz (hb3.trans (hb.mono hb3.size))) (rdTo ho3 hb) (Nat.le_refl _) an bn hB hBq (cutLL_length p W an bn cn dn).symm hins; simp only [cutLL_length, pasteLL_cutLL hpl hins] at HP; replace HP := Lib.hid HP)
    | (go_at_call 24; go_must (refine (HP.out _ (by repeat (first | exact Below.refl _ _ | assumption | refine Below.drew ?_ | refine below_drewN ?_ _ | refine below_alloc ?_ _))).mono ?_); rintro e w4 ⟨A4, c4, rfl, ho4, hb4⟩; have z4 := below_then (below_alloc (Below.refl w3.heap.size w3) _) hb4; have k4 := k3.below z4 k3.lt; have q4 := q3.below hb4 q3.lt; have r4 := Blk.new w4 28 #[.int .i64 (W : Int), .int .i64 (H : Int), .int .i64 (d : Int), .slice A4 p.length c4]; clear x0 x1 x2 x3 y0 y1 y2 y3; obtain ⟨y0, y1, y2, y3, _⟩ := (q4.alloc (.cells #[.int .i64 (W : Int), .int .i64 (H : Int), .int .i64 (d : Int), .slice A4 p.length c4] 28)).four; have HR := fun W' (hb : Below w4.heap.size w4 W') => rcopy_any (q := ⟨(cn : Int), (dn : Int), (d : Int), cutLL p W an bn cn dn⟩) (c := c3) (rdTo ho3 (z4.trans (hb.mono z4.size))) (Nat.le_refl _) (isB_small hBq); simp only [cutLL_length] at HR; replace HR := Lib.hid HR)
    | (go_at_call 16; go_must (refine (HR.out _ (by repeat (first | exact Below.refl _ _ | assumption | refine Below.drew ?_ | refine below_drewN ?_ _ | refine below_alloc ?_ _))).mono ?_); rintro e w5 ⟨A5, c5, rfl, ho5, hb5⟩))
  have zb := below_then (below_then hb3 z4) (below_alloc (Below.refl w4.heap.size w4) (.cells #[.int .i64 (W : Int), .int .i64 (H : Int), .int .i64 (d : Int), .slice A4 p.length c4] 28))
  have op := hoz.below zb
  have orr := ho4.below (below_alloc (Below.refl w4.heap.size w4) (.cells #[.int .i64 (W : Int), .int .i64 (H : Int), .int .i64 (d : Int), .slice A4 p.length c4] 28))
  have kb := k4.alloc (.cells #[.int .i64 (W : Int), .int .i64 (H : Int), .int .i64 (d : Int), .slice A4 p.length c4] 28)
  have Tb := hTz.below zb hTz.lt
  have hwz : w2.heap.size < wz.heap.size := k2z.lt
  have hzb := zb.size
  have hszb := World.size_alloc w4 (.cells #[.int .i64 (W : Int), .int .i64 (H : Int), .int .i64 (d : Int), .slice A4 p.length c4] 28)
  have bbz := bb2.trans (yz.mono hsz2)
  have hbb : Below w.heap.size w (w4.alloc (.cells #[.int .i64 (W : Int), .int .i64 (H : Int), .int .i64 (d : Int), .slice A4 p.length c4] 28)) := bbz.trans (zb.mono bbz.size)
  have g5 := only_alloc (only_below hb5 (some w.heap.size)) (.cells #[.int .i64 (cn : Int), .int .i64 (dn : Int), .int .i64 (d : Int), .slice A5 p.length c5] 28)
  have ob := Blk.new w5 28 #[.int .i64 (cn : Int), .int .i64 (dn : Int), .int .i64 (d : Int), .slice A5 p.length c5]
  have oo := ho5.below (below_alloc (Below.refl w5.heap.size w5) (.cells #[.int .i64 (cn : Int), .int .i64 (dn : Int), .int .i64 (d : Int), .slice A5 p.length c5] 28))
  have T5 := (Tb.below hb5 Tb.lt).alloc (.cells #[.int .i64 (cn : Int), .int .i64 (dn : Int), .int .i64 (d : Int), .slice A5 p.length c5] 28)
  have hs5 := hb5.size
  have h45 : w4.heap.size + 1 ≤ w3.heap.size + w4.heap.size + 1 := by omega
  have hw34 : w3.heap.size + 1 ≤ w4.heap.size := by have := hb4.size; simpa using this
  have hw3z := hb3.size
  generalize w4.alloc (.cells #[.int .i64 (W : Int), .int .i64 (H : Int), .int .i64 (d : Int), .slice A4 p.length c4] 28) = wb at *
  generalize w5.alloc (.cells #[.int .i64 (cn : Int), .int .i64 (dn : Int), .int .i64 (d : Int), .slice A5 p.length c5] 28) = wc at *
  have hval : ∀ l ∈ cutLL p W an bn cn dn, l.length = cn * dn ∧ ∀ v ∈ l, okV d v = true := (isB_all hBq).2.2.2.2.2.2.2.2
  have hcd : 1 ≤ cn ∧ cn ≤ 64 ∧ 1 ≤ dn ∧ dn ≤ 64 := by
    have := isB_all hBq
    omega
  have hcdp : 0 < cn * dn := Nat.mul_pos (by omega) (by omega)
  obtain ⟨G, hA5⟩ : ∃ G, A5 = some ⟨G, 0, none⟩ := by
    obtain ⟨G, C, g5, c5, hv, _⟩ := OwnLL.at_ oo (j := 0) (by decide) (by rw [cutLL_length]; omega) (by rw [(hval _ (mem_getD (by rw [cutLL_length]; omega))).1]; exact hcdp)
    simp only [Value.slice.injEq] at hv
    exact ⟨G, hv.1⟩
  subst hA5
  have hval := Lib.hid hval
  have HpL := Lib.hid hpl
  have HBq := Lib.hid hBq
  clear hpl hBq b9 ho2 hoz ho3 ho4 ho5 hb3 hb4 hb5 z4 zb k3 k4 q3 q4 k2z hTz hT1 hg2 hb1 yz yz0 bbz HCut HP HR y0 y1 y2 y3 HT HPic
  go_loopw [22] (fun i wr => ∃ (j : Nat) (ls : List (List Int)), j ≤ p.length ∧ i = .int .i64 j ∧ ls.length = p.length ∧ (∀ l ∈ ls, l.length = cn * dn ∧ ∀ v ∈ l, okV d v = true) ∧ wb.grownBy wr (some w.heap.size) ∧ TapeB wr w.heap.size w.heap.size ∧
      Blk wr w5.heap.size 28 #[.int .i64 (cn : Int), .int .i64 (dn : Int), .int .i64 (d : Int), .slice (some ⟨G, 0, none⟩) p.length c5] ∧ OwnLL wr wb.heap.size 25 3 .i64 (.slice (some ⟨G, 0, none⟩) p.length c5) ls) (fun i _ => p.length - (intOf i).toNat)
  case atStart => exact ⟨0, _, Nat.zero_le _, rfl, cutLL_length _ _ _ _ _ _, hval.out, g5, T5, ob, oo⟩
  case round =>
    obtain ⟨j, ls, hj, rfl, hll, hvl, hgr, hTr, hOr, hor⟩ := hrel
    obtain ⟨x0, x1, x2, x3, _⟩ := hOr.four
    by_cases hlt : j < p.length
    · have hvl := Lib.hid hvl
      have hkr := kb.grown hgr (by simp; omega)
      obtain ⟨_, _, d2, _, _⟩ := hkr.four
      clear x0 x1 x2
      have hszr := hgr.size
      obtain ⟨hGb, cs, hGB⟩ := head hor
      obtain ⟨G', C', gj, cj, hv, hC, hcell, _⟩ := OwnLL.at_ hor (j := j) (by decide) (by omega) (by rw [(hvl.out _ (mem_getD (by omega))).1]; exact hcdp)
      simp only [Value.slice.injEq, Option.some.injEq, Addr.mk.injEq, and_true] at hv
      obtain ⟨rfl, hclr, rfl⟩ := hv
      clear hclr hC
      generalize (ls.getD j []).length = lj at *
      go_wp2
      go_region_law (first
        | (go_simp; go_at_call 20; refine (plane_any (by exact hTr) cn dn d hcd.1 hcd.2.1 hcd.2.2.1 hcd.2.2.2 (by omega) (by omega)).mono ?_; rintro e w6 ⟨A6, c6, l6, rfl, hl6, hok6, hown6, hT6, hg6'⟩; have hg6 := only_undrew hg6'; clear hg6'; replace hl6 := Lib.hid hl6; replace hok6 := Lib.hid hok6; have hO6 := hOr.grown hg6 (by simp; omega); have x3' := hO6.cell 3; have hG6 := hGB.grown hg6 (by simp; omega); have hcell6 : w6.cell? ⟨G, j, none⟩ = some (.slice (some ⟨gj, 0, none⟩) lj cj) := by { rw [hG6.cell j, ← hGB.cell j]; exact hcell }; have hfr6 := hG6.frozen j))
      all_goals
        have hlo6 : ∀ ad, A6 = some ad → wr.heap.size ≤ ad.block := hown6.lo
        have hput := OwnLL.put hor (by decide) hg6 (.inl (by omega)) (i := j) (by omega) (hown6.base_ (by exact hszr)) hlo6
        have hgw := only_setCell (only_trans hgr hg6) (p := ⟨G, j, none⟩) (.inr hGb) (.slice A6 l6.length c6)
        have hT7 := hT6.far (a := ⟨G, j, none⟩) (show w.heap.size ≤ G by omega) (show w.heap.size ≠ G by omega) (.slice A6 l6.length c6)
        have hO7 : Blk (w6.setCell ⟨G, j, none⟩ (.slice A6 l6.length c6)) w5.heap.size 28 #[.int .i64 (cn : Int), .int .i64 (dn : Int), .int .i64 (d : Int), .slice (some ⟨G, 0, none⟩) p.length c5] := hO6.far (fun e => by
          subst e
          have := hG6.symm.trans hO6
          simp at this) _
        go_wp2
        go_roundw
        case rel =>
          refine ⟨j + 1, _, by omega, by go_num, by rw [List.length_set]; exact hll, fun l hl => ?_, hgw, hT7, hO7, hput⟩
          rcases List.mem_or_eq_of_mem_set hl with hl | rfl
          · exact hvl.out l hl
          · exact ⟨hl6.out, hok6.out⟩
        case measure => simp [intOf]; omega
    · have hjl : j = p.length := by omega
      have hjn : ¬ (j : Int) < (p.length : Int) := by omega
      have hszr := hgr.size
      have hkr := kb.grown hgr (by simp; omega)
      have hrr := r4.grown hgr (by simp; omega)
      have hpr := OwnLL.kept op hgr (.inl (by omega))
      have hqr := OwnLL.kept orr hgr (.inl (by simp; omega))
      have hBo : isB ⟨(cn : Int), (dn : Int), (d : Int), ls⟩ = true := isB_mk (by omega) (by omega) (by omega) (by omega) (by omega) (by omega) (by omega) (by omega) hvl
      have hBs := pasteLL_isB hB hBo hll.symm hins
      have hcs := cutLL_pasteLL (q := ls) HpL.out (fun l hl => (hvl l hl).1) hll.symm hins
      have hlp := pasteLL_length p ls W an bn cn dn p.length
      have HPx := fun W' (hb : Below wr.heap.size wr W') => paste_yes (c := c) (c2 := c5) (rdTo hpr hb) (rdTo hor hb) (Nat.le_refl _) an bn hB hBo hll.symm hins
      simp only [hll] at HPx
      replace HPx := Lib.hid HPx
      have S1 := fun W' (hb : Below wr.heap.size wr W') => same_any (a := ⟨(W : Int), (H : Int), (d : Int), p⟩) (b := ⟨(W : Int), (H : Int), (d : Int), p⟩) (c := c4) (c2 := c) (rdTo hqr hb) (rdTo hpr hb) (Nat.le_refl _) (small63 hB)
      simp only [show sameB ⟨(W : Int), (H : Int), (d : Int), p⟩ ⟨(W : Int), (H : Int), (d : Int), p⟩ = true by simp [sameB]] at S1
      replace S1 := Lib.hid S1
      obtain ⟨y0, y1, y2, y3, _⟩ := hkr.four
      have HBs := Lib.hid hBs
      have HCs := Lib.hid hcs
      have HLp := Lib.hid hlp
      have HLl := Lib.hid hll
      have HBo := Lib.hid hBo
      clear hBs hcs hlp hll hBo hvl hval HpL HBq
      go_wp2_with (first
        | (go_at_call 24; go_must (refine (HPx.out _ (Below.refl _ _)).mono ?_); rintro e w7 ⟨A7, c7, rfl, ho7, hb7⟩; clear x0 x1 x2 x3 y0 y1 y2 y3; have p7 := hkr.below hb7 hkr.lt; have r7 := hrr.below hb7 hrr.lt; have o7 := hOr.below hb7 hOr.lt; obtain ⟨x0, x1, x2, x3, _⟩ := (Blk.new w7 28 #[.int .i64 (W : Int), .int .i64 (H : Int), .int .i64 (d : Int), .slice A7 p.length c7]).four; have HCx := fun W' (hb : Below w7.heap.size w7 W') => cut_yes (c := c7) (rdTo ho7 hb) (Nat.le_refl _) an bn cn dn HBs.out hins; simp only [HCs.out, HLp.out] at HCx; replace HCx := Lib.hid HCx)
        | (go_at_call 23; go_must (refine (HCx.out _ (by repeat (first | exact Below.refl _ _ | assumption | refine Below.drew ?_ | refine below_drewN ?_ _ | refine below_alloc ?_ _))).mono ?_); rintro e w8 ⟨A8, c8, rfl, ho8, hb8⟩; have z8 := below_then (below_alloc (Below.refl w7.heap.size w7) _) hb8; have b8' := below_then hb7 z8; have p8 := p7.below z8 p7.lt; have r8 := r7.below z8 r7.lt; have o8 := o7.below z8 o7.lt; have u8 := Blk.new w8 28 #[.int .i64 (cn : Int), .int .i64 (dn : Int), .int .i64 (d : Int), .slice A8 p.length c8]; clear x0 x1 x2 x3; obtain ⟨x0, x1, x2, x3, _⟩ := (r8.alloc (.cells #[.int .i64 (cn : Int), .int .i64 (dn : Int), .int .i64 (d : Int), .slice A8 p.length c8] 28)).four; obtain ⟨y0, y1, y2, y3, _⟩ := (p8.alloc (.cells #[.int .i64 (cn : Int), .int .i64 (dn : Int), .int .i64 (d : Int), .slice A8 p.length c8] 28)).four; have S2 := fun W' (hb : Below w8.heap.size w8 W') => same_any (a := ⟨(cn : Int), (dn : Int), (d : Int), ls⟩) (b := ⟨(cn : Int), (dn : Int), (d : Int), ls⟩) (c := c8) (c2 := c5) (rdTo ho8 hb) (rdTo hor (b8'.trans (hb.mono b8'.size))) (Nat.le_refl _) (small63 HBo.out); simp only [show sameB ⟨(cn : Int), (dn : Int), (d : Int), ls⟩ ⟨(cn : Int), (dn : Int), (d : Int), ls⟩ = true by simp [sameB], HLl.out] at S2; replace S2 := Lib.hid S2)
        | (go_at_call 25; (with_reducible refine (S1.out (w8.alloc _) (below_alloc b8' _)).mono ?_); rintro e w9 ⟨rfl, hb9⟩; clear x0 x1 x2 x3 y0 y1 y2 y3; have z9 := below_then (below_alloc (Below.refl w8.heap.size w8) _) hb9; obtain ⟨x0, x1, x2, x3, _⟩ := (u8.below hb9 u8.lt).four; obtain ⟨y0, y1, y2, y3, _⟩ := (o8.below z9 o8.lt).four)
        | (go_at_call 25; (with_reducible refine (S2.out w9 z9).mono ?_); rintro e w10 ⟨rfl, hb10⟩)
        | (go_at_call 13; go_must (refine (HK.out _).mono ?_); rintro e w11 ⟨rfl, hb11⟩))
      go_ret
      have hbw : Below w.heap.size w wr := below_only hbb hgr hbb.size (Nat.le_refl _)
      exact ⟨rfl, below_then (below_then (below_then (below_then hbw b8') z9) hb10) hb11⟩
end Go.Proofs.Ytbmgnclfecejeaa.picBack
