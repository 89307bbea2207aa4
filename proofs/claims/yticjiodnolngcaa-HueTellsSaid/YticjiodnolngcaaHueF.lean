/- hue.Fore. -/
import Derived.Test.YticjiodnolngcaaHueMix
import Derived.Test.YticjiodnolngcaaPicAt
import Derived.Test.YticjiodnolngcaaPicPic
set_option linter.unusedSimpArgs false
set_option linter.unusedVariables false
namespace Go.Proofs.Yticjiodnolngcaa
open Go.RowKit

set_option maxHeartbeats 2000000 in
theorem huefore_no {w : World} {B : Nat} {q : Pc} {A : Option Addr} {c : Nat} (hr : RdLL w B .i64 A q.p) (hB : B ≤ w.heap.size) (h63 : q.p.length ≤ 9223372036854775807) (kind : Int) (hno : (isB q && mayB q.p.length kind) = false) :
    Calls Try.prog 11 #[.agg #[.int .i64 q.w, .int .i64 q.h, .int .i64 q.d, .slice A q.p.length c], .int .i64 kind] w fun e w' => e = .returned (.tuple #[.agg #[.int .i64 0, .int .i64 0, .int .i64 0, .slice none 0 0], .int .i64 1]) ∧ Below w.heap.size w w' := by
  have HI := Lib.hid (fun W (hb : Below w.heap.size w W) => is_any (c := c) (hr.to hB hb) (Nat.le_refl _))
  have HM := Lib.hid (fun W => may_any q.p.length kind W)
  cases hq : isB q
  all_goals
    first
    | (rw [hq] at HI hno; rw [Bool.true_and] at hno; rw [hno] at HM; clear hq hno)
    | (rw [hq] at HI; clear hq hno)
    go_enter Try.func11, Try.ntmps11
    go_wp2_with (first
      | (go_at_call 30; go_must (refine (HI.out _ (by repeat (first | exact Below.refl _ _ | assumption | refine Below.drew ?_ | refine below_drewN ?_ _ | refine below_alloc ?_ _))).mono ?_); rintro e w1 ⟨rfl, hb1⟩; have k1 := ((Blk.new w 27 #[.int .i64 q.w, .int .i64 q.h, .int .i64 q.d, .slice A q.p.length c]).alloc (.cells #[.int .i64 0, .int .i64 0, .int .i64 0, .slice none 0 0] 27)).below hb1 (by simp; omega); have r1 := (Blk.new1 w (.cells #[.int .i64 q.w, .int .i64 q.h, .int .i64 q.d, .slice A q.p.length c] 27) 27 #[.int .i64 0, .int .i64 0, .int .i64 0, .slice none 0 0]).below hb1 (by simp); obtain ⟨y0, y1, y2, y3, _⟩ := k1.four; obtain ⟨q0, q1, q2, q3, f0, f1, f2, f3⟩ := r1.four; have bb1 := below_then (below_alloc (below_alloc (Below.refl w.heap.size w) _) _) hb1)
      | (go_at_call 17; go_must (refine (HM.out _).mono ?_); rintro e w2 ⟨rfl, rfl⟩))
    refine bodyPost_ret (v := .tuple #[.agg #[.int .i64 0, .int .i64 0, .int .i64 0, .slice none 0 0], .int .i64 1]) (by simp [results, Try.results11, go_sem, q0, q1, q2, q3]) rfl ⟨rfl, ?_⟩
    repeat (refine Below.setCell ?_ (by simp) _)
    exact bb1

set_option maxHeartbeats 8000000 in
set_option maxRecDepth 100000 in
theorem huefore_yes {w : World} {B W H d : Nat} {p : List (List Int)} {A : Option Addr} {c : Nat} (hr : RdLL w B .i64 A p) (hB : B ≤ w.heap.size) (hI : isB ⟨(W : Int), (H : Int), (d : Int), p⟩ = true) (kind : Int) (hm : mayB p.length kind = true) :
    Calls Try.prog 11 #[.agg #[.int .i64 (W : Int), .int .i64 (H : Int), .int .i64 (d : Int), .slice A p.length c], .int .i64 kind] w fun e w' => ∃ A' c', e = .returned (.tuple #[.agg #[.int .i64 (W : Int), .int .i64 (H : Int), .int .i64 (d : Int), .slice A' p.length c'], .int .i64 0]) ∧
      OwnLL w' w.heap.size 22 3 .i64 (.slice A' p.length c') (hueLL (foreC kind d) p (W * H)) ∧ Below w.heap.size w w' := by
  have HI := Lib.hid (fun W' (hb : Below w.heap.size w W') => is_any (q := ⟨(W : Int), (H : Int), (d : Int), p⟩) (c := c) (hr.to hB hb) (Nat.le_refl _))
  rw [hI] at HI
  have HM := Lib.hid (fun W' => may_any p.length kind W')
  rw [hm] at HM
  have HC := Lib.hid (fun W' (hb : Below w.heap.size w W') => copy_any (q := ⟨(W : Int), (H : Int), (d : Int), p⟩) (c := c) (hr.to hB hb) (Nat.le_refl _) (isB_small hI))
  have hrw := hr.to hB (Below.refl _ _)
  obtain ⟨b1, b2, b3, b4, b5, b6, b7, b8, b9⟩ := isB_all hI
  have HOk := Lib.hid (fun i => colC_ok hI i)
  have HP := Lib.hid (fun x W' (hx : C4.ok x d) => forepoint_any x kind d ⟨b5, b6⟩ hx W')
  have hWHp : 0 < W * H := Nat.mul_pos (by omega) (by omega)
  have hWHm : W * H ≤ 4096 := Nat.mul_le_mul (show W ≤ 64 by omega) (show H ≤ 64 by omega)
  have hWHc : (W : Int) * (H : Int) = ((W * H : Nat) : Int) := by simp
  have hpl : ∀ l ∈ p, l.length = W * H := fun l hl => (b9 l hl).1
  generalize W * H = N at *
  have hpl := Lib.hid hpl
  have HCC := Lib.hid hWHc
  have hw0 : IntKind.i64.wrap ((W : Int) * (H : Int)) = (N : Int) := by rw [hWHc]; exact IntWalk.i64_in _ (by omega)
  clear hI hm b9 hWHc hr
  go_enter Try.func11, Try.ntmps11
  go_wp2_with (first
    | (go_at_call 30; go_must (refine (HI.out _ (by repeat (first | exact Below.refl _ _ | assumption | refine Below.drew ?_ | refine below_drewN ?_ _ | refine below_alloc ?_ _))).mono ?_); rintro e w1 ⟨rfl, hb1⟩; have k1 := ((Blk.new w 27 #[.int .i64 (W : Int), .int .i64 (H : Int), .int .i64 (d : Int), .slice A p.length c]).alloc (.cells #[.int .i64 0, .int .i64 0, .int .i64 0, .slice none 0 0] 27)).below hb1 (by simp; omega); have r1 := (Blk.new1 w (.cells #[.int .i64 (W : Int), .int .i64 (H : Int), .int .i64 (d : Int), .slice A p.length c] 27) 27 #[.int .i64 0, .int .i64 0, .int .i64 0, .slice none 0 0]).below hb1 (by simp); obtain ⟨y0, y1, y2, y3, _⟩ := k1.four; have bb1 := below_then (below_alloc (below_alloc (Below.refl w.heap.size w) _) _) hb1)
    | (go_at_call 17; go_must (refine (HM.out _).mono ?_); rintro e w2 ⟨rfl, rfl⟩)
    | (go_at_call 31; go_must (refine (HC.out _ bb1).mono ?_); rintro e w3 ⟨A3, c3, rfl, ho3, hb3⟩; have k3 := (k1.below hb3 k1.lt).alloc (.cells #[.int .i64 (W : Int), .int .i64 (H : Int), .int .i64 (d : Int), .slice A3 p.length c3] 27); clear y0 y1 y2 y3; obtain ⟨y0, y1, y2, y3, _⟩ := k3.four))
  have r3 := (r1.below hb3 r1.lt).alloc (.cells #[.int .i64 (W : Int), .int .i64 (H : Int), .int .i64 (d : Int), .slice A3 p.length c3] 27)
  have o3 := Blk.new w3 27 #[.int .i64 (W : Int), .int .i64 (H : Int), .int .i64 (d : Int), .slice A3 p.length c3]
  have oo := ho3.below (below_alloc (Below.refl w3.heap.size w3) (.cells #[.int .i64 (W : Int), .int .i64 (H : Int), .int .i64 (d : Int), .slice A3 p.length c3] 27))
  have bba := below_then (below_then bb1 hb3) (below_alloc (Below.refl w3.heap.size w3) (.cells #[.int .i64 (W : Int), .int .i64 (H : Int), .int .i64 (d : Int), .slice A3 p.length c3] 27))
  have hs1 : w.heap.size + 1 < w1.heap.size := r1.lt
  have hs3 := hb3.size
  generalize w3.alloc (.cells #[.int .i64 (W : Int), .int .i64 (H : Int), .int .i64 (d : Int), .slice A3 p.length c3] 27) = wa at *
  obtain ⟨G, hA3⟩ : ∃ G, A3 = some ⟨G, 0, none⟩ := by
    obtain ⟨G, C, g5, c5, hv, _⟩ := OwnLL.at_ oo (j := 0) (by decide) (by omega) (by rw [hpl.out _ (mem_getD (by omega))]; exact hWHp)
    simp only [Value.slice.injEq] at hv
    exact ⟨G, hv.1⟩
  subst hA3
  have oo := (show OwnLL wa w1.heap.size 22 3 .i64 (.slice (some ⟨G, 0, none⟩) p.length c3) (mixLL (foreC kind d) p N 0 0) by rw [mixLL_zero hpl.out]; exact oo)
  clear y0 y1 y2 y3 ho3 hb3 hb1 bb1 k1 r1 HI HM HC hWHp
  go_loopw [32] (fun i wr => ∃ n : Nat, n ≤ N ∧ i = .int .i64 n ∧ Below w.heap.size w wr ∧ Blk wr w.heap.size 27 #[.int .i64 (W : Int), .int .i64 (H : Int), .int .i64 (d : Int), .slice A p.length c] ∧ Blk wr (w.heap.size + 1) 27 #[.int .i64 0, .int .i64 0, .int .i64 0, .slice none 0 0] ∧ Blk wr w3.heap.size 27 #[.int .i64 (W : Int), .int .i64 (H : Int), .int .i64 (d : Int), .slice (some ⟨G, 0, none⟩) p.length c3] ∧
      OwnLL wr w1.heap.size 22 3 .i64 (.slice (some ⟨G, 0, none⟩) p.length c3) (mixLL (foreC kind d) p N n 0)) (fun i _ => N - (intOf i).toNat)
  case atStart => exact ⟨0, Nat.zero_le _, rfl, bba, k3, r3, o3, oo⟩
  case round =>
    obtain ⟨n, hn, rfl, hbr, kr, rr, okr, orr⟩ := hrel
    obtain ⟨wo, hwo⟩ : ∃ wo, wo = wr := ⟨_, rfl⟩
    subst hwo
    by_cases hlt : n < N
    · have hx := HOk.out n
      have HX := Lib.hid (show colC p n = ⟨(p.getD 0 []).getD n 0, (p.getD 1 []).getD n 0, (p.getD 2 []).getD n 0, (p.getD 3 []).getD n 0⟩ from rfl)
      have HV : Hid (∀ j, j < p.length → (p.getD j []).getD n 0 = (colC p n).sel j) := fun j hj => by
        rcases (show j = 0 ∨ j = 1 ∨ j = 2 ∨ j = 3 by omega) with rfl | rfl | rfl | rfl <;> rfl
      have HZ : Hid (∀ j, j < 4 → p.length ≤ j → (colC p n).sel j = 0) := fun j hj hp => by
        have e : p.getD j [] = [] := by simp [List.getD, List.getElem?_eq_none hp]
        rcases (show j = 0 ∨ j = 1 ∨ j = 2 ∨ j = 3 by omega) with rfl | rfl | rfl | rfl <;> simp only [C4.sel, colC, e] <;> simp
      have HPx := Lib.hid (fun W' => HP.out (colC p n) W' hx)
      have HY := Lib.hid (show ∀ k, (foreC kind d (colC p n)).sel k = (foreC kind d (colC p n)).sel k from fun _ => rfl)
      have HSet := Lib.hid (fun k (hk : k < p.length) => mixLL_set (f := foreC kind d) (p := p) hk hlt)
      have HNext := Lib.hid (mixLL_next (foreC kind d) p N n)
      have HRow := Lib.hid (fun k j (hj : j < p.length) => mixLL_row (f := foreC kind d) (N := N) (n := n) (k := k) hj)
      generalize foreC kind d (colC p n) = y at *
      generalize colC p n = x at *
      obtain ⟨xa, xb, xc, xe⟩ := x
      obtain ⟨ya, yb, yc, ye⟩ := y
      clear hx HX HY
      simp only at HPx
      obtain ⟨y0, y1, y2, y3, _⟩ := kr.four
      have hsr := hbr.size
      have hks : w.heap.size < wo.heap.size := kr.lt
      go_wp2
      have kz := Blk.new wo 52 #[.int .i64 0, .int .i64 0, .int .i64 0, .int .i64 0]
      have gz : wo.grownBy (wo.alloc (.cells #[.int .i64 0, .int .i64 0, .int .i64 0, .int .i64 0] 52)) (some wo.heap.size) := only_alloc (only_refl _ _) _
      generalize wo.alloc (.cells #[.int .i64 0, .int .i64 0, .int .i64 0, .int .i64 0] 52) = wz at *
      clear y0 y1 y2 y3
      go_loopw [38] (fun i wq => ∃ j : Nat, j ≤ p.length ∧ i = .int .i64 j ∧ wo.grownBy wq (some wo.heap.size) ∧ Blk wq wo.heap.size 52 #[.int .i64 (if 0 < j then xa else 0), .int .i64 (if 1 < j then xb else 0), .int .i64 (if 2 < j then xc else 0), .int .i64 (if 3 < j then xe else 0)]) (fun i _ => p.length - (intOf i).toNat)
      case atStart => exact ⟨0, Nat.zero_le _, rfl, gz, by simpa using kz⟩
      case round =>
        obtain ⟨j, hj, rfl, gq, kq⟩ := hrel
        obtain ⟨wq, hwq⟩ : ∃ wq, wq = wr := ⟨_, rfl⟩
        subst hwq
        by_cases hjl : j < p.length
        · obtain ⟨ad, Aj, cj, rfl, hadB, hcell0, hcj, hrj⟩ := hrw j hjl
          have hbq : Below w.heap.size w wq := below_only hbr gq hbr.size (by omega)
          have hcell := (hbq.cell (p := ad.add j) (by rw [add_block]; exact hadB)).trans hcell0
          have hlen := hpl.out _ (mem_getD hjl)
          obtain ⟨ad2, rfl, had2, hel0⟩ := hrj.at_ (j := n) (by rw [hlen]; exact hlt)
          have hel := (hbq.cell (p := ad2.add n) (by rw [add_block]; exact had2)).trans hel0
          rw [HV.out j hjl] at hel
          have hln : n < (p.getD j []).length := by rw [hlen]; exact hlt
          clear hcell0 hel0 hrj hlen
          generalize (p.getD j []).length = ln at *
          obtain ⟨z0, z1, z2, z3, f0, f1, f2, f3⟩ := kq.four
          clear z0 z1 z2 z3
          have hj4 : (j : Int) < 4 := by omega
          have hfj : wq.frozen? ⟨wo.heap.size, j, none⟩ = false := kq.frozen j
          obtain ⟨ov, hov⟩ : ∃ ov, wq.cell? ⟨wo.heap.size, j, none⟩ = some ov := by
            rcases (show j = 0 ∨ j = 1 ∨ j = 2 ∨ j = 3 by omega) with rfl | rfl | rfl | rfl
            · exact ⟨_, kq.cell 0⟩
            · exact ⟨_, kq.cell 1⟩
            · exact ⟨_, kq.cell 2⟩
            · exact ⟨_, kq.cell 3⟩
          have kn := kq.set_ j (.int .i64 (C4.sel ⟨xa, xb, xc, xe⟩ j))
          have gn := only_setCell gq (p := ⟨wo.heap.size, j, none⟩) (.inl rfl) (.int .i64 (C4.sel ⟨xa, xb, xc, xe⟩ j))
          have KN : Hid (Blk (wq.setCell ⟨wo.heap.size, j, none⟩ (.int .i64 (C4.sel ⟨xa, xb, xc, xe⟩ j))) wo.heap.size 52 #[.int .i64 (if 0 < j + 1 then xa else 0), .int .i64 (if 1 < j + 1 then xb else 0), .int .i64 (if 2 < j + 1 then xc else 0), .int .i64 (if 3 < j + 1 then xe else 0)]) := by
            rw [Hid]
            rcases (show j = 0 ∨ j = 1 ∨ j = 2 ∨ j = 3 by omega) with rfl | rfl | rfl | rfl <;> simpa [C4.sel] using kn
          clear kn
          generalize C4.sel ⟨xa, xb, xc, xe⟩ j = sj at *
          go_wp2
          go_roundw
          case rel => exact ⟨j + 1, by omega, by go_num, gn, KN.out⟩
          case measure => simp [intOf]; omega
        · have hjp : j = p.length := by omega
          subst hjp
          have kc : Blk wq wo.heap.size 52 #[.int .i64 xa, .int .i64 xb, .int .i64 xc, .int .i64 xe] := by
            have e0 : (if 0 < p.length then xa else 0) = xa := by split; rfl; exact (HZ.out 0 (by omega) (by omega)).symm
            have e1 : (if 1 < p.length then xb else 0) = xb := by split; rfl; exact (HZ.out 1 (by omega) (by omega)).symm
            have e2 : (if 2 < p.length then xc else 0) = xc := by split; rfl; exact (HZ.out 2 (by omega) (by omega)).symm
            have e3 : (if 3 < p.length then xe else 0) = xe := by split; rfl; exact (HZ.out 3 (by omega) (by omega)).symm
            rw [e0, e1, e2, e3] at kq
            exact kq
          clear kq
          obtain ⟨z0, z1, z2, z3, f0, f1, f2, f3⟩ := kc.four
          have krq := kr.grown gq (by simp; omega)
          have rrq := rr.grown gq (by have := rr.lt; simp; omega)
          have okq := okr.grown gq (by have := okr.lt; simp; omega)
          have orq := OwnLL.kept orr gq (.inr (Nat.le_refl _))
          have hbq : Below w.heap.size w wq := below_only hbr gq hbr.size (by omega)
          obtain ⟨y0, y1, y2, y3, _⟩ := krq.four
          have hsq := gq.size
          have hne1 : ¬ w3.heap.size = wo.heap.size := by have := okr.lt; omega
          have hne2 : ¬ wo.heap.size = w3.heap.size := by have := okr.lt; omega
          go_wp2_with (first
            | (go_at_call 32; go_must (refine (HPx.out _).mono ?_); rintro e w4 ⟨rfl, hb4⟩; have kc4 := kc.below hb4 kc.lt; have kr4 := krq.below hb4 krq.lt; have rr4 := rrq.below hb4 rrq.lt; have ok4 := okq.below hb4 okq.lt; have or4 := orq.below hb4; have hbw4 := hbq.trans (hb4.mono hbq.size); clear z0 z1 z2 z3 f0 f1 f2 f3 y0 y1 y2 y3; obtain ⟨z0, z1, z2, z3, f0, f1, f2, f3⟩ := kc4.four; obtain ⟨y0, y1, y2, y3, _⟩ := ok4.four))
          have far4 : ∀ {gx : Nat} {cs : Array Value}, Blk w4 gx 27 cs → gx ≠ wo.heap.size → Blk ((((w4.setCell ⟨wo.heap.size, 0, none⟩ (.int .i64 ya)).setCell ⟨wo.heap.size, 1, none⟩ (.int .i64 yb)).setCell ⟨wo.heap.size, 2, none⟩ (.int .i64 yc)).setCell ⟨wo.heap.size, 3, none⟩ (.int .i64 ye)) gx 27 cs := fun h hg => (((h.far (by simpa using hg) _).far (by simpa using hg) _).far (by simpa using hg) _).far (by simpa using hg) _
          have kr5 := far4 kr4 (by omega)
          have rr5 := far4 rr4 (by have := rr.lt; omega)
          have ok5 := far4 ok4 (by omega)
          have kc5 := (((kc4.set_ 0 (.int .i64 ya)).set_ 1 (.int .i64 yb)).set_ 2 (.int .i64 yc)).set_ 3 (.int .i64 ye)
          have kc5' : Blk ((((w4.setCell ⟨wo.heap.size, 0, none⟩ (.int .i64 ya)).setCell ⟨wo.heap.size, 1, none⟩ (.int .i64 yb)).setCell ⟨wo.heap.size, 2, none⟩ (.int .i64 yc)).setCell ⟨wo.heap.size, 3, none⟩ (.int .i64 ye)) wo.heap.size 52 #[.int .i64 ya, .int .i64 yb, .int .i64 yc, .int .i64 ye] := by simpa using kc5
          have g5 : w4.grownBy ((((w4.setCell ⟨wo.heap.size, 0, none⟩ (.int .i64 ya)).setCell ⟨wo.heap.size, 1, none⟩ (.int .i64 yb)).setCell ⟨wo.heap.size, 2, none⟩ (.int .i64 yc)).setCell ⟨wo.heap.size, 3, none⟩ (.int .i64 ye)) (some wo.heap.size) :=
            only_setCell (p := ⟨wo.heap.size, 3, none⟩) (only_setCell (p := ⟨wo.heap.size, 2, none⟩) (only_setCell (p := ⟨wo.heap.size, 1, none⟩) (only_setCell (p := ⟨wo.heap.size, 0, none⟩) (only_refl w4 (some wo.heap.size)) (.inl rfl) (.int .i64 ya)) (.inl rfl) (.int .i64 yb)) (.inl rfl) (.int .i64 yc)) (.inl rfl) (.int .i64 ye)
          have bx5 : Below w.heap.size w ((((w4.setCell ⟨wo.heap.size, 0, none⟩ (.int .i64 ya)).setCell ⟨wo.heap.size, 1, none⟩ (.int .i64 yb)).setCell ⟨wo.heap.size, 2, none⟩ (.int .i64 yc)).setCell ⟨wo.heap.size, 3, none⟩ (.int .i64 ye)) :=
            Below.setCell (p := ⟨wo.heap.size, 3, none⟩) (Below.setCell (p := ⟨wo.heap.size, 2, none⟩) (Below.setCell (p := ⟨wo.heap.size, 1, none⟩) (Below.setCell (p := ⟨wo.heap.size, 0, none⟩) hbw4 hsr (.int .i64 ya)) hsr (.int .i64 yb)) hsr (.int .i64 yc)) hsr (.int .i64 ye)
          have or5 : OwnLL ((((w4.setCell ⟨wo.heap.size, 0, none⟩ (.int .i64 ya)).setCell ⟨wo.heap.size, 1, none⟩ (.int .i64 yb)).setCell ⟨wo.heap.size, 2, none⟩ (.int .i64 yc)).setCell ⟨wo.heap.size, 3, none⟩ (.int .i64 ye)) w1.heap.size 22 3 .i64 (.slice (some ⟨G, 0, none⟩) p.length c3) (mixLL (foreC kind d) p N n 0) := by
            have hg : wo.grownBy ((((w4.setCell ⟨wo.heap.size, 0, none⟩ (.int .i64 ya)).setCell ⟨wo.heap.size, 1, none⟩ (.int .i64 yb)).setCell ⟨wo.heap.size, 2, none⟩ (.int .i64 yc)).setCell ⟨wo.heap.size, 3, none⟩ (.int .i64 ye)) (some wo.heap.size) := only_trans (only_trans gq (only_below hb4 _)) g5
            exact OwnLL.kept orr hg (.inr (Nat.le_refl _))
          generalize (((w4.setCell ⟨wo.heap.size, 0, none⟩ (.int .i64 ya)).setCell ⟨wo.heap.size, 1, none⟩ (.int .i64 yb)).setCell ⟨wo.heap.size, 2, none⟩ (.int .i64 yc)).setCell ⟨wo.heap.size, 3, none⟩ (.int .i64 ye) = w5 at *
          have HYs : Hid (∀ k, k < 4 → (#[Value.int .i64 ya, .int .i64 yb, .int .i64 yc, .int .i64 ye])[k]? = some (.int .i64 (C4.sel ⟨ya, yb, yc, ye⟩ k))) := fun k hk => by
            rcases (show k = 0 ∨ k = 1 ∨ k = 2 ∨ k = 3 by omega) with rfl | rfl | rfl | rfl <;> rfl
          clear far4 kc5 g5 kr4 rr4 ok4 or4 kc4 kc krq rrq okq orq z0 z1 z2 z3 f0 f1 f2 f3 y0 y1 y2 y3 hb4 gq hbq hbw4 HPx
          have HcbT : wo.heap.size = wo.heap.size := rfl
          clear HcbT
          go_loopw [58] (fun i ws => ∃ k : Nat, k ≤ p.length ∧ i = .int .i64 k ∧ Below w.heap.size w ws ∧ Blk ws wo.heap.size 52 #[.int .i64 ya, .int .i64 yb, .int .i64 yc, .int .i64 ye] ∧ Blk ws w.heap.size 27 #[.int .i64 (W : Int), .int .i64 (H : Int), .int .i64 (d : Int), .slice A p.length c] ∧ Blk ws (w.heap.size + 1) 27 #[.int .i64 0, .int .i64 0, .int .i64 0, .slice none 0 0] ∧ Blk ws w3.heap.size 27 #[.int .i64 (W : Int), .int .i64 (H : Int), .int .i64 (d : Int), .slice (some ⟨G, 0, none⟩) p.length c3] ∧
            OwnLL ws w1.heap.size 22 3 .i64 (.slice (some ⟨G, 0, none⟩) p.length c3) (mixLL (foreC kind d) p N n k)) (fun i _ => p.length - (intOf i).toNat)
          case atStart => exact ⟨0, Nat.zero_le _, rfl, bx5, kc5', kr5, rr5, ok5, or5⟩
          case round =>
            obtain ⟨k, hk, rfl, bs, kcs, krs, rrs, oks, ors⟩ := hrel
            obtain ⟨ws, hws⟩ : ∃ ws, ws = wr := ⟨_, rfl⟩
            subst hws
            by_cases hkl : k < p.length
            · have hrow := HRow.out k k hkl
              obtain ⟨G', C', g, cg, hv, hC, hhead, hgb, hcg, ⟨cur, hcur⟩, hown, hput⟩ := OwnLL.at_ ors (j := k) (by decide) (by rw [mixLL_length]; exact hkl) (by rw [hrow]; omega)
              rw [mixLL_length] at hv
              simp only [Value.slice.injEq, Option.some.injEq, Addr.mk.injEq, and_true, true_and] at hv
              obtain ⟨rfl, _⟩ := hv
              obtain ⟨g', c9, hv', _, _, _, hcl, hfr, hst⟩ := hown.row (by rw [hrow]; omega)
              simp only [Value.slice.injEq, Option.some.injEq, Addr.mk.injEq, and_true] at hv'
              obtain ⟨rfl, _, rfl⟩ := hv'
              have helem := hcl n (by rw [hrow]; exact hlt)
              have hfz := hfr n
              have hyk := (kcs.cell k).trans (HYs.out k (by omega))
              rw [hrow] at hhead
              have hs := hst n (C4.sel ⟨ya, yb, yc, ye⟩ k)
              have hgn := only_setCell (only_refl ws (some g)) (p := ⟨g, n, none⟩) (.inl rfl) (.int .i64 (C4.sel ⟨ya, yb, yc, ye⟩ k))
              have hpn := hput _ (((mixLL (foreC kind d) p N n k).getD k []).set n (C4.sel ⟨ya, yb, yc, ye⟩ k)) hgn (by rw [List.length_set]) hs
              rw [HSet.out k hkl] at hpn
              have nz : ∀ {gx : Nat} {ty : TypeId} {cs : Array Value}, Blk ws gx ty cs → ty ≠ 3 → Blk (ws.setCell ⟨g, n, none⟩ (.int .i64 (C4.sel ⟨ya, yb, yc, ye⟩ k))) gx ty cs := fun hx hty => hx.far (fun e => by
                subst e
                have := hx.symm.trans hcur
                simp only [Option.some.injEq, Obj.cells.injEq] at this
                exact hty this.2.1) _
              have n1 := nz kcs (by decide)
              have n2 := nz krs (by decide)
              have n3 := nz rrs (by decide)
              have n4 := nz oks (by decide)
              have nb := bs.setCell (p := ⟨g, n, none⟩) (by simp; omega) (.int .i64 (C4.sel ⟨ya, yb, yc, ye⟩ k))
              obtain ⟨y0, y1, y2, y3, _⟩ := oks.four
              have hk4 : (k : Int) < 4 := by omega
              have hnN : (n : Int) < (N : Int) := by omega
              have HN := Lib.hid (show _ ∧ _ ∧ _ ∧ _ ∧ _ ∧ _ from ⟨nb, n1, n2, n3, n4, hpn⟩)
              clear nz hput hst hcl hfr hown hgn hpn hs n1 n2 n3 n4 nb hrow
              generalize ((mixLL (foreC kind d) p N n k).getD k []).getD n 0 = old at *
              generalize C4.sel ⟨ya, yb, yc, ye⟩ k = sk at *
              go_wp2
              go_roundw
              case rel => exact ⟨k + 1, by omega, by go_num, HN.out.1, HN.out.2.1, HN.out.2.2.1, HN.out.2.2.2.1, HN.out.2.2.2.2.1, HN.out.2.2.2.2.2⟩
              case measure => simp [intOf]; omega
            · have hkp : k = p.length := by omega
              subst hkp
              rw [HNext.out] at ors
              go_wp2
              go_roundw
              case rel => exact ⟨n + 1, by omega, by go_num, bs, krs, rrs, oks, ors⟩
              case measure => simp [intOf]; omega
    · have hnN : n = N := by omega
      subst hnN
      rw [mixLL_end] at orr
      obtain ⟨k0, k1, k2, k3, _⟩ := okr.four
      obtain ⟨q0, q1, q2, q3, f0, f1, f2, f3⟩ := rr.four
      clear HOk HP
      go_wp2
      refine bodyPost_ret (v := .tuple #[.agg #[.int .i64 (W : Int), .int .i64 (H : Int), .int .i64 (d : Int), .slice (some ⟨G, 0, none⟩) p.length c3], .int .i64 0]) (by simp [results, Try.results11, go_sem, q0, q1, q2, q3]) rfl ⟨_, _, rfl, ?_, ?_⟩
      · exact ((((orr.far (by simp; omega) _).far (by simp; omega) _).far (by simp; omega) _).far (by simp; omega) _).base_ (by omega)
      · exact (((hbr.setCell (by simp) _).setCell (by simp) _).setCell (by simp) _).setCell (by simp) _
end Go.Proofs.Yticjiodnolngcaa
