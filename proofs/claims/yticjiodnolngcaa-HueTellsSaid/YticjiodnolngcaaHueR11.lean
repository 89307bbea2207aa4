/- The reference's hue, back, of a picture. -/
import Derived.Test.YticjiodnolngcaaHueR10
set_option linter.unusedSimpArgs false
set_option linter.unusedVariables false
namespace Go.Proofs.Yticjiodnolngcaa
open Go.RowKit

set_option maxHeartbeats 8000000 in
set_option maxRecDepth 100000 in
theorem rhueback_yes {w : World} {B W H d : Nat} {p : List (List Int)} {A : Option Addr} {c : Nat} (hr : RdLL w B .i64 A p) (hB : B ≤ w.heap.size) (hI : isB ⟨(W : Int), (H : Int), (d : Int), p⟩ = true) (kind : Int) (hm : mayB p.length kind = true) :
    Calls Try.prog 48 #[.agg #[.int .i64 (W : Int), .int .i64 (H : Int), .int .i64 (d : Int), .slice A p.length c], .int .i64 kind, .bool false] w fun e w' => ∃ A' c', e = .returned (.tuple #[.agg #[.int .i64 (W : Int), .int .i64 (H : Int), .int .i64 (d : Int), .slice A' p.length c'], .int .i64 0]) ∧
      OwnLL w' w.heap.size 22 3 .i64 (.slice A' p.length c') (hueLL (backC kind d) p (W * H)) ∧ Below w.heap.size w w' := by
  have HI := Lib.hid (fun W' (hb : Below w.heap.size w W') => picis_any (q := ⟨(W : Int), (H : Int), (d : Int), p⟩) (c := c) (hr.to hB hb) (Nat.le_refl _) (small_63 (isB_small hI)))
  rw [hI] at HI
  have HM := Lib.hid (fun W' => huemay_any p.length kind W')
  rw [hm] at HM
  have HC := Lib.hid (fun W' (hb : Below w.heap.size w W') => rcopy_any (q := ⟨(W : Int), (H : Int), (d : Int), p⟩) (c := c) (hr.to hB hb) (Nat.le_refl _) (isB_small hI))
  obtain ⟨b1, b2, b3, b4, b5, b6, b7, b8, b9⟩ := isB_all hI
  have HOk := Lib.hid (fun i => colC_ok hI i)
  have hWHp : 0 < W * H := Nat.mul_pos (by omega) (by omega)
  have hWHm : W * H ≤ 4096 := Nat.mul_le_mul (show W ≤ 64 by omega) (show H ≤ 64 by omega)
  have hWHc : (W : Int) * (H : Int) = ((W * H : Nat) : Int) := by simp
  have hpl : ∀ l ∈ p, l.length = W * H := fun l hl => (b9 l hl).1
  have HCol := Lib.hid (fun n (hn : n < W * H) W' (hb : Below w.heap.size w W') => colour_any (q := ⟨(W : Int), (H : Int), (d : Int), p⟩) (c := c) (n := n) (hr.to hB hb) (Nat.le_refl _) (by exact b8) (fun l hl => by rw [hpl l hl]; exact hn) (by omega))
  simp only at HCol
  have hp16 : (2 : Int) ^ d ≤ 65536 := (pow_16 (k := d) (by omega) (by omega)).2.1
  have HFo := Lib.hid (fun n (W' : World) (A' : Option Addr) (c' : Nat) (h : RdI W' W'.heap.size .i64 A' (colL p n)) => by
    have h9 := rback_any (cc := c') (colL p n) kind (by rw [colL_length]; exact hm) h (Nat.le_refl _) (fun v hv => by
      simp only [colL, List.mem_map] at hv
      obtain ⟨l, hl, rfl⟩ := hv
      rcases Nat.lt_or_ge n l.length with hi | hi
      · have := (b9 l hl).2 (l.getD n 0) (by simp [List.getD, hi])
        simp only [okV, decide_eq_true_eq, Int.toNat_natCast] at this
        omega
      · simp only [List.getD, List.getElem?_eq_none hi, Option.getD_none]
        omega) d ⟨b5, b6⟩
    rw [colL_length] at h9
    exact h9)
  generalize W * H = N at *
  have hpl := Lib.hid hpl
  have HCC := Lib.hid hWHc
  have hw0 : IntKind.i64.wrap ((W : Int) * (H : Int)) = (N : Int) := by rw [hWHc]; exact IntWalk.i64_in _ (by omega)
  clear hI hm b9 hWHc hr
  go_enter Try.func48, Try.ntmps48
  go_wp2_with (first
    | (go_at_call 20; go_must (refine (HI.out _ (by repeat (first | exact Below.refl _ _ | assumption | refine Below.drew ?_ | refine below_drewN ?_ _ | refine below_alloc ?_ _))).mono ?_); rintro e w1 ⟨rfl, hb1⟩; have k1 := ((Blk.new w 27 #[.int .i64 (W : Int), .int .i64 (H : Int), .int .i64 (d : Int), .slice A p.length c]).alloc (.cells #[.int .i64 0, .int .i64 0, .int .i64 0, .slice none 0 0] 27)).below hb1 (by simp; omega); have r1 := (Blk.new1 w (.cells #[.int .i64 (W : Int), .int .i64 (H : Int), .int .i64 (d : Int), .slice A p.length c] 27) 27 #[.int .i64 0, .int .i64 0, .int .i64 0, .slice none 0 0]).below hb1 (by simp); obtain ⟨y0, y1, y2, y3, _⟩ := k1.four; have bb1 := below_then (below_alloc (below_alloc (Below.refl w.heap.size w) _) _) hb1)
    | (go_at_call 25; go_must (refine (HM.out _).mono ?_); rintro e w2 ⟨rfl, hb2⟩; have k2 := k1.below hb2 k1.lt; have r2 := r1.below hb2 r1.lt; clear y0 y1 y2 y3; obtain ⟨y0, y1, y2, y3, _⟩ := k2.four; have bb2 := below_then bb1 hb2)
    | (go_at_call 49; go_must (refine (HC.out _ bb2).mono ?_); rintro e w3 ⟨A3, c3, rfl, ho3, hb3⟩; have k3 := (k2.below hb3 k2.lt).alloc (.cells #[.int .i64 (W : Int), .int .i64 (H : Int), .int .i64 (d : Int), .slice A3 p.length c3] 27); clear y0 y1 y2 y3; obtain ⟨y0, y1, y2, y3, _⟩ := k3.four))
  have r3 := (r2.below hb3 r2.lt).alloc (.cells #[.int .i64 (W : Int), .int .i64 (H : Int), .int .i64 (d : Int), .slice A3 p.length c3] 27)
  have o3 := Blk.new w3 27 #[.int .i64 (W : Int), .int .i64 (H : Int), .int .i64 (d : Int), .slice A3 p.length c3]
  have oo := ho3.below (below_alloc (Below.refl w3.heap.size w3) (.cells #[.int .i64 (W : Int), .int .i64 (H : Int), .int .i64 (d : Int), .slice A3 p.length c3] 27))
  have bba := below_then (below_then bb2 hb3) (below_alloc (Below.refl w3.heap.size w3) (.cells #[.int .i64 (W : Int), .int .i64 (H : Int), .int .i64 (d : Int), .slice A3 p.length c3] 27))
  have hs1 : w.heap.size + 1 < w2.heap.size := r2.lt
  have hs3 := hb3.size
  generalize w3.alloc (.cells #[.int .i64 (W : Int), .int .i64 (H : Int), .int .i64 (d : Int), .slice A3 p.length c3] 27) = wa at *
  obtain ⟨G, hA3⟩ : ∃ G, A3 = some ⟨G, 0, none⟩ := by
    obtain ⟨G, C, g5, c5, hv, _⟩ := OwnLL.at_ oo (j := 0) (by decide) (by omega) (by rw [hpl.out _ (mem_getD (by omega))]; exact hWHp)
    simp only [Value.slice.injEq] at hv
    exact ⟨G, hv.1⟩
  subst hA3
  have oo := (show OwnLL wa w2.heap.size 22 3 .i64 (.slice (some ⟨G, 0, none⟩) p.length c3) (mixLL (backC kind d) p N 0 0) by rw [mixLL_zero hpl.out]; exact oo)
  clear y0 y1 y2 y3 ho3 hb3 hb1 bb1 hb2 bb2 k1 r1 k2 r2 HI HM HC hWHp
  go_loopw [9] (fun i wr => ∃ n : Nat, n ≤ N ∧ i = .int .i64 n ∧ Below w.heap.size w wr ∧ Blk wr w.heap.size 27 #[.int .i64 (W : Int), .int .i64 (H : Int), .int .i64 (d : Int), .slice A p.length c] ∧ Blk wr (w.heap.size + 1) 27 #[.int .i64 0, .int .i64 0, .int .i64 0, .slice none 0 0] ∧ Blk wr w3.heap.size 27 #[.int .i64 (W : Int), .int .i64 (H : Int), .int .i64 (d : Int), .slice (some ⟨G, 0, none⟩) p.length c3] ∧
      OwnLL wr w2.heap.size 22 3 .i64 (.slice (some ⟨G, 0, none⟩) p.length c3) (mixLL (backC kind d) p N n 0)) (fun i _ => N - (intOf i).toNat)
  case atStart => exact ⟨0, Nat.zero_le _, rfl, bba, k3, r3, o3, oo⟩
  case round =>
    obtain ⟨n, hn, rfl, hbr, kr, rr, okr, orr⟩ := hrel
    obtain ⟨wo, hwo⟩ : ∃ wo, wo = wr := ⟨_, rfl⟩
    subst hwo
    by_cases hlt : n < N
    · have HSet := Lib.hid (fun k (hk : k < p.length) => mixLL_set (f := backC kind d) (p := p) hk hlt)
      have HNext := Lib.hid (mixLL_next (backC kind d) p N n)
      have HRow := Lib.hid (fun k j (hj : j < p.length) => mixLL_row (f := backC kind d) (N := N) (n := n) (k := k) hj)
      have HFx := Lib.hid (HFo.out n)
      rw [ptF_colL] at HFx
      have hp1 : 1 ≤ p.length := b7
      generalize backC kind d (colC p n) = y at *
      have HL := Lib.hid (show ((List.range p.length).map fun k => y.sel k).length = p.length by simp)
      have HG := Lib.hid (show ∀ k, k < p.length → ((List.range p.length).map fun k => y.sel k).getD k 0 = y.sel k from fun k hk => by simp [List.getD, hk])
      generalize ((List.range p.length).map fun k => y.sel k) = RL at *
      have HCx := Lib.hid (HCol.out n hlt wo hbr)
      have HH : ∀ j, j < p.length → ∃ g cg, g < wo.heap.size ∧ wo.cell? ⟨G, j, none⟩ = some (.slice (some ⟨g, 0, none⟩) N cg) := fun j hj => by
        obtain ⟨G', C', g, cg, hv, hC, hhead, hgb, hcg, ⟨cur, hcur⟩, _⟩ := OwnLL.at_ orr (j := j) (by decide) (by rw [mixLL_length]; exact hj) (by rw [HRow.out 0 j hj]; omega)
        simp only [Value.slice.injEq, Option.some.injEq, Addr.mk.injEq, and_true, true_and] at hv
        obtain ⟨rfl, _⟩ := hv
        rw [HRow.out 0 j hj] at hhead
        exact ⟨g, cg, (Array.getElem?_eq_some_iff.1 hcur).1, hhead⟩
      obtain ⟨hGb, csG, kG⟩ := orr.head
      obtain ⟨y0, y1, y2, y3, _⟩ := kr.four
      have hsr := hbr.size
      go_wp2_with (first
        | (go_at_call 50; (with_reducible refine HCx.out.mono ?_); rintro e w4 ⟨A4, c4, rfl, hc4, ho4, hb4⟩; have kr4 := kr.below hb4 kr.lt; clear y0 y1 y2 y3; obtain ⟨y0, y1, y2, y3, _⟩ := kr4.four; have hr4 : RdI w4 w4.heap.size .i64 A4 (colL p n) := (by obtain ⟨A9, c9, e9, _, h9, _⟩ := ho4.form; simp only [Value.slice.injEq] at e9; obtain ⟨rfl, _⟩ := e9; exact h9))
        | (go_at_call 52; (with_reducible refine (HFx.out _ _ _ hr4).mono ?_); rintro e w5 ⟨A5, c5, rfl, ho5, hb5⟩; have hb45 := below_then hb4 hb5))
      have bx5 := below_then hbr hb45
      have kr5 := kr.below hb45 kr.lt
      have rr5 := rr.below hb45 rr.lt
      have ok5 := okr.below hb45 okr.lt
      have or5 := orr.below hb45
      have kG5 := kG.below hb45 kG.lt
      have HH5 : ∀ j, j < p.length → ∃ g cg, g < wo.heap.size ∧ w5.cell? ⟨G, j, none⟩ = some (.slice (some ⟨g, 0, none⟩) N cg) := fun j hj => by
        obtain ⟨g, cg, h1, h2⟩ := HH j hj
        exact ⟨g, cg, h1, (hb45.cell (p := ⟨G, j, none⟩) kG.lt).trans h2⟩
      have hs4 := hb4.size
      have hRL0 : 0 < RL.length := by rw [HL.out]; exact hp1
      obtain ⟨g5, c9, hv, _, _, _, _, _, _⟩ := ho5.row hRL0
      simp only [Value.slice.injEq] at hv
      obtain ⟨rfl, _, rfl⟩ := hv
      clear kr rr okr orr kG HH kr4 hr4 ho4 hb4 hb5 hb45 y0 y1 y2 y3 HFx HCx hRL0
      go_loopw [11] (fun i ws => ∃ k : Nat, k ≤ RL.length ∧ i = .int .i64 k ∧ Below w.heap.size w ws ∧ Blk ws w.heap.size 27 #[.int .i64 (W : Int), .int .i64 (H : Int), .int .i64 (d : Int), .slice A p.length c] ∧ Blk ws (w.heap.size + 1) 27 #[.int .i64 0, .int .i64 0, .int .i64 0, .slice none 0 0] ∧ Blk ws w3.heap.size 27 #[.int .i64 (W : Int), .int .i64 (H : Int), .int .i64 (d : Int), .slice (some ⟨G, 0, none⟩) p.length c3] ∧ OwnLL ws w2.heap.size 22 3 .i64 (.slice (some ⟨G, 0, none⟩) p.length c3) (mixLL (backC kind d) p N n k) ∧
        OwnI ws w4.heap.size 3 .i64 (.slice (some ⟨g5, 0, none⟩) RL.length c5) RL ∧ Blk ws G 22 csG ∧ (∀ j, j < p.length → ∃ g cg, g < wo.heap.size ∧ ws.cell? ⟨G, j, none⟩ = some (.slice (some ⟨g, 0, none⟩) N cg))) (fun i _ => RL.length - (intOf i).toNat)
      case atStart => exact ⟨0, Nat.zero_le _, rfl, bx5, kr5, rr5, ok5, or5, ho5, kG5, HH5⟩
      case round =>
        obtain ⟨k, hk, rfl, bs, krs, rrs, oks, ors, hos, kGs, HHs⟩ := hrel
        obtain ⟨ws, hws⟩ : ∃ ws, ws = wr := ⟨_, rfl⟩
        subst hws
        by_cases hkl : k < RL.length
        · have hkp : k < p.length := by rw [← HL.out]; exact hkl
          have hrow := HRow.out k k hkp
          obtain ⟨G', C', g, cg, hv, hC, hhead, hgb, hcg, ⟨cur, hcur⟩, hown, hput⟩ := OwnLL.at_ ors (j := k) (by decide) (by rw [mixLL_length]; exact hkp) (by rw [hrow]; omega)
          rw [mixLL_length] at hv
          simp only [Value.slice.injEq, Option.some.injEq, Addr.mk.injEq, and_true, true_and] at hv
          obtain ⟨rfl, hcc⟩ := hv
          clear hcc
          obtain ⟨g', c9, hv', _, _, _, hcl, hfr, hst⟩ := hown.row (by rw [hrow]; omega)
          simp only [Value.slice.injEq, Option.some.injEq, Addr.mk.injEq, and_true] at hv'
          obtain ⟨rfl, _, rfl⟩ := hv'
          have helem := hcl n (by rw [hrow]; exact hlt)
          have hfz := hfr n
          obtain ⟨gy, cy, hvy, _, _, _, hcly, _, _⟩ := hos.row (by omega)
          simp only [Value.slice.injEq, Option.some.injEq, Addr.mk.injEq, and_true] at hvy
          obtain ⟨rfl, _, rfl⟩ := hvy
          have hyk := hcly k hkl
          rw [HG.out k hkp] at hyk
          rw [hrow] at hhead
          obtain ⟨g0, cg0, hlt0, hh0⟩ := HHs k hkp
          rw [hhead] at hh0
          simp only [Option.some.injEq, Value.slice.injEq, Addr.mk.injEq, and_true, true_and] at hh0
          obtain ⟨rfl, hcc⟩ := hh0
          clear hcc
          have hs := hst n (y.sel k)
          have hgn := only_setCell (only_refl ws (some g)) (p := ⟨g, n, none⟩) (.inl rfl) (.int .i64 (y.sel k))
          have hpn := hput _ (((mixLL (backC kind d) p N n k).getD k []).set n (y.sel k)) hgn (by rw [List.length_set]) hs
          rw [HSet.out k hkp] at hpn
          have nz : ∀ {gx : Nat} {ty : TypeId} {cs : Array Value}, Blk ws gx ty cs → ty ≠ 3 → gx ≠ g := fun hx hty e => by
            subst e
            have := hx.symm.trans hcur
            simp only [Option.some.injEq, Obj.cells.injEq] at this
            exact hty this.2.1
          have nG := nz kGs (by decide)
          have n2 := krs.far (p := ⟨g, n, none⟩) (nz krs (by decide)) (.int .i64 (y.sel k))
          have n3 := rrs.far (p := ⟨g, n, none⟩) (nz rrs (by decide)) (.int .i64 (y.sel k))
          have n4 := oks.far (p := ⟨g, n, none⟩) (nz oks (by decide)) (.int .i64 (y.sel k))
          have n5 := kGs.far (p := ⟨g, n, none⟩) nG (.int .i64 (y.sel k))
          have nb := bs.setCell (p := ⟨g, n, none⟩) (by simp; omega) (.int .i64 (y.sel k))
          have no := hos.far (a := ⟨g, n, none⟩) (show g < w4.heap.size by omega) (.int .i64 (y.sel k))
          have nh : ∀ j, j < p.length → ∃ g9 cg, g9 < wo.heap.size ∧ (ws.setCell ⟨g, n, none⟩ (.int .i64 (y.sel k))).cell? ⟨G, j, none⟩ = some (.slice (some ⟨g9, 0, none⟩) N cg) := fun j hj => by
            obtain ⟨g9, cg9, h1, h2⟩ := HHs j hj
            exact ⟨g9, cg9, h1, (World.cell?_setCell_far ws ⟨g, n, none⟩ ⟨G, j, none⟩ _ (fun e => nG e.symm)).trans h2⟩
          obtain ⟨y0, y1, y2, y3, _⟩ := oks.four
          have hpi : (k : Int) < (p.length : Int) := by omega
          have hnN : (n : Int) < (N : Int) := by omega
          have HN := Lib.hid (show _ ∧ _ ∧ _ ∧ _ ∧ _ ∧ _ ∧ _ ∧ _ from ⟨nb, n2, n3, n4, hpn, no, n5, nh⟩)
          clear nz hput hst hcl hfr hown hgn hpn hs n2 n3 n4 n5 nb no nh hrow HHs hcly HH5 or5 ho5 kr5 rr5 ok5 kG5
          generalize ((mixLL (backC kind d) p N n k).getD k []).getD n 0 = old at *
          generalize y.sel k = sk at *
          go_wp2
          refine wp_region_last (S := (fun w' => w'.cell? ⟨w3.heap.size, 3, none⟩ = some (.slice (some ⟨G, 0, none⟩) p.length c3) ∧ w'.cell? ⟨G, k, none⟩ = some (.slice (some ⟨g, 0, none⟩) N cg) ∧ w'.cell? ⟨g5, k, none⟩ = some (.int .i64 sk))) 11 _ (by simp only [List.pop_toArray, List.dropLast_cons_cons, List.dropLast_singleton]; rfl) (by kernel_rfl) (by kernel_rfl) (by kernel_rfl) (by kernel_rfl) (by kernel_rfl) ?_ (fun hHeld => ?_)
          focus exact ⟨y3, hhead, hyk⟩
          refine wpAnyH_take (i := 0) (v := ?_) rfl (by kernel_rfl) (by kernel_rfl) (by kernel_rfl) (fun _ _ _ h => h) (Or.inl ⟨by kernel_rfl, ?_⟩) (by assumption) ?_
          rotate_left
          focus
            intro w9 hSw
            (try dsimp only at hSw)
            go_simp
            (try with_reducible rfl)
          (try simp only [Act.put, List.getElem_toArray, List.getElem_cons_succ, List.getElem_cons_zero, List.setIfInBounds_toArray, List.set_cons_zero, List.set_cons_succ])
          refine wpAnyH_take (i := 1) (v := ?_) rfl (by kernel_rfl) (by kernel_rfl) (by kernel_rfl) (fun _ _ _ h => h) (Or.inl ⟨by kernel_rfl, ?_⟩) (by assumption) ?_
          rotate_left
          focus
            intro w9 hSw
            (try dsimp only at hSw)
            go_simp
            (try with_reducible rfl)
          (try simp only [Act.put, List.getElem_toArray, List.getElem_cons_succ, List.getElem_cons_zero, List.setIfInBounds_toArray, List.set_cons_zero, List.set_cons_succ])
          refine wpAnyH_take (i := 2) (v := ?_) rfl (by kernel_rfl) (by kernel_rfl) (by kernel_rfl) (fun _ _ _ h => h) (Or.inl ⟨by kernel_rfl, ?_⟩) (by assumption) ?_
          rotate_left
          focus
            intro w9 hSw
            (try dsimp only at hSw)
            go_simp
            (try with_reducible rfl)
          (try simp only [Act.put, List.getElem_toArray, List.getElem_cons_succ, List.getElem_cons_zero, List.setIfInBounds_toArray, List.set_cons_zero, List.set_cons_succ])
          refine wpAnyH_take (i := 3) (v := ?_) rfl (by kernel_rfl) (by kernel_rfl) (by kernel_rfl) (fun _ _ _ h => h) (Or.inl ⟨by kernel_rfl, ?_⟩) (by assumption) ?_
          rotate_left
          focus
            intro w9 hSw
            (try dsimp only at hSw)
            go_simp
            (try with_reducible rfl)
          (try simp only [Act.put, List.getElem_toArray, List.getElem_cons_succ, List.getElem_cons_zero, List.setIfInBounds_toArray, List.set_cons_zero, List.set_cons_succ])
          refine wpAnyH_take (i := 4) (v := ?_) rfl (by kernel_rfl) (by kernel_rfl) (by kernel_rfl) (fun _ _ _ h => h) (Or.inl ⟨by kernel_rfl, ?_⟩) (by assumption) ?_
          rotate_left
          focus
            intro w9 hSw
            (try dsimp only at hSw)
            go_simp
            (try with_reducible rfl)
          (try simp only [Act.put, List.getElem_toArray, List.getElem_cons_succ, List.getElem_cons_zero, List.setIfInBounds_toArray, List.set_cons_zero, List.set_cons_succ])
          refine wpAnyH_take (i := 5) (v := ?_) rfl (by kernel_rfl) (by kernel_rfl) (by kernel_rfl) (fun _ _ _ h => h) (Or.inl ⟨by kernel_rfl, ?_⟩) (by assumption) ?_
          rotate_left
          focus
            intro w9 hSw
            (try dsimp only at hSw)
            go_simp
            (try with_reducible rfl)
          (try simp only [Act.put, List.getElem_toArray, List.getElem_cons_succ, List.getElem_cons_zero, List.setIfInBounds_toArray, List.set_cons_zero, List.set_cons_succ])
          refine wpAnyH_take (i := 6) (v := ?_) rfl (by kernel_rfl) (by kernel_rfl) (by kernel_rfl) (fun _ _ _ h => h) (Or.inl ⟨by kernel_rfl, ?_⟩) (by assumption) ?_
          rotate_left
          focus
            intro w9 hSw
            (try dsimp only at hSw)
            go_simp
            (try with_reducible rfl)
          (try simp only [Act.put, List.getElem_toArray, List.getElem_cons_succ, List.getElem_cons_zero, List.setIfInBounds_toArray, List.set_cons_zero, List.set_cons_succ])
          refine wpAnyH_take (i := 7) (v := ?_) rfl (by kernel_rfl) (by kernel_rfl) (by kernel_rfl) (fun _ _ _ h => h) (Or.inl ⟨by kernel_rfl, ?_⟩) (by assumption) ?_
          rotate_left
          focus
            intro w9 hSw
            (try dsimp only at hSw)
            go_simp
            (try with_reducible rfl)
          (try simp only [Act.put, List.getElem_toArray, List.getElem_cons_succ, List.getElem_cons_zero, List.setIfInBounds_toArray, List.set_cons_zero, List.set_cons_succ])
          refine wpAnyH_take (i := 8) (v := ?_) rfl (by kernel_rfl) (by kernel_rfl) (by kernel_rfl) (fun _ _ _ h => h) (Or.inl ⟨by kernel_rfl, ?_⟩) (by assumption) ?_
          rotate_left
          focus
            intro w9 hSw
            (try dsimp only at hSw)
            go_simp
            (try with_reducible rfl)
          (try simp only [Act.put, List.getElem_toArray, List.getElem_cons_succ, List.getElem_cons_zero, List.setIfInBounds_toArray, List.set_cons_zero, List.set_cons_succ])
          refine wpAnyH_take (i := 9) (v := ?_) rfl (by kernel_rfl) (by kernel_rfl) (by kernel_rfl) (fun _ _ _ h => h) (Or.inl ⟨by kernel_rfl, ?_⟩) (by assumption) ?_
          rotate_left
          focus
            intro w9 hSw
            (try dsimp only at hSw)
            go_simp
            (try with_reducible rfl)
          (try simp only [Act.put, List.getElem_toArray, List.getElem_cons_succ, List.getElem_cons_zero, List.setIfInBounds_toArray, List.set_cons_zero, List.set_cons_succ])
          refine wpAnyH_take (i := 10) (v := ?_) rfl (by kernel_rfl) (by kernel_rfl) (by kernel_rfl) (fun _ _ _ h => h) (Or.inl ⟨by kernel_rfl, ?_⟩) (by assumption) ?_
          rotate_left
          focus
            intro w9 hSw
            (try dsimp only at hSw)
            go_simp
            (try with_reducible rfl)
          (try simp only [Act.put, List.getElem_toArray, List.getElem_cons_succ, List.getElem_cons_zero, List.setIfInBounds_toArray, List.set_cons_zero, List.set_cons_succ])
          refine wpAnyH_done (by kernel_rfl) (lastQ_step rfl (fun K hK => ?_)) _
          go_simp
          refine hK _ _ ?_
          clear hK K
          go_wp2
          go_roundw
          case rel => exact ⟨k + 1, by omega, by go_num, HN.out.1.drew, HN.out.2.1, HN.out.2.2.1, HN.out.2.2.2.1, HN.out.2.2.2.2.1, HN.out.2.2.2.2.2.1, HN.out.2.2.2.2.2.2.1, HN.out.2.2.2.2.2.2.2⟩
          case measure => simp [intOf]; omega
        · have hkp : k = p.length := by have := HL.out; omega
          rw [hkp, HNext.out] at ors
          have hge : ¬ (k : Int) < (RL.length : Int) := by omega
          clear hkp
          go_wp2
          go_roundw
          case rel => exact ⟨n + 1, by omega, by go_num, bs, krs, rrs, oks, ors⟩
          case measure => simp [intOf]; omega
    · have hnN : n = N := by omega
      subst hnN
      rw [mixLL_end] at orr
      obtain ⟨y0, y1, y2, y3, _⟩ := kr.four
      obtain ⟨z0, z1, z2, z3, _⟩ := okr.four
      obtain ⟨q0, q1, q2, q3, f0, f1, f2, f3⟩ := rr.four
      have hnl : ¬ ((n : Nat) : Int) < (n : Int) := by omega
      go_wp2
      refine bodyPost_ret (v := .tuple #[.agg #[.int .i64 (W : Int), .int .i64 (H : Int), .int .i64 (d : Int), .slice (some ⟨G, 0, none⟩) p.length c3], .int .i64 0]) (by simp [results, Try.results48, go_sem, q0, q1, q2, q3]) rfl ⟨_, _, rfl, ?_, ?_⟩
      · exact ((((orr.far (by simp; omega) _).far (by simp; omega) _).far (by simp; omega) _).far (by simp; omega) _).base_ (by omega)
      · exact (((hbr.setCell (by simp) _).setCell (by simp) _).setCell (by simp) _).setCell (by simp) _
end Go.Proofs.Yticjiodnolngcaa
