/- PicParts: the walk. -/
import Derived.Test.YtbmgnclfecejeaaPicBackL
import Derived.Test.YtbmgnclfecejeaaPicLays
namespace Go.Proofs.Ytbmgnclfecejeaa.picParts
open Go.RowKit

theorem head {w : World} {base G n C : Nat} {eS e : TypeId} {k : IntKind} {ls : List (List Int)} (h : OwnLL w base eS e k (.slice (some ⟨G, 0, none⟩) n C) ls) : base ≤ G ∧ ∃ cs, Blk w G eS cs := by
  obtain ⟨hs, ho, _⟩ := h
  rcases ho.2 with ⟨hh, _⟩ | ⟨G', _, cs, hv, hb, hcs, _⟩
  · simp at hh
  · simp only [Value.slice.injEq, Option.some.injEq, Addr.mk.injEq, and_true, true_and] at hv
    obtain ⟨rfl, _⟩ := hv
    exact ⟨hb, cs, hcs⟩

theorem rdTo {w W' : World} {base : Nat} {A : Option Addr} {n c : Nat} {ls : List (List Int)} (h : OwnLL w base 25 3 .i64 (.slice A n c) ls) (hb : Below w.heap.size w W') : RdLL W' W'.heap.size .i64 A ls :=
  rd_more (RdLL.below (ownrd' h) hb (Nat.le_refl _)) hb.size
theorem and_le (c : Int) (m : Nat) (hm : m ≤ 2147483647) : bits .and .i64 c (m : Int) ≤ 9223372036854775807 := by
  have h1 : (BitVec.ofInt 64 c &&& BitVec.ofInt 64 (m : Int)).toNat ≤ m := by
    rw [BitVec.toNat_and]
    refine Nat.le_trans Nat.and_le_right ?_
    rw [BitVec.toNat_ofInt]
    omega
  have h2 : bits .and .i64 c (m : Int) = IntKind.i64.wrap ((BitVec.ofInt 64 c &&& BitVec.ofInt 64 (m : Int)).toNat : Int) := rfl
  rw [h2, IntKind.wrap_i64]
  omega

set_option maxHeartbeats 8000000 in
set_option maxRecDepth 100000 in
theorem walk (w : World) (A0 : Option Addr) (c0 : Nat) (t : List Int) (ht : ∀ x ∈ t, -9223372036854775808 ≤ x ∧ x ≤ 9223372036854775807) (hc : t.length ≤ c0) (h63 : c0 ≤ 9223372036854775807) (hrt : RdI w w.heap.size .i64 A0 t)
    (q : Pc) (Aq : Option Addr) (cq : Nat) (hq63 : Len63 q.p) (hrq : RdLL w w.heap.size .i64 Aq q.p)
    (x : Int) (x0 : -9223372036854775808 ≤ x) (x1 : x ≤ 9223372036854775807) (y : Int) (y0 : -9223372036854775808 ≤ y) (y1 : y ≤ 9223372036854775807) (ww : Int) (ww0 : -9223372036854775808 ≤ ww) (ww1 : ww ≤ 9223372036854775807) (hh : Int) (hh0 : -9223372036854775808 ≤ hh) (hh1 : hh ≤ 9223372036854775807) :
    Calls Try.prog 5 #[.slice A0 t.length c0, .agg #[.int .i64 q.w, .int .i64 q.h, .int .i64 q.d, .slice Aq q.p.length cq], .int .i64 x, .int .i64 y, .int .i64 ww, .int .i64 hh] w fun e w' => e = .returned (.bool true) ∧ Below w.heap.size w w' := by
  have HK := Lib.hid (fun W => known_any W)
  have HH := Lib.hid (fun W (hb : Below w.heap.size w W) => heavy_any (c := cq) (hrq.below hb (Nat.le_refl _)) hb.size hq63)
  have HT := Lib.hid (fun W (hb : Below w.heap.size w W) => newtape_any A0 t c0 ht hc (by omega) W (hrt.below hb (Nat.le_refl _)) hb.size)
  have HP20 := Lib.hid (fun W g (hW : TapeB W w.heap.size g) => tapepic_any hW 20 (by omega) (by omega))
  have HP8 := Lib.hid (fun W g (hW : TapeB W w.heap.size g) => tapepic_any hW 8 (by omega) (by omega))
  obtain ⟨qw, qh, qd, qp⟩ := q
  simp only at *
  go_enter Try.func5, Try.ntmps5
  go_wp2_with (first
    | (go_at_call 19; go_must (refine (HH.out _ (by repeat (first | exact Below.refl _ _ | assumption | refine Below.drew ?_ | refine below_drewN ?_ _ | refine below_alloc ?_ _))).mono ?_); rintro e w1 ⟨he, hb1⟩; have kq := (Blk.new w 28 #[.int .i64 qw, .int .i64 qh, .int .i64 qd, .slice Aq qp.length cq]).below hb1 (by simp); have bb1 := below_then (below_alloc (Below.refl w.heap.size w) _) hb1; rcases he with rfl | rfl)
    | (go_at_call 14; go_must (refine (HT.out _ bb1).mono ?_); rintro e w2 ⟨rfl, hT2, hb2⟩)
    | (go_at_call 15; (with_reducible refine (HP20.out _ _ hT2).mono ?_); rintro e w3 ⟨W, H, d, p, A, c, rfl, hB, _, _, ho3, hT3, hg3⟩)
    | (go_at_call 15; (with_reducible refine (HP8.out _ _ hT3).mono ?_); rintro e w4 ⟨W4, H4, d4, p4, A4, c4, rfl, hB4, _, _, ho4, hT4, hg4⟩))
  · go_ret
    exact ⟨rfl, bb1⟩
  have hT2l := hT2.lt
  have hT2g := hT2.ge
  have hsz3 := hg3.size
  have hsz4 := hg4.size
  obtain ⟨b1, b2, b3, b4, b5, b6, b7, b8, b9⟩ := isB_all hB
  obtain ⟨d1, d2, d3, d4', d5, d6, d7, d8, d9⟩ := isB_all hB4
  have hcdp : 0 < W4 * H4 := Nat.mul_pos (by omega) (by omega)
  have hl4 : ∀ l ∈ p4, l.length = W4 * H4 := fun l hl => (d9 l hl).1
  have ka := (Blk.new w4 28 #[.int .i64 (W : Int), .int .i64 (H : Int), .int .i64 (d : Int), .slice A p.length c]).alloc (.cells #[.int .i64 (W4 : Int), .int .i64 (H4 : Int), .int .i64 (d : Int), .slice A4 p4.length c4] 28)
  have kb := Blk.new1 w4 (.cells #[.int .i64 (W : Int), .int .i64 (H : Int), .int .i64 (d : Int), .slice A p.length c] 28) 28 #[.int .i64 (W4 : Int), .int .i64 (H4 : Int), .int .i64 (d : Int), .slice A4 p4.length c4]
  have ga := only_alloc (only_alloc hg4 (.cells #[.int .i64 (W : Int), .int .i64 (H : Int), .int .i64 (d : Int), .slice A p.length c] 28)) (.cells #[.int .i64 (W4 : Int), .int .i64 (H4 : Int), .int .i64 (d : Int), .slice A4 p4.length c4] 28)
  have Ta := (hT4.alloc (.cells #[.int .i64 (W : Int), .int .i64 (H : Int), .int .i64 (d : Int), .slice A p.length c] 28)).alloc (.cells #[.int .i64 (W4 : Int), .int .i64 (H4 : Int), .int .i64 (d : Int), .slice A4 p4.length c4] 28)
  have oa := ho4.below (below_alloc (below_alloc (Below.refl w4.heap.size w4) (.cells #[.int .i64 (W : Int), .int .i64 (H : Int), .int .i64 (d : Int), .slice A p.length c] 28)) (.cells #[.int .i64 (W4 : Int), .int .i64 (H4 : Int), .int .i64 (d : Int), .slice A4 p4.length c4] 28))
  generalize (w4.alloc (.cells #[.int .i64 (W : Int), .int .i64 (H : Int), .int .i64 (d : Int), .slice A p.length c] 28)).alloc (.cells #[.int .i64 (W4 : Int), .int .i64 (H4 : Int), .int .i64 (d : Int), .slice A4 p4.length c4] 28) = wa at *
  obtain ⟨G, hA4⟩ : ∃ G, A4 = some ⟨G, 0, none⟩ := by
    obtain ⟨G, C, g5, c5, hv, _⟩ := OwnLL.at_ oa (j := 0) (by decide) (by omega) (by rw [hl4 _ (mem_getD (by omega))]; exact hcdp)
    simp only [Value.slice.injEq] at hv
    exact ⟨G, hv.1⟩
  subst hA4
  have bb3 : Below w.heap.size w w3 := below_only (below_then bb1 hb2) hg3 (below_then bb1 hb2).size hT2g
  have kq3 := (kq.below hb2 kq.lt).grown hg3 (by simp; have := kq.lt; omega)
  replace hl4 := Lib.hid hl4
  clear hT2 hT3 hT4 hg3 hg4 ho4 hb1 d9 b9
  go_loopw [16] (fun i wr => ∃ (j : Nat) (ls : List (List Int)), j ≤ p4.length ∧ i = .int .i64 j ∧ ls.length = p4.length ∧ (∀ l ∈ ls, l.length = W4 * H4) ∧ (∀ i, i < j → ∀ v ∈ ls.getD i [], okV d v = true) ∧ w3.grownBy wr (some w1.heap.size) ∧ TapeB wr w.heap.size w1.heap.size ∧
      Blk wr w4.heap.size 28 #[.int .i64 (W : Int), .int .i64 (H : Int), .int .i64 (d : Int), .slice A p.length c] ∧ Blk wr (w4.heap.size + 1) 28 #[.int .i64 (W4 : Int), .int .i64 (H4 : Int), .int .i64 (d : Int), .slice (some ⟨G, 0, none⟩) p4.length c4] ∧ OwnLL wr w3.heap.size 25 3 .i64 (.slice (some ⟨G, 0, none⟩) p4.length c4) ls) (fun i _ => p4.length - (intOf i).toNat)
  case atStart => exact ⟨0, _, Nat.zero_le _, rfl, rfl, hl4.out, fun i hi => absurd hi (by omega), ga, Ta, ka, kb, oa⟩
  case round =>
    obtain ⟨j, ls, hj, rfl, hll, hvl, hok, hgr, hTr, hAr, hBr, hor⟩ := hrel
    obtain ⟨x0, x1, x2, x3, _⟩ := hBr.four
    by_cases hlt : j < p4.length
    · have hvl := Lib.hid hvl
      have hok := Lib.hid hok
      have hszr := hgr.size
      obtain ⟨hGb, cs, hGB⟩ := head hor
      obtain ⟨G', C', gj, cj, hv, hC, hcell, _⟩ := OwnLL.at_ hor (j := j) (by decide) (by omega) (by rw [hvl.out _ (mem_getD (by omega))]; exact hcdp)
      simp only [Value.slice.injEq, Option.some.injEq, Addr.mk.injEq, and_true] at hv
      obtain ⟨rfl, hclr, rfl⟩ := hv
      clear hclr hC
      generalize (ls.getD j []).length = lj at *
      have hfr := hGB.frozen j
      go_wp2
      refine wp_region_last (S := (fun w' => w'.cell? ⟨w4.heap.size + 1, 0, none⟩ = some (.int .i64 W4) ∧ w'.cell? ⟨w4.heap.size + 1, 1, none⟩ = some (.int .i64 H4) ∧ w'.cell? ⟨w4.heap.size + 1, 2, none⟩ = some (.int .i64 d) ∧ w'.cell? ⟨w4.heap.size + 1, 3, none⟩ = some (.slice (some ⟨G, 0, none⟩) p4.length c4))) 12 _ (by simp only [List.pop_toArray, List.dropLast_cons_cons, List.dropLast_singleton]; rfl) (by kernel_rfl) (by kernel_rfl) (by kernel_rfl) (by kernel_rfl) (by kernel_rfl) ?_ (fun hHeld => ?_)
      focus exact ⟨x0, x1, x2, x3⟩
      refine wpAnyH_take (i := 0) (v := ?_) rfl (by kernel_rfl) (by kernel_rfl) (by kernel_rfl) (fun _ _ _ h => h) (Or.inl ⟨by rfl, ?_⟩) (by assumption) ?_
      rotate_left
      focus
        intro w9 hSw
        (try dsimp only at hSw)
        go_simp
        (try with_reducible rfl)
      (try simp only [Act.put, List.setIfInBounds_toArray, List.set_cons_zero, List.set_cons_succ])
      refine wpAnyH_take (i := 1) (v := ?_) rfl (by kernel_rfl) (by kernel_rfl) (by kernel_rfl) (fun _ _ _ h => h) (Or.inl ⟨by rfl, ?_⟩) (by assumption) ?_
      rotate_left
      focus
        intro w9 hSw
        (try dsimp only at hSw)
        go_simp
        (try with_reducible rfl)
      (try simp only [Act.put, List.setIfInBounds_toArray, List.set_cons_zero, List.set_cons_succ])
      refine wpAnyH_take (i := 2) (v := ?_) rfl (by kernel_rfl) (by kernel_rfl) (by kernel_rfl) (fun _ _ _ h => h) (Or.inl ⟨by rfl, ?_⟩) (by assumption) ?_
      rotate_left
      focus
        intro w9 hSw
        (try dsimp only at hSw)
        go_simp
        (try with_reducible rfl)
      (try simp only [Act.put, List.setIfInBounds_toArray, List.set_cons_zero, List.set_cons_succ])
      refine wpAnyH_take (i := 3) (v := ?_) rfl (by kernel_rfl) (by kernel_rfl) (by kernel_rfl) (fun _ _ _ h => h) (Or.inl ⟨by rfl, ?_⟩) (by assumption) ?_
      rotate_left
      focus
        intro w9 hSw
        (try dsimp only at hSw)
        go_simp
        (try with_reducible rfl)
      (try simp only [Act.put, List.setIfInBounds_toArray, List.set_cons_zero, List.set_cons_succ])
      refine wpAnyH_take (i := 4) (v := ?_) rfl (by kernel_rfl) (by kernel_rfl) (by kernel_rfl) (fun _ _ _ h => h) (Or.inl ⟨by rfl, ?_⟩) (by assumption) ?_
      rotate_left
      focus
        intro w9 hSw
        (try dsimp only at hSw)
        go_simp
        (try with_reducible rfl)
      (try simp only [Act.put, List.setIfInBounds_toArray, List.set_cons_zero, List.set_cons_succ])
      refine wpAnyH_take (i := 5) (v := ?_) rfl (by kernel_rfl) (by kernel_rfl) (by kernel_rfl) (fun _ _ _ h => h) (Or.inl ⟨by rfl, ?_⟩) (by assumption) ?_
      rotate_left
      focus
        intro w9 hSw
        (try dsimp only at hSw)
        go_simp
        (try with_reducible rfl)
      (try simp only [Act.put, List.setIfInBounds_toArray, List.set_cons_zero, List.set_cons_succ])
      refine wpAnyH_take (i := 6) (v := ?_) rfl (by kernel_rfl) (by kernel_rfl) (by kernel_rfl) (fun _ _ _ h => h) (Or.inl ⟨by rfl, ?_⟩) (by assumption) ?_
      rotate_left
      focus
        intro w9 hSw
        (try dsimp only at hSw)
        go_simp
        (try with_reducible rfl)
      (try simp only [Act.put, List.setIfInBounds_toArray, List.set_cons_zero, List.set_cons_succ])
      refine wpAnyH_take (i := 7) (v := ?_) rfl (by kernel_rfl) (by kernel_rfl) (by kernel_rfl) (fun _ _ _ h => h) (Or.inl ⟨by rfl, ?_⟩) (by assumption) ?_
      rotate_left
      focus
        intro w9 hSw
        (try dsimp only at hSw)
        go_simp
        (try with_reducible rfl)
      (try simp only [Act.put, List.setIfInBounds_toArray, List.set_cons_zero, List.set_cons_succ])
      refine wpAnyH_take (i := 8) (v := ?_) rfl (by kernel_rfl) (by kernel_rfl) (by kernel_rfl) (fun _ _ _ h => h) (Or.inl ⟨by rfl, ?_⟩) (by assumption) ?_
      rotate_left
      focus
        intro w9 hSw
        (try dsimp only at hSw)
        go_simp
        (try with_reducible rfl)
      (try simp only [Act.put, List.setIfInBounds_toArray, List.set_cons_zero, List.set_cons_succ])
      refine wpAnyH_take (i := 9) (v := ?_) rfl (by kernel_rfl) (by kernel_rfl) (by kernel_rfl) (fun _ _ _ h => h) (Or.inl ⟨by rfl, ?_⟩) (by assumption) ?_
      rotate_left
      focus
        intro w9 hSw
        (try dsimp only at hSw)
        go_simp
        (try with_reducible rfl)
      (try simp only [Act.put, List.setIfInBounds_toArray, List.set_cons_zero, List.set_cons_succ])
      refine wpAnyH_ready (rs := [10]) (by kernel_rfl) (by simp) (AllReadyH.cons rfl (fun K hK => ?_) AllReadyH.nil)
      go_simp
      go_at_call 20
      refine (plane_any (by exact hTr) W4 H4 d (by omega) (by omega) (by omega) (by omega) (by omega) (by omega)).mono ?_
      rintro e w6 ⟨A6, c6, l6, rfl, hl6, hok6, hown6, hT6, hg6'⟩
      have hg6 := only_undrew hg6'
      clear hg6'
      replace hl6 := Lib.hid hl6
      replace hok6 := Lib.hid hok6
      have hB6 := hBr.grown hg6 (by simp; omega)
      have hA6 := hAr.grown hg6 (by simp; omega)
      obtain ⟨z0, z1, z2, z3, _⟩ := hB6.four
      have hG6 := hGB.grown hg6 (by simp; omega)
      have hcell6 : w6.cell? ⟨G, j, none⟩ = some (.slice (some ⟨gj, 0, none⟩) lj cj) := by
        rw [hG6.cell j, ← hGB.cell j]
        exact hcell
      have hfr6 := hG6.frozen j
      refine hK.out _ _ ?_ (fun hHeld => ?_)
      focus
       (try dsimp only)
       first | (simp [*, World.cell?_alloc_some, World.cell?_setCell_far, add_block]; done) | go_keep
      clear hK K
      refine wpAnyH_take (i := 11) (v := ?_) rfl (by kernel_rfl) (by kernel_rfl) (by kernel_rfl) (fun _ _ _ h => h) (Or.inl ⟨by rfl, ?_⟩) (by assumption) ?_
      rotate_left
      focus
        intro w9 hSw
        (try dsimp only at hSw)
        go_simp
        (try with_reducible rfl)
      (try simp only [Act.put, List.setIfInBounds_toArray, List.set_cons_zero, List.set_cons_succ])
      refine wpAnyH_done (by kernel_rfl) (lastQ_step rfl (fun K hK => ?_)) _
      go_simp
      refine hK _ _ ?_
      clear hK K
      have hlo6 : ∀ ad, A6 = some ad → wr.heap.size ≤ ad.block := hown6.lo
      have hput := OwnLL.put hor (by decide) hg6 (.inl (by omega)) (i := j) (by omega) (hown6.base_ (by exact hszr)) hlo6
      have hgw := only_setCell (only_trans hgr hg6) (p := ⟨G, j, none⟩) (.inr hGb) (.slice A6 l6.length c6)
      have hT7 := hT6.far (a := ⟨G, j, none⟩) (show w.heap.size ≤ G by omega) (show w1.heap.size ≠ G by omega) (.slice A6 l6.length c6)
      have hfar : ∀ {gx : Nat} {cs' : Array Value}, Blk w6 gx 28 cs' → Blk (w6.setCell ⟨G, j, none⟩ (.slice A6 l6.length c6)) gx 28 cs' := fun hx => hx.far (fun e => by
        subst e
        have := hG6.symm.trans hx
        simp at this) _
      go_wp2
      go_roundw
      case rel =>
        refine ⟨j + 1, _, by omega, by go_num, by rw [List.length_set]; exact hll, fun l hl => ?_, fun i hi v hv => ?_, hgw, hT7, hfar hA6, hfar hB6, hput⟩
        · rcases List.mem_or_eq_of_mem_set hl with hl | rfl
          · exact hvl.out l hl
          · exact hl6.out
        · rw [getD_set (by omega)] at hv
          by_cases hij : i = j
          · rw [if_pos hij] at hv
            exact hok6.out v hv
          · rw [if_neg hij] at hv
            exact hok.out i (by omega) v hv
      case measure => simp [intOf]; omega
    · have hjl : j = p4.length := by omega
      have hjn : ¬ (j : Int) < (p4.length : Int) := by omega
      have hszr := hgr.size
      have hpr := OwnLL.kept ho3 hgr (.inl (by omega))
      have hqr := kq3.grown hgr (by simp; have := kq.lt; omega)
      have hbw : Below w.heap.size w wr := below_only bb3 hgr bb3.size (by omega)
      have hBb : isB ⟨(W4 : Int), (H4 : Int), (d : Int), ls⟩ = true := isB_mk (by omega) (by omega) (by omega) (by omega) (by omega) (by omega) (by omega) (by omega) (fun l hl => ⟨hvl l hl, by
        obtain ⟨i, hi, rfl⟩ := List.getElem_of_mem hl
        intro v hv
        refine hok i (by omega) v ?_
        simpa [List.getD, hi] using hv⟩)
      have HCA := Lib.hid (fun W' (hb : Below wr.heap.size wr W') x y a b hx hy ha hb' => cuts_any (q := ⟨(W : Int), (H : Int), (d : Int), p⟩) (c := c) (rdTo hpr hb) (Nat.le_refl _) (len63 hB) x y a b hx hy ha hb')
      have HCQ := Lib.hid (fun W' (hb : Below wr.heap.size wr W') x y a b hx hy ha hb' => cuts_any (q := ⟨qw, qh, qd, qp⟩) (c := cq) (RdLL.below hrq (hbw.trans (hb.mono hbw.size)) (Nat.le_refl _)) (Nat.le_trans hbw.size hb.size) hq63 x y a b hx hy ha hb')
      have HAB := Lib.hid (fun W' (hb : Below wr.heap.size wr W') x y hx hy => lays_any (p := ⟨(W : Int), (H : Int), (d : Int), p⟩) (q := ⟨(W4 : Int), (H4 : Int), (d : Int), ls⟩) (c := c) (c2 := c4) (rdTo hpr hb) (rdTo hor hb) (Nat.le_refl _) (len63 hB) (len63 hBb) x y hx hy)
      have HAQ := Lib.hid (fun W' (hb : Below wr.heap.size wr W') x y hx hy => lays_any (p := ⟨(W : Int), (H : Int), (d : Int), p⟩) (q := ⟨qw, qh, qd, qp⟩) (c := c) (c2 := cq) (rdTo hpr hb) (rd_more (RdLL.below hrq (hbw.trans (hb.mono hbw.size)) (Nat.le_refl _)) (Nat.le_trans hbw.size hb.size)) (Nat.le_refl _) (len63 hB) hq63 x y hx hy)
      have HQA := Lib.hid (fun W' (hb : Below wr.heap.size wr W') x y hx hy => lays_any (p := ⟨qw, qh, qd, qp⟩) (q := ⟨(W : Int), (H : Int), (d : Int), p⟩) (c := cq) (c2 := c) (rd_more (RdLL.below hrq (hbw.trans (hb.mono hbw.size)) (Nat.le_refl _)) (Nat.le_trans hbw.size hb.size)) (rdTo hpr hb) (Nat.le_refl _) hq63 (len63 hB) x y hx hy)
      simp only [hll] at HAB
      clear x0 x1 x2 x3
      obtain ⟨x0, x1', x2, x3, _⟩ := hAr.four
      obtain ⟨y0', y1', y2', y3, _⟩ := hBr.four
      obtain ⟨z0, z1, z2, z3, _⟩ := hqr.four
      have hbk := Below.refl wr.heap.size wr
      have a15 : ∀ v : Int, bits .and .i64 v 15 ≤ 9223372036854775807 := fun v => and_le v 15 (by omega)
      have a7 : ∀ v : Int, bits .and .i64 v 7 ≤ 9223372036854775807 := fun v => and_le v 7 (by omega)
      replace a15 := Lib.hid a15
      replace a7 := Lib.hid a7
      go_wp2_with (first
        | (go_at_call 21; (with_reducible refine (HCA.out _ hbk _ _ _ _ (by first | assumption | exact a15.out _ | exact a7.out _ | omega) (by first | assumption | exact a15.out _ | exact a7.out _ | omega) (by first | assumption | exact a15.out _ | exact a7.out _ | omega) (by first | assumption | exact a15.out _ | exact a7.out _ | omega)).mono ?_); rintro e wk ⟨rfl, hbk'⟩; have hbk := below_then hbk hbk'; clear x0 x1' x2 x3 y0' y1' y2' y3 z0 z1 z2 z3; obtain ⟨x0, x1', x2, x3, _⟩ := (hAr.below hbk hAr.lt).four; obtain ⟨y0', y1', y2', y3, _⟩ := (hBr.below hbk hBr.lt).four; obtain ⟨z0, z1, z2, z3, _⟩ := (hqr.below hbk hqr.lt).four)
        | (go_at_call 21; (with_reducible refine (HCQ.out _ hbk _ _ _ _ (by first | assumption | exact a15.out _ | exact a7.out _ | omega) (by first | assumption | exact a15.out _ | exact a7.out _ | omega) (by first | assumption | exact a15.out _ | exact a7.out _ | omega) (by first | assumption | exact a15.out _ | exact a7.out _ | omega)).mono ?_); rintro e wk ⟨rfl, hbk'⟩; have hbk := below_then hbk hbk'; clear x0 x1' x2 x3 y0' y1' y2' y3 z0 z1 z2 z3; obtain ⟨x0, x1', x2, x3, _⟩ := (hAr.below hbk hAr.lt).four; obtain ⟨y0', y1', y2', y3, _⟩ := (hBr.below hbk hBr.lt).four; obtain ⟨z0, z1, z2, z3, _⟩ := (hqr.below hbk hqr.lt).four)
        | (go_at_call 22; (with_reducible refine (HAB.out _ hbk _ _ (by first | assumption | exact a15.out _ | exact a7.out _ | omega) (by first | assumption | exact a15.out _ | exact a7.out _ | omega)).mono ?_); rintro e wk ⟨rfl, hbk'⟩; have hbk := below_then hbk hbk'; clear x0 x1' x2 x3 y0' y1' y2' y3 z0 z1 z2 z3; obtain ⟨x0, x1', x2, x3, _⟩ := (hAr.below hbk hAr.lt).four; obtain ⟨y0', y1', y2', y3, _⟩ := (hBr.below hbk hBr.lt).four; obtain ⟨z0, z1, z2, z3, _⟩ := (hqr.below hbk hqr.lt).four)
        | (go_at_call 22; (with_reducible refine (HAQ.out _ hbk _ _ (by first | assumption | exact a15.out _ | exact a7.out _ | omega) (by first | assumption | exact a15.out _ | exact a7.out _ | omega)).mono ?_); rintro e wk ⟨rfl, hbk'⟩; have hbk := below_then hbk hbk'; clear x0 x1' x2 x3 y0' y1' y2' y3 z0 z1 z2 z3; obtain ⟨x0, x1', x2, x3, _⟩ := (hAr.below hbk hAr.lt).four; obtain ⟨y0', y1', y2', y3, _⟩ := (hBr.below hbk hBr.lt).four; obtain ⟨z0, z1, z2, z3, _⟩ := (hqr.below hbk hqr.lt).four)
        | (go_at_call 22; (with_reducible refine (HQA.out _ hbk _ _ (by first | assumption | exact a15.out _ | exact a7.out _ | omega) (by first | assumption | exact a15.out _ | exact a7.out _ | omega)).mono ?_); rintro e wk ⟨rfl, hbk'⟩; have hbk := below_then hbk hbk'; clear x0 x1' x2 x3 y0' y1' y2' y3 z0 z1 z2 z3; obtain ⟨x0, x1', x2, x3, _⟩ := (hAr.below hbk hAr.lt).four; obtain ⟨y0', y1', y2', y3, _⟩ := (hBr.below hbk hBr.lt).four; obtain ⟨z0, z1, z2, z3, _⟩ := (hqr.below hbk hqr.lt).four)
        | (go_at_call 13; go_must (refine (HK.out _).mono ?_); rintro e wk ⟨rfl, hbk'⟩; have hbk := below_then hbk hbk'))
      go_ret
      exact ⟨rfl, hbw.trans (hbk.mono hbw.size)⟩
end Go.Proofs.Ytbmgnclfecejeaa.picParts
