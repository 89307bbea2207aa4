/- PicSums: the walk. -/
import Derived.Test.YtbmgnclfecejeaaPicSumL
import Derived.Test.YtbmgnclfecejeaaPicBackL
import Derived.Test.YtbmgnclfecejeaaPicRCopy
import Derived.Test.YtbmgnclfecejeaaPicPlain2
import Derived.Test.YtbmgnclfecejeaaPicLast
set_option linter.unusedSimpArgs false
set_option linter.unusedVariables false
namespace Go.Proofs.Ytbmgnclfecejeaa.picSums
open Go.RowKit

theorem rdTo {w W' : World} {base : Nat} {A : Option Addr} {n c : Nat} {ls : List (List Int)} (h : OwnLL w base 25 3 .i64 (.slice A n c) ls) (hb : Below w.heap.size w W') : RdLL W' W'.heap.size .i64 A ls := by
  obtain ⟨A', c', hv, _, h, _⟩ := h.form
  simp only [Value.slice.injEq] at hv
  obtain ⟨rfl, _, _⟩ := hv
  exact fun j hj => by
    obtain ⟨ad, Aj, cj, e, h1, h2, h3, h4⟩ := RdLL.below h hb (Nat.le_refl _) j hj
    exact ⟨ad, Aj, cj, e, Nat.lt_of_lt_of_le h1 hb.size, h2, h3, h4.more hb.size⟩
theorem headG {w : World} {base G n C : Nat} {eS e : TypeId} {k : IntKind} {ls : List (List Int)} (h : OwnLL w base eS e k (.slice (some ⟨G, 0, none⟩) n C) ls) : base ≤ G ∧ ∃ cs, Blk w G eS cs := by
  obtain ⟨hs, ho, _⟩ := h
  rcases ho.2 with ⟨hh, _⟩ | ⟨G', _, cs, hv, hb, hcs, _⟩
  · simp at hh
  · simp only [Value.slice.injEq, Option.some.injEq, Addr.mk.injEq, and_true, true_and] at hv
    obtain ⟨rfl, _⟩ := hv
    exact ⟨hb, cs, hcs⟩
theorem wrapP_bd (v : Int) {d : Nat} (h : 1 ≤ d ∧ d ≤ 16) : 0 ≤ wrapP v d ∧ wrapP v d < 2 ^ d := by
  have hp := (pow_16 (k := d) h.1 h.2).1
  rw [wrapP, if_pos (by omega), Int.toNat_natCast]
  exact ⟨Int.emod_nonneg _ (by omega), Int.emod_lt_of_pos _ (by omega)⟩

set_option maxHeartbeats 8000000 in
set_option maxRecDepth 100000 in
theorem walk (w : World) (A0 : Option Addr) (c0 : Nat) (t : List Int) (ht : ∀ x ∈ t, -9223372036854775808 ≤ x ∧ x ≤ 9223372036854775807) (hc : t.length ≤ c0) (h63 : c0 ≤ 9223372036854775807) (hrt : RdI w w.heap.size .i64 A0 t)
    (pl : Int) (pl0 : -9223372036854775808 ≤ pl) (pl1 : pl ≤ 9223372036854775807) (at_ : Int) (at0 : -9223372036854775808 ≤ at_) (at1 : at_ ≤ 9223372036854775807) (by_ : Int) (by0 : -9223372036854775808 ≤ by_) (by1 : by_ ≤ 9223372036854775807) :
    Calls Try.prog 4 #[.slice A0 t.length c0, .int .i64 pl, .int .i64 at_, .int .i64 by_] w fun e w' => e = .returned (.bool true) ∧ Below w.heap.size w w' := by
  have HK := Lib.hid (fun W => known_any W)
  have HT := Lib.hid (newtape_any A0 t c0 ht hc (by omega) w hrt (Nat.le_refl _))
  have HPic := Lib.hid (fun W (hW : TapeB W w.heap.size w.heap.size) => tapepic_any hW 16 (by omega) (by omega))
  clear ht hrt
  go_enter Try.func4, Try.ntmps4
  go_wp2_with (first
    | (go_at_call 14; go_must (refine HT.out.mono ?_); rintro e w1 ⟨rfl, hT1, hb1⟩)
    | (go_at_call 15; go_must (refine (HPic.out _ hT1).mono ?_); rintro e w2 ⟨W, H, d, p, A, c, rfl, hB, _, _, ho2, _, hg2⟩; have bb2 : Below w.heap.size w w2 := below_only hb1 hg2 hb1.size (Nat.le_refl _); have k5 := Blk.new w2 28 #[.int .i64 (W : Int), .int .i64 (H : Int), .int .i64 (d : Int), .slice A p.length c]; have HC := Lib.hid (fun W' (hb : Below w2.heap.size w2 W') => rcopy_any (q := ⟨(W : Int), (H : Int), (d : Int), p⟩) (c := c) (rdTo ho2 hb) (Nat.le_refl _) (isB_small hB)))
    | (go_at_call 16; go_must (refine (HC.out _ (by repeat (first | exact Below.refl _ _ | assumption | refine Below.drew ?_ | refine below_drewN ?_ _ | refine below_alloc ?_ _))).mono ?_); rintro e w3 ⟨A3, c3, rfl, ho3, hb3⟩))
  obtain ⟨b1, b2, b3, b4, b5, b6, b7, b8, b9⟩ := isB_all hB
  have kp := (k5.below hb3 k5.lt).alloc (.cells #[.int .i64 (W : Int), .int .i64 (H : Int), .int .i64 (d : Int), .slice A3 p.length c3] 28)
  have kq := Blk.new w3 28 #[.int .i64 (W : Int), .int .i64 (H : Int), .int .i64 (d : Int), .slice A3 p.length c3]
  have hszq : w2.heap.size < w3.heap.size := Nat.lt_of_lt_of_le k5.lt hb3.size
  have bbz := below_then (below_then (below_alloc (Below.refl w2.heap.size w2) (.cells #[.int .i64 (W : Int), .int .i64 (H : Int), .int .i64 (d : Int), .slice A p.length c] 28)) hb3) (below_alloc (Below.refl w3.heap.size w3) (.cells #[.int .i64 (W : Int), .int .i64 (H : Int), .int .i64 (d : Int), .slice A3 p.length c3] 28))
  have oq := (ho3.below (below_alloc (Below.refl w3.heap.size w3) (.cells #[.int .i64 (W : Int), .int .i64 (H : Int), .int .i64 (d : Int), .slice A3 p.length c3] 28))).base_ (base' := w2.heap.size) (by simp)
  generalize w3.alloc (.cells #[.int .i64 (W : Int), .int .i64 (H : Int), .int .i64 (d : Int), .slice A3 p.length c3] 28) = wa at *
  have hpl : ∀ l ∈ p, l.length = W * H := fun l hl => (b9 l hl).1
  have hWHp : 0 < W * H := Nat.mul_pos (by omega) (by omega)
  have hWHm : W * H ≤ 4096 := Nat.mul_le_mul (show W ≤ 64 by omega) (show H ≤ 64 by omega)
  have hWHc : (W : Int) * (H : Int) = ((W * H : Nat) : Int) := by simp
  have HX := Lib.hid (fun n => quiet_left (within_any pl 0 ((p.length : Int) - 1) pl0 pl1 (by omega) (by omega) (by omega) (wa.drewN n)))
  have HY := Lib.hid (fun n => quiet_left (within_any at_ 0 ((W : Int) * (H : Int) - 1) at0 at1 (by omega) (by omega) (by omega) (wa.drewN n)))
  have hxi := withinV_in (n := pl) (lo := 0) (hi := (p.length : Int) - 1) (by omega)
  have hyi := withinV_in (n := at_) (lo := 0) (hi := (W : Int) * (H : Int) - 1) (by omega)
  obtain ⟨an, han⟩ := Int.eq_ofNat_of_zero_le hxi.1
  obtain ⟨bn, hbn⟩ := Int.eq_ofNat_of_zero_le hyi.1
  rw [han] at hxi HX
  rw [hbn] at hyi HY
  have hanp : an < p.length := by omega
  have hbnp : bn < W * H := by omega
  have m0 : (0 : Int) ≤ (W : Int) * (H : Int) := by omega
  have m1 : (W : Int) * (H : Int) ≤ 4096 := by omega
  obtain ⟨x0, x1, x2, x3, _⟩ := kp.four
  have hpl := Lib.hid hpl
  have HB := Lib.hid hB
  clear han hbn hWHc hyi hxi b9 hT1 hg2 HPic HT hb1 ho3 k5 HC hB
  go_quiet (first
    | (go_at_call 17; with_reducible exact HX.out _)
    | (go_at_call 17; with_reducible exact HY.out _))
  clear x0 x1 x2 x3 HX HY
  have kp := kp.drewN nq
  have kq := kq.drewN nq
  have oq := oq.below (below_drewN (Below.refl _ _) nq)
  have bbz := below_drewN bbz nq
  generalize wa.drewN nq = wz at *
  have hlen : (p.getD an []).length = W * H := hpl.out _ (getDD_mem hanp)
  have HLn := Lib.hid hlen
  obtain ⟨G, C, g, cg, hv, hC, hhead, hgb, hcg, ⟨cur, hcur⟩, hown, hput⟩ := OwnLL.at_ oq (j := an) (by decide) hanp (by rw [hlen]; exact hWHp)
  simp only [Value.slice.injEq] at hv
  obtain ⟨rfl, _, rfl⟩ := hv
  obtain ⟨g', c9, hv', _, hg9, _, hcl, hfr, hst⟩ := hown.row (by rw [hlen]; exact hWHp)
  simp only [Value.slice.injEq, Option.some.injEq, Addr.mk.injEq, and_true] at hv'
  obtain ⟨rfl, _, rfl⟩ := hv'
  have helem := hcl bn (by rw [hlen]; exact hbnp)
  have hfz := hfr bn
  have hRp := RdLL.below (show RdLL w2 w2.heap.size .i64 A p by exact rdTo ho2 (Below.refl _ _)) bbz (Nat.le_refl _)
  obtain ⟨ad, Aj, cj, hA, hadB, hpc, hcj, hrj⟩ := hRp an hanp
  obtain ⟨ad2, hAj, had2, hpe⟩ := hrj.at_ (j := bn) (by rw [hlen]; exact hbnp)
  subst hA hAj
  have hpc0 := hpc
  obtain ⟨x0, x1, x2, x3, _⟩ := kp.four
  obtain ⟨y0, y1, y2, y3, _⟩ := kq.four
  generalize hxv : (p.getD an []).getD bn 0 = xv at *
  have HXV := Lib.hid hxv
  generalize hln : (p.getD an []).length = ln at *
  have HLN := Lib.hid hln
  have hbln : bn < ln := by omega
  have hszg : w2.heap.size < wz.heap.size := kp.lt
  clear hlen hln hxv hrj hC hfr hcl hg9
  go_wp2
  refine wp_region_last (S := (fun w' => w'.cell? ⟨w2.heap.size, 2, none⟩ = some (.int .i64 d) ∧ w'.cell? ⟨w3.heap.size, 3, none⟩ = some (.slice (some ⟨G, 0, none⟩) p.length c3) ∧ w'.cell? ⟨G, an, none⟩ = some (.slice (some ⟨g, 0, none⟩) ln cg) ∧ w'.cell? ⟨g, bn, none⟩ = some (.int .i64 xv))) 20 _ (by simp only [List.pop_toArray, List.dropLast_cons_cons, List.dropLast_singleton]; rfl) (by kernel_rfl) (by kernel_rfl) (by kernel_rfl) (by kernel_rfl) (by kernel_rfl) ?_ (fun hHeld => ?_)
  focus exact ⟨x2, y3, hhead, helem⟩
  refine wpAnyH_take (i := 0) (v := ?_) rfl (by kernel_rfl) (by kernel_rfl) (by kernel_rfl) (fun _ _ _ h => h) (Or.inl ⟨by rfl, ?_⟩) (by assumption) ?_
  rotate_left
  focus
    intro w9 hSw
    (try dsimp only at hSw)
    go_simp
    (try with_reducible rfl)
  (try simp only [Act.put, List.getElem_toArray, List.getElem_cons_succ, List.getElem_cons_zero, List.setIfInBounds_toArray, List.set_cons_zero, List.set_cons_succ])
  refine wpAnyH_take (i := 1) (v := ?_) rfl (by kernel_rfl) (by kernel_rfl) (by kernel_rfl) (fun _ _ _ h => h) (Or.inl ⟨by rfl, ?_⟩) (by assumption) ?_
  rotate_left
  focus
    intro w9 hSw
    (try dsimp only at hSw)
    go_simp
    (try with_reducible rfl)
  (try simp only [Act.put, List.getElem_toArray, List.getElem_cons_succ, List.getElem_cons_zero, List.setIfInBounds_toArray, List.set_cons_zero, List.set_cons_succ])
  refine wpAnyH_take (i := 2) (v := ?_) rfl (by kernel_rfl) (by kernel_rfl) (by kernel_rfl) (fun _ _ _ h => h) (Or.inl ⟨by rfl, ?_⟩) (by assumption) ?_
  rotate_left
  focus
    intro w9 hSw
    (try dsimp only at hSw)
    go_simp
    (try with_reducible rfl)
  (try simp only [Act.put, List.getElem_toArray, List.getElem_cons_succ, List.getElem_cons_zero, List.setIfInBounds_toArray, List.set_cons_zero, List.set_cons_succ])
  refine wpAnyH_take (i := 3) (v := ?_) rfl (by kernel_rfl) (by kernel_rfl) (by kernel_rfl) (fun _ _ _ h => h) (Or.inl ⟨by rfl, ?_⟩) (by assumption) ?_
  rotate_left
  focus
    intro w9 hSw
    (try dsimp only at hSw)
    go_simp
    (try with_reducible rfl)
  (try simp only [Act.put, List.getElem_toArray, List.getElem_cons_succ, List.getElem_cons_zero, List.setIfInBounds_toArray, List.set_cons_zero, List.set_cons_succ])
  refine wpAnyH_take (i := 4) (v := ?_) rfl (by kernel_rfl) (by kernel_rfl) (by kernel_rfl) (fun _ _ _ h => h) (Or.inl ⟨by rfl, ?_⟩) (by assumption) ?_
  rotate_left
  focus
    intro w9 hSw
    (try dsimp only at hSw)
    go_simp
    (try with_reducible rfl)
  (try simp only [Act.put, List.getElem_toArray, List.getElem_cons_succ, List.getElem_cons_zero, List.setIfInBounds_toArray, List.set_cons_zero, List.set_cons_succ])
  refine wpAnyH_take (i := 5) (v := ?_) rfl (by kernel_rfl) (by kernel_rfl) (by kernel_rfl) (fun _ _ _ h => h) (Or.inl ⟨by rfl, ?_⟩) (by assumption) ?_
  rotate_left
  focus
    intro w9 hSw
    (try dsimp only at hSw)
    go_simp
    (try with_reducible rfl)
  (try simp only [Act.put, List.getElem_toArray, List.getElem_cons_succ, List.getElem_cons_zero, List.setIfInBounds_toArray, List.set_cons_zero, List.set_cons_succ])
  refine wpAnyH_take (i := 6) (v := ?_) rfl (by kernel_rfl) (by kernel_rfl) (by kernel_rfl) (fun _ _ _ h => h) (Or.inl ⟨by rfl, ?_⟩) (by assumption) ?_
  rotate_left
  focus
    intro w9 hSw
    (try dsimp only at hSw)
    go_simp
    (try with_reducible rfl)
  (try simp only [Act.put, List.getElem_toArray, List.getElem_cons_succ, List.getElem_cons_zero, List.setIfInBounds_toArray, List.set_cons_zero, List.set_cons_succ])
  refine wpAnyH_take (i := 7) (v := ?_) rfl (by kernel_rfl) (by kernel_rfl) (by kernel_rfl) (fun _ _ _ h => h) (Or.inl ⟨by rfl, ?_⟩) (by assumption) ?_
  rotate_left
  focus
    intro w9 hSw
    (try dsimp only at hSw)
    go_simp
    (try with_reducible rfl)
  (try simp only [Act.put, List.getElem_toArray, List.getElem_cons_succ, List.getElem_cons_zero, List.setIfInBounds_toArray, List.set_cons_zero, List.set_cons_succ])
  refine wpAnyH_take (i := 8) (v := ?_) rfl (by kernel_rfl) (by kernel_rfl) (by kernel_rfl) (fun _ _ _ h => h) (Or.inl ⟨by rfl, ?_⟩) (by assumption) ?_
  rotate_left
  focus
    intro w9 hSw
    (try dsimp only at hSw)
    go_simp
    (try with_reducible rfl)
  (try simp only [Act.put, List.getElem_toArray, List.getElem_cons_succ, List.getElem_cons_zero, List.setIfInBounds_toArray, List.set_cons_zero, List.set_cons_succ])
  refine wpAnyH_take (i := 9) (v := ?_) rfl (by kernel_rfl) (by kernel_rfl) (by kernel_rfl) (fun _ _ _ h => h) (Or.inl ⟨by rfl, ?_⟩) (by assumption) ?_
  rotate_left
  focus
    intro w9 hSw
    (try dsimp only at hSw)
    go_simp
    (try with_reducible rfl)
  (try simp only [Act.put, List.getElem_toArray, List.getElem_cons_succ, List.getElem_cons_zero, List.setIfInBounds_toArray, List.set_cons_zero, List.set_cons_succ])
  refine wpAnyH_take (i := 10) (v := ?_) rfl (by kernel_rfl) (by kernel_rfl) (by kernel_rfl) (fun _ _ _ h => h) (Or.inl ⟨by rfl, ?_⟩) (by assumption) ?_
  rotate_left
  focus
    intro w9 hSw
    (try dsimp only at hSw)
    go_simp
    (try with_reducible rfl)
  (try simp only [Act.put, List.getElem_toArray, List.getElem_cons_succ, List.getElem_cons_zero, List.setIfInBounds_toArray, List.set_cons_zero, List.set_cons_succ])
  refine wpAnyH_take (i := 11) (v := ?_) rfl (by kernel_rfl) (by kernel_rfl) (by kernel_rfl) (fun _ _ _ h => h) (Or.inl ⟨by rfl, ?_⟩) (by assumption) ?_
  rotate_left
  focus
    intro w9 hSw
    (try dsimp only at hSw)
    go_simp
    (try with_reducible rfl)
  (try simp only [Act.put, List.getElem_toArray, List.getElem_cons_succ, List.getElem_cons_zero, List.setIfInBounds_toArray, List.set_cons_zero, List.set_cons_succ])
  refine wpAnyH_take (i := 12) (v := ?_) rfl (by kernel_rfl) (by kernel_rfl) (by kernel_rfl) (fun _ _ _ h => h) (Or.inl ⟨by rfl, ?_⟩) (by assumption) ?_
  rotate_left
  focus
    intro w9 hSw
    (try dsimp only at hSw)
    go_simp
    (try with_reducible rfl)
  (try simp only [Act.put, List.getElem_toArray, List.getElem_cons_succ, List.getElem_cons_zero, List.setIfInBounds_toArray, List.set_cons_zero, List.set_cons_succ])
  refine wpAnyH_take (i := 13) (v := ?_) rfl (by kernel_rfl) (by kernel_rfl) (by kernel_rfl) (fun _ _ _ h => h) (Or.inl ⟨by rfl, ?_⟩) (by assumption) ?_
  rotate_left
  focus
    intro w9 hSw
    (try dsimp only at hSw)
    go_simp
    (try with_reducible rfl)
  (try simp only [Act.put, List.getElem_toArray, List.getElem_cons_succ, List.getElem_cons_zero, List.setIfInBounds_toArray, List.set_cons_zero, List.set_cons_succ])
  refine wpAnyH_take (i := 14) (v := ?_) rfl (by kernel_rfl) (by kernel_rfl) (by kernel_rfl) (fun _ _ _ h => h) (Or.inl ⟨by rfl, ?_⟩) (by assumption) ?_
  rotate_left
  focus
    intro w9 hSw
    (try dsimp only at hSw)
    go_simp
    (try with_reducible rfl)
  (try simp only [Act.put, List.getElem_toArray, List.getElem_cons_succ, List.getElem_cons_zero, List.setIfInBounds_toArray, List.set_cons_zero, List.set_cons_succ])
  refine wpAnyH_take (i := 15) (v := ?_) rfl (by kernel_rfl) (by kernel_rfl) (by kernel_rfl) (fun _ _ _ h => h) (Or.inl ⟨by rfl, ?_⟩) (by assumption) ?_
  rotate_left
  focus
    intro w9 hSw
    (try dsimp only at hSw)
    go_simp
    (try with_reducible rfl)
  (try simp only [Act.put, List.getElem_toArray, List.getElem_cons_succ, List.getElem_cons_zero, List.setIfInBounds_toArray, List.set_cons_zero, List.set_cons_succ])
  refine wpAnyH_take (i := 16) (v := ?_) rfl (by kernel_rfl) (by kernel_rfl) (by kernel_rfl) (fun _ _ _ h => h) (Or.inl ⟨by rfl, ?_⟩) (by assumption) ?_
  rotate_left
  focus
    intro w9 hSw
    (try dsimp only at hSw)
    go_simp
    (try with_reducible rfl)
  (try simp only [Act.put, List.getElem_toArray, List.getElem_cons_succ, List.getElem_cons_zero, List.setIfInBounds_toArray, List.set_cons_zero, List.set_cons_succ])
  refine wpAnyH_take (i := 17) (v := ?_) rfl (by kernel_rfl) (by kernel_rfl) (by kernel_rfl) (fun _ _ _ h => h) (Or.inl ⟨by rfl, ?_⟩) (by assumption) ?_
  rotate_left
  focus
    intro w9 hSw
    (try dsimp only at hSw)
    go_simp
    (try with_reducible rfl)
  (try simp only [Act.put, List.getElem_toArray, List.getElem_cons_succ, List.getElem_cons_zero, List.setIfInBounds_toArray, List.set_cons_zero, List.set_cons_succ])
  refine wpAnyH_ready (rs := [18]) (by kernel_rfl) (by simp) (AllReadyH.cons rfl (fun K hK => ?_) AllReadyH.nil)
  go_simp
  go_at_call 10
  refine (wrapref_any _ _ _).mono ?_
  rintro e w4 ⟨rfl, rfl⟩
  obtain ⟨v0, v1⟩ := wrapP_bd (IntKind.i64.wrap (xv + by_)) (d := d) (by omega)
  generalize wrapP (IntKind.i64.wrap (xv + by_)) (d : Int) = v at *
  refine hK.out _ _ ?_ (fun hHeld => ?_)
  focus
   (try dsimp only)
   first | (simp [*, World.cell?_alloc_some, World.cell?_setCell_far, add_block]; done) | go_keep
  clear hK K
  refine wpAnyH_take (i := 19) (v := ?_) rfl (by kernel_rfl) (by kernel_rfl) (by kernel_rfl) (fun _ _ _ h => h) (Or.inl ⟨by rfl, ?_⟩) (by assumption) ?_
  rotate_left
  focus
    intro w9 hSw
    (try dsimp only at hSw)
    go_simp
    (try with_reducible rfl)
  (try simp only [Act.put, List.getElem_toArray, List.getElem_cons_succ, List.getElem_cons_zero, List.setIfInBounds_toArray, List.set_cons_zero, List.set_cons_succ])
  refine wpAnyH_done (by kernel_rfl) (lastQ_step rfl (fun K hK => ?_)) _
  go_simp
  refine hK _ _ ?_
  clear hK K
  have nz : ∀ {gx : Nat} {ty : TypeId} {cs : Array Value}, Blk wz gx ty cs → ty ≠ 3 → Blk (wz.setCell ⟨g, bn, none⟩ (.int .i64 v)).drew gx ty cs := fun hx hty => Blk.drewN (hx.far (fun e => by
    subst e
    have := hx.symm.trans hcur
    simp only [Option.some.injEq, Obj.cells.injEq] at this
    exact hty this.2.1) _) 1
  obtain ⟨hGb, Gs, hGB⟩ := headG oq
  have kp' := nz kp (by decide)
  have kq' := nz kq (by decide)
  have hG' := nz hGB (by decide)
  have hhead' := (hG'.cell an).trans ((hGB.cell an).symm.trans hhead)
  have hbcur : bn < cur.size := by
    have := (hcur.cell bn).symm.trans helem
    exact (Array.getElem?_eq_some_iff.1 this).1
  have helem' : (wz.setCell ⟨g, bn, none⟩ (.int .i64 v)).drew.cell? ⟨g, bn, none⟩ = some (.int .i64 v) := ((hcur.set_ bn (.int .i64 v)).cell bn).trans (by simp [hbcur])
  have hpc' : (wz.setCell ⟨g, bn, none⟩ (.int .i64 v)).drew.cell? (ad.add an) = some (.slice (some ad2) ln cj) := (World.cell?_setCell_far _ _ _ _ (by rw [add_block]; simp; omega)).trans hpc
  have hpe' : (wz.setCell ⟨g, bn, none⟩ (.int .i64 v)).drew.cell? (ad2.add bn) = some (.int .i64 xv) := (World.cell?_setCell_far _ _ _ _ (by rw [add_block]; simp; omega)).trans hpe
  have oq' := hput (wz.setCell ⟨g, bn, none⟩ (.int .i64 v)).drew ((p.getD an []).set bn v) (only_drew (only_setCell (only_refl _ _) (.inl rfl) _)) (by rw [List.length_set]; exact HLN.out) (hst bn v).drew
  have bbw : Below w2.heap.size w2 (wz.setCell ⟨g, bn, none⟩ (.int .i64 v)).drew := (bbz.setCell hgb _).drew
  have hsz' : (wz.setCell ⟨g, bn, none⟩ (.int .i64 v)).drew.heap.size = wz.heap.size := by simp [World.setCell]
  have hlaw := sum_set HB.out hanp (show bn < (p.getD an []).length by rw [HLN.out]; exact hbln) (v := v) ⟨v0, by rw [Int.toNat_natCast]; exact v1⟩
  have HBq := Lib.hid hlaw.1
  have hlaw2 := hlaw.2
  rw [HXV.out] at hlaw2
  generalize (wz.setCell ⟨g, bn, none⟩ (.int .i64 v)).drew = ws at *
  have HSP := Lib.hid (fun W' (hb : Below ws.heap.size ws W') => sum_any (q := ⟨(W : Int), (H : Int), (d : Int), p⟩) (A := some ad) (c := c) (RdLL.below (RdLL.below (rdTo ho2 (Below.refl _ _)) bbw (Nat.le_refl _)) hb (by omega)) (show w2.heap.size ≤ W'.heap.size by have := hb.size; omega))
  have HSQ := fun W' (hb : Below ws.heap.size ws W') => sum_any (q := ⟨(W : Int), (H : Int), (d : Int), p.set an ((p.getD an []).set bn v)⟩) (A := some ⟨G, 0, none⟩) (c := c3) (rdTo oq' hb) (Nat.le_refl _)
  simp only [List.length_set] at HSQ
  replace HSQ := Lib.hid HSQ
  generalize sumV ⟨(W : Int), (H : Int), (d : Int), p.set an ((p.getD an []).set bn v)⟩ = sq at *
  generalize sumV ⟨(W : Int), (H : Int), (d : Int), p⟩ = sp at *
  clear x0 x1 x2 x3 y0 y1 y2 y3
  obtain ⟨x0, x1, x2, x3, _⟩ := kp'.four
  obtain ⟨y0, y1, y2, y3, _⟩ := kq'.four
  clear hhead helem hpc hpc0 hpe hRp hput hst hown hfz hcur kp kq oq hGB hG' nz hHeld ho2 oq' kp' kq' hlaw
  go_wp2
  refine wp_region_held_drew (S := (fun w' => w'.cell? ⟨w2.heap.size, 0, none⟩ = some (.int .i64 W) ∧ w'.cell? ⟨w2.heap.size, 1, none⟩ = some (.int .i64 H) ∧ w'.cell? ⟨w2.heap.size, 2, none⟩ = some (.int .i64 d) ∧ w'.cell? ⟨w2.heap.size, 3, none⟩ = some (.slice (some ad) p.length c) ∧ w'.cell? ⟨w3.heap.size, 0, none⟩ = some (.int .i64 W) ∧ w'.cell? ⟨w3.heap.size, 1, none⟩ = some (.int .i64 H) ∧ w'.cell? ⟨w3.heap.size, 2, none⟩ = some (.int .i64 d) ∧ w'.cell? ⟨w3.heap.size, 3, none⟩ = some (.slice (some ⟨G, 0, none⟩) p.length c3) ∧ w'.cell? (ad.add an) = some (.slice (some ad2) ln cj) ∧ w'.cell? (ad2.add bn) = some (.int .i64 xv) ∧ w'.cell? ⟨G, an, none⟩ = some (.slice (some ⟨g, 0, none⟩) ln cg) ∧ w'.cell? ⟨g, bn, none⟩ = some (.int .i64 v))) (by kernel_rfl) ?_ (fun hHeld => ?_)
  focus exact ⟨x0, x1, x2, x3, y0, y1, y2, y3, hpc', hpe', hhead', helem'⟩
  refine wpAnyH_take (i := 0) (v := ?_) rfl (by kernel_rfl) (by kernel_rfl) (by kernel_rfl) (fun _ _ _ h => h) (Or.inl ⟨by rfl, ?_⟩) (by assumption) ?_
  rotate_left
  focus
    intro w9 hSw
    (try dsimp only at hSw)
    go_simp
    (try with_reducible rfl)
  (try simp only [Act.put, List.getElem_toArray, List.getElem_cons_succ, List.getElem_cons_zero, List.setIfInBounds_toArray, List.set_cons_zero, List.set_cons_succ])
  refine wpAnyH_take (i := 2) (v := ?_) rfl (by kernel_rfl) (by kernel_rfl) (by kernel_rfl) (fun _ _ _ h => h) (Or.inl ⟨by rfl, ?_⟩) (by assumption) ?_
  rotate_left
  focus
    intro w9 hSw
    (try dsimp only at hSw)
    go_simp
    (try with_reducible rfl)
  (try simp only [Act.put, List.getElem_toArray, List.getElem_cons_succ, List.getElem_cons_zero, List.setIfInBounds_toArray, List.set_cons_zero, List.set_cons_succ])
  refine wpAnyH_take (i := 5) (v := ?_) rfl (by kernel_rfl) (by kernel_rfl) (by kernel_rfl) (fun _ _ _ h => h) (Or.inl ⟨by rfl, ?_⟩) (by assumption) ?_
  rotate_left
  focus
    intro w9 hSw
    (try dsimp only at hSw)
    go_simp
    (try with_reducible rfl)
  (try simp only [Act.put, List.getElem_toArray, List.getElem_cons_succ, List.getElem_cons_zero, List.setIfInBounds_toArray, List.set_cons_zero, List.set_cons_succ])
  refine wpAnyH_take (i := 6) (v := ?_) rfl (by kernel_rfl) (by kernel_rfl) (by kernel_rfl) (fun _ _ _ h => h) (Or.inl ⟨by rfl, ?_⟩) (by assumption) ?_
  rotate_left
  focus
    intro w9 hSw
    (try dsimp only at hSw)
    go_simp
    (try with_reducible rfl)
  (try simp only [Act.put, List.getElem_toArray, List.getElem_cons_succ, List.getElem_cons_zero, List.setIfInBounds_toArray, List.set_cons_zero, List.set_cons_succ])
  refine wpAnyH_take (i := 7) (v := ?_) rfl (by kernel_rfl) (by kernel_rfl) (by kernel_rfl) (fun _ _ _ h => h) (Or.inl ⟨by rfl, ?_⟩) (by assumption) ?_
  rotate_left
  focus
    intro w9 hSw
    (try dsimp only at hSw)
    go_simp
    (try with_reducible rfl)
  (try simp only [Act.put, List.getElem_toArray, List.getElem_cons_succ, List.getElem_cons_zero, List.setIfInBounds_toArray, List.set_cons_zero, List.set_cons_succ])
  refine wpAnyH_take (i := 8) (v := ?_) rfl (by kernel_rfl) (by kernel_rfl) (by kernel_rfl) (fun _ _ _ h => h) (Or.inl ⟨by rfl, ?_⟩) (by assumption) ?_
  rotate_left
  focus
    intro w9 hSw
    (try dsimp only at hSw)
    go_simp
    (try with_reducible rfl)
  (try simp only [Act.put, List.getElem_toArray, List.getElem_cons_succ, List.getElem_cons_zero, List.setIfInBounds_toArray, List.set_cons_zero, List.set_cons_succ])
  refine wpAnyH_take (i := 9) (v := ?_) rfl (by kernel_rfl) (by kernel_rfl) (by kernel_rfl) (fun _ _ _ h => h) (Or.inl ⟨by rfl, ?_⟩) (by assumption) ?_
  rotate_left
  focus
    intro w9 hSw
    (try dsimp only at hSw)
    go_simp
    (try with_reducible rfl)
  (try simp only [Act.put, List.getElem_toArray, List.getElem_cons_succ, List.getElem_cons_zero, List.setIfInBounds_toArray, List.set_cons_zero, List.set_cons_succ])
  refine wpAnyH_take (i := 10) (v := ?_) rfl (by kernel_rfl) (by kernel_rfl) (by kernel_rfl) (fun _ _ _ h => h) (Or.inl ⟨by rfl, ?_⟩) (by assumption) ?_
  rotate_left
  focus
    intro w9 hSw
    (try dsimp only at hSw)
    go_simp
    (try with_reducible rfl)
  (try simp only [Act.put, List.getElem_toArray, List.getElem_cons_succ, List.getElem_cons_zero, List.setIfInBounds_toArray, List.set_cons_zero, List.set_cons_succ])
  refine wpAnyH_take (i := 11) (v := ?_) rfl (by kernel_rfl) (by kernel_rfl) (by kernel_rfl) (fun _ _ _ h => h) (Or.inl ⟨by rfl, ?_⟩) (by assumption) ?_
  rotate_left
  focus
    intro w9 hSw
    (try dsimp only at hSw)
    go_simp
    (try with_reducible rfl)
  (try simp only [Act.put, List.getElem_toArray, List.getElem_cons_succ, List.getElem_cons_zero, List.setIfInBounds_toArray, List.set_cons_zero, List.set_cons_succ])
  refine wpAnyH_take (i := 12) (v := ?_) rfl (by kernel_rfl) (by kernel_rfl) (by kernel_rfl) (fun _ _ _ h => h) (Or.inl ⟨by rfl, ?_⟩) (by assumption) ?_
  rotate_left
  focus
    intro w9 hSw
    (try dsimp only at hSw)
    go_simp
    (try with_reducible rfl)
  (try simp only [Act.put, List.getElem_toArray, List.getElem_cons_succ, List.getElem_cons_zero, List.setIfInBounds_toArray, List.set_cons_zero, List.set_cons_succ])
  refine wpAnyH_take (i := 13) (v := ?_) rfl (by kernel_rfl) (by kernel_rfl) (by kernel_rfl) (fun _ _ _ h => h) (Or.inl ⟨by rfl, ?_⟩) (by assumption) ?_
  rotate_left
  focus
    intro w9 hSw
    (try dsimp only at hSw)
    go_simp
    (try with_reducible rfl)
  (try simp only [Act.put, List.getElem_toArray, List.getElem_cons_succ, List.getElem_cons_zero, List.setIfInBounds_toArray, List.set_cons_zero, List.set_cons_succ])
  refine wpAnyH_take (i := 14) (v := ?_) rfl (by kernel_rfl) (by kernel_rfl) (by kernel_rfl) (fun _ _ _ h => h) (Or.inl ⟨by rfl, ?_⟩) (by assumption) ?_
  rotate_left
  focus
    intro w9 hSw
    (try dsimp only at hSw)
    go_simp
    (try with_reducible rfl)
  (try simp only [Act.put, List.getElem_toArray, List.getElem_cons_succ, List.getElem_cons_zero, List.setIfInBounds_toArray, List.set_cons_zero, List.set_cons_succ])
  refine wpAnyH_take (i := 15) (v := ?_) rfl (by kernel_rfl) (by kernel_rfl) (by kernel_rfl) (fun _ _ _ h => h) (Or.inl ⟨by rfl, ?_⟩) (by assumption) ?_
  rotate_left
  focus
    intro w9 hSw
    (try dsimp only at hSw)
    go_simp
    (try with_reducible rfl)
  (try simp only [Act.put, List.getElem_toArray, List.getElem_cons_succ, List.getElem_cons_zero, List.setIfInBounds_toArray, List.set_cons_zero, List.set_cons_succ])
  refine wpAnyH_take (i := 16) (v := ?_) rfl (by kernel_rfl) (by kernel_rfl) (by kernel_rfl) (fun _ _ _ h => h) (Or.inl ⟨by rfl, ?_⟩) (by assumption) ?_
  rotate_left
  focus
    intro w9 hSw
    (try dsimp only at hSw)
    go_simp
    (try with_reducible rfl)
  (try simp only [Act.put, List.getElem_toArray, List.getElem_cons_succ, List.getElem_cons_zero, List.setIfInBounds_toArray, List.set_cons_zero, List.set_cons_succ])
  refine wpAnyH_take (i := 17) (v := ?_) rfl (by kernel_rfl) (by kernel_rfl) (by kernel_rfl) (fun _ _ _ h => h) (Or.inl ⟨by rfl, ?_⟩) (by assumption) ?_
  rotate_left
  focus
    intro w9 hSw
    (try dsimp only at hSw)
    go_simp
    (try with_reducible rfl)
  (try simp only [Act.put, List.getElem_toArray, List.getElem_cons_succ, List.getElem_cons_zero, List.setIfInBounds_toArray, List.set_cons_zero, List.set_cons_succ])
  refine wpAnyH_take (i := 18) (v := ?_) rfl (by kernel_rfl) (by kernel_rfl) (by kernel_rfl) (fun _ _ _ h => h) (Or.inl ⟨by rfl, ?_⟩) (by assumption) ?_
  rotate_left
  focus
    intro w9 hSw
    (try dsimp only at hSw)
    go_simp
    (try with_reducible rfl)
  (try simp only [Act.put, List.getElem_toArray, List.getElem_cons_succ, List.getElem_cons_zero, List.setIfInBounds_toArray, List.set_cons_zero, List.set_cons_succ])
  refine wpAnyH_take (i := 19) (v := ?_) rfl (by kernel_rfl) (by kernel_rfl) (by kernel_rfl) (fun _ _ _ h => h) (Or.inl ⟨by rfl, ?_⟩) (by assumption) ?_
  rotate_left
  focus
    intro w9 hSw
    (try dsimp only at hSw)
    go_simp
    (try with_reducible rfl)
  (try simp only [Act.put, List.getElem_toArray, List.getElem_cons_succ, List.getElem_cons_zero, List.setIfInBounds_toArray, List.set_cons_zero, List.set_cons_succ])
  refine wpAnyH_take (i := 20) (v := ?_) rfl (by kernel_rfl) (by kernel_rfl) (by kernel_rfl) (fun _ _ _ h => h) (Or.inl ⟨by rfl, ?_⟩) (by assumption) ?_
  rotate_left
  focus
    intro w9 hSw
    (try dsimp only at hSw)
    go_simp
    (try with_reducible rfl)
  (try simp only [Act.put, List.getElem_toArray, List.getElem_cons_succ, List.getElem_cons_zero, List.setIfInBounds_toArray, List.set_cons_zero, List.set_cons_succ])
  refine wpAnyH_take (i := 21) (v := ?_) rfl (by kernel_rfl) (by kernel_rfl) (by kernel_rfl) (fun _ _ _ h => h) (Or.inl ⟨by rfl, ?_⟩) (by assumption) ?_
  rotate_left
  focus
    intro w9 hSw
    (try dsimp only at hSw)
    go_simp
    (try with_reducible rfl)
  (try simp only [Act.put, List.getElem_toArray, List.getElem_cons_succ, List.getElem_cons_zero, List.setIfInBounds_toArray, List.set_cons_zero, List.set_cons_succ])
  refine wpAnyH_ready (rs := [1]) (by kernel_rfl) (by simp) (AllReadyH.cons rfl (fun K hK => ?_) AllReadyH.nil)
  go_simp
  go_at_call 18
  refine (HSP.out _ (by repeat (first | exact Below.refl _ _ | assumption | refine Below.drew ?_ | refine below_drewN ?_ _ | refine below_alloc ?_ _))).mono ?_
  rintro e w5 ⟨rfl, hb5'⟩
  have hb5 := below_undrew hb5'
  clear hb5'
  have K5 : ∀ {a : Addr} {u : Value}, ws.cell? a = some u → w5.cell? a = some u := fun {a} {u} h => (hb5.cell (World.block_lt_of_cell? ws _ h)).trans h
  refine hK.out _ _ ?_ (fun hHeld => ?_)
  focus exact ⟨K5 x0, K5 x1, K5 x2, K5 x3, K5 y0, K5 y1, K5 y2, K5 y3, K5 hpc', K5 hpe', K5 hhead', K5 helem'⟩
  clear hK K
  (try simp only [Act.put, List.getElem_toArray, List.getElem_cons_succ, List.getElem_cons_zero, List.setIfInBounds_toArray, List.set_cons_zero, List.set_cons_succ])
  clear K5
  refine wpAnyH_ready (rs := [3]) (by kernel_rfl) (by simp) (AllReadyH.cons rfl (fun K hK => ?_) AllReadyH.nil)
  go_simp
  go_at_call 18
  refine (HSQ.out _ hb5).mono ?_
  rintro e w6 ⟨rfl, hb6'⟩
  have hb6 := below_then hb5 hb6'
  have K6 : ∀ {a : Addr} {u : Value}, ws.cell? a = some u → w6.cell? a = some u := fun {a} {u} h => (hb6.cell (World.block_lt_of_cell? ws _ h)).trans h
  refine hK.out _ _ ?_ (fun hHeld => ?_)
  focus exact ⟨K6 x0, K6 x1, K6 x2, K6 x3, K6 y0, K6 y1, K6 y2, K6 y3, K6 hpc', K6 hpe', K6 hhead', K6 helem'⟩
  clear hK K
  (try simp only [Act.put, List.getElem_toArray, List.getElem_cons_succ, List.getElem_cons_zero, List.setIfInBounds_toArray, List.set_cons_zero, List.set_cons_succ])
  clear K6
  refine wpAnyH_take (i := 4) (v := ?_) rfl (by kernel_rfl) (by kernel_rfl) (by kernel_rfl) (fun _ _ _ h => h) (Or.inl ⟨by rfl, ?_⟩) (by assumption) ?_
  rotate_left
  focus
    intro w9 hSw
    (try dsimp only at hSw)
    go_simp
    (try with_reducible rfl)
  (try simp only [Act.put, List.getElem_toArray, List.getElem_cons_succ, List.getElem_cons_zero, List.setIfInBounds_toArray, List.set_cons_zero, List.set_cons_succ])
  refine wpAnyH_take (i := 22) (v := ?_) rfl (by kernel_rfl) (by kernel_rfl) (by kernel_rfl) (fun _ _ _ h => h) (Or.inl ⟨by rfl, ?_⟩) (by assumption) ?_
  rotate_left
  focus
    intro w9 hSw
    (try dsimp only at hSw)
    go_simp
    (try with_reducible rfl)
  (try simp only [Act.put, List.getElem_toArray, List.getElem_cons_succ, List.getElem_cons_zero, List.setIfInBounds_toArray, List.set_cons_zero, List.set_cons_succ])
  refine wpAnyH_take (i := 23) (v := ?_) rfl (by kernel_rfl) (by kernel_rfl) (by kernel_rfl) (fun _ _ _ h => h) (Or.inl ⟨by rfl, ?_⟩) (by assumption) ?_
  rotate_left
  focus
    intro w9 hSw
    (try dsimp only at hSw)
    go_simp
    (try with_reducible rfl)
  (try simp only [Act.put, List.getElem_toArray, List.getElem_cons_succ, List.getElem_cons_zero, List.setIfInBounds_toArray, List.set_cons_zero, List.set_cons_succ])
  refine wpAnyH_ready (rs := [24]) (by kernel_rfl) (by simp) (AllReadyH.cons rfl (fun K hK => ?_) AllReadyH.nil)
  go_simp
  go_at_call 13
  refine (HK.out _).mono ?_
  rintro e w7 ⟨rfl, hb7'⟩
  have hb7 := below_then hb6 hb7'
  have K7 : ∀ {a : Addr} {u : Value}, ws.cell? a = some u → w7.cell? a = some u := fun {a} {u} h => (hb7.cell (World.block_lt_of_cell? ws _ h)).trans h
  refine hK.out _ _ ?_ (fun hHeld => ?_)
  focus exact ⟨K7 x0, K7 x1, K7 x2, K7 x3, K7 y0, K7 y1, K7 y2, K7 y3, K7 hpc', K7 hpe', K7 hhead', K7 helem'⟩
  clear hK K
  (try simp only [Act.put, List.getElem_toArray, List.getElem_cons_succ, List.getElem_cons_zero, List.setIfInBounds_toArray, List.set_cons_zero, List.set_cons_succ])
  clear K7

  refine wpAnyH_take (i := 25) (v := ?_) rfl (by kernel_rfl) (by kernel_rfl) (by kernel_rfl) (fun _ _ _ h => h) (Or.inl ⟨by rfl, ?_⟩) (by assumption) ?_
  rotate_left
  focus
    intro w9 hSw
    (try dsimp only at hSw)
    go_simp
    (try with_reducible rfl)
  (try simp only [Act.put, List.getElem_toArray, List.getElem_cons_succ, List.getElem_cons_zero, List.setIfInBounds_toArray, List.set_cons_zero, List.set_cons_succ])

  refine wpAnyH_take (i := 26) (v := ?_) rfl (by kernel_rfl) (by kernel_rfl) (by kernel_rfl) (fun _ _ _ h => h) (Or.inl ⟨by rfl, ?_⟩) (by assumption) ?_
  rotate_left
  focus
    intro w9 hSw
    (try dsimp only at hSw)
    go_simp
    (try with_reducible rfl)
  (try simp only [Act.put, List.getElem_toArray, List.getElem_cons_succ, List.getElem_cons_zero, List.setIfInBounds_toArray, List.set_cons_zero, List.set_cons_succ])
  refine wpAnyH_done (by kernel_rfl) ?_ _
  (try simp only [Act.put, List.getElem_toArray, List.getElem_cons_succ, List.getElem_cons_zero, List.setIfInBounds_toArray, List.set_cons_zero, List.set_cons_succ])
  go_wp2
  go_ret
  exact ⟨rfl, (bb2.trans (bbw.mono bb2.size)).trans (hb7.mono (by have := bb2.size; have := bbw.size; omega))⟩
end Go.Proofs.Ytbmgnclfecejeaa.picSums
