/- HueLeast: the walk. -/
import Derived.Test.YticjiodnolngcaaHueBest
import Derived.Test.YticjiodnolngcaaHueK
set_option linter.unusedSimpArgs false
set_option linter.unusedVariables false
namespace Go.Proofs.Yticjiodnolngcaa.hueLeast
open Go.RowKit

theorem rdset4 {w : World} {B g : Nat} {k : IntKind} {A : Option Addr} {ls : List (List Int)} {v0 v1 v2 v3 : Value} {B' : Nat} (h : RdLL w B k A ls) (hB : B ≤ g) (hB' : B ≤ B') :
    RdLL ((((w.setCell ⟨g, 0, none⟩ v0).setCell ⟨g, 1, none⟩ v1).setCell ⟨g, 2, none⟩ v2).setCell ⟨g, 3, none⟩ v3) B' k A ls := by
  have hb : Below B w ((((w.setCell ⟨g, 0, none⟩ v0).setCell ⟨g, 1, none⟩ v1).setCell ⟨g, 2, none⟩ v2).setCell ⟨g, 3, none⟩ v3) :=
    Below.setCell (p := ⟨g, 3, none⟩) (Below.setCell (p := ⟨g, 2, none⟩) (Below.setCell (p := ⟨g, 1, none⟩) (Below.setCell (p := ⟨g, 0, none⟩) (Below.refl _ _) hB v0) hB v1) hB v2) hB v3
  exact RdLL.grow (RdLL.below h hb (Nat.le_refl _)) hB'
theorem rdset4' {w : World} {base g : Nat} {A : Option Addr} {n c : Nat} {ls : List (List Int)} {v0 v1 v2 v3 : Value} (h : OwnLL w base 22 3 .i64 (.slice A n c) ls) (hg : g < base) :
    RdLL ((((w.setCell ⟨g, 0, none⟩ v0).setCell ⟨g, 1, none⟩ v1).setCell ⟨g, 2, none⟩ v2).setCell ⟨g, 3, none⟩ v3) w.heap.size .i64 A ls := by
  have h2 := (((h.far (a := ⟨g, 0, none⟩) hg v0).far (a := ⟨g, 1, none⟩) hg v1).far (a := ⟨g, 2, none⟩) hg v2).far (a := ⟨g, 3, none⟩) hg v3
  have h3 := rdOwn h2 (Below.refl _ _)
  have e : ((((w.setCell ⟨g, 0, none⟩ v0).setCell ⟨g, 1, none⟩ v1).setCell ⟨g, 2, none⟩ v2).setCell ⟨g, 3, none⟩ v3).heap.size = w.heap.size := by simp [World.setCell]
  rw [e] at h3
  exact h3

set_option maxHeartbeats 8000000 in
set_option maxRecDepth 100000 in
theorem walk (w : World) (A0 : Option Addr) (c0 : Nat) (t : List Int) (ht : ∀ x ∈ t, -9223372036854775808 ≤ x ∧ x ≤ 9223372036854775807) (hc : t.length ≤ c0) (h63 : c0 ≤ 9223372036854775807) (hrt : RdI w w.heap.size .i64 A0 t) :
    Calls Try.prog 4 #[.slice A0 t.length c0] w fun e w' => e = .returned (.bool true) ∧ Below w.heap.size w w' := by
  have HK := Lib.hid (fun W => known_any W)
  have HT := Lib.hid (newtape_any A0 t c0 ht hc (by omega) w hrt (Nat.le_refl _))
  have HPic := Lib.hid (fun W (hW : TapeB W w.heap.size w.heap.size) => tapepic_any hW 16 (by omega) (by omega))
  clear ht hrt
  go_enter Try.func4, Try.ntmps4
  go_wp2_with (first
    | (go_at_call 8; go_must (refine HT.out.mono ?_); rintro e w1 ⟨rfl, hT1, hb1⟩)
    | (go_at_call 9; go_must (refine (HPic.out _ hT1).mono ?_); rintro e w2 ⟨W, H, d, p, A, c, rfl, hB, _, _, ho2, hT2, hg2⟩; have bb2 : Below w.heap.size w w2 := below_only hb1 hg2 hb1.size (Nat.le_refl _)))
  obtain ⟨b1, b2, b3, b4, b5, b6, b7, b8, b9⟩ := isB_all hB
  have hd : 1 ≤ (d : Int) ∧ (d : Int) ≤ 16 := ⟨b5, b6⟩
  have kp := Blk.new w2 27 #[.int .i64 (W : Int), .int .i64 (H : Int), .int .i64 (d : Int), .slice A p.length c]
  have bbs := below_then bb2 (below_alloc (Below.refl w2.heap.size w2) (.cells #[.int .i64 (W : Int), .int .i64 (H : Int), .int .i64 (d : Int), .slice A p.length c] 27))
  have rp := rdOwn ho2 (below_alloc (Below.refl w2.heap.size w2) (.cells #[.int .i64 (W : Int), .int .i64 (H : Int), .int .i64 (d : Int), .slice A p.length c] 27))
  have hkp := kp.lt
  generalize w2.alloc (.cells #[.int .i64 (W : Int), .int .i64 (H : Int), .int .i64 (d : Int), .slice A p.length c] 27) = ws at *
  have HBe := Lib.hid (fun W' (hb : Below ws.heap.size ws W') => best_yes (c := c) (rp.to (Nat.le_refl _) hb) (Nat.le_refl _) hB)
  have HY := Lib.hid (fun (k : Nat) (hm : mayB p.length k = true) W' (hb : Below ws.heap.size ws W') => huefore_yes (c := c) (rp.to (Nat.le_refl _) hb) (Nat.le_refl _) hB k hm)
  have HN := Lib.hid (fun (k : Nat) (hm : mayB p.length k = false) W' (hb : Below ws.heap.size ws W') => huefore_no (q := ⟨(W : Int), (H : Int), (d : Int), p⟩) (c := c) (rp.to (Nat.le_refl _) hb) (Nat.le_refl _) (by simp only; omega) k (by rw [hB, Bool.true_and]; exact hm))
  have HC : ∀ (k : Nat) (W' : World) (A' : Option Addr) (c' : Nat), RdLL W' W'.heap.size .i64 A' (hueLL (foreC k d) p (W * H)) → Calls Try.prog 15 #[.agg #[.int .i64 (W : Int), .int .i64 (H : Int), .int .i64 (d : Int), .slice A' p.length c']] W' fun e w' => e = .returned (.int .i64 (costF W H d p k)) ∧ Below W'.heap.size W' w' := fun k W' A' c' hr' => by
    have h := cost_any (c := c') hr' (Nat.le_refl _) (hueLL_isB hB (fun x hx => foreC_ok hd (k : Int) hx))
    rw [show (hueLL (foreC k d) p (W * H)).length = p.length by simp [hueLL]] at h
    exact h
  replace HC := Lib.hid HC
  obtain ⟨x0, x1, x2, x3, _⟩ := kp.four
  clear b9 hB hd HT HPic hT1 hT2 hg2 hb1 ho2 bb2
  refine wp_region_held_drew (S := (fun w' => Below ws.heap.size ws w')) (by kernel_rfl) ?_ (fun hHeld => ?_)
  focus exact (Below.refl _ _).drew
  refine wpAnyH_take (i := 0) (v := ?_) rfl (by kernel_rfl) (by kernel_rfl) (by kernel_rfl) (fun _ _ _ h => h) (Or.inl ⟨by rfl, ?_⟩) (by assumption) ?_
  rotate_left
  focus
    intro w9 hSw
    (try dsimp only at hSw)
    have zK : ∀ {a9 : Addr} {u9 : Value}, ws.cell? a9 = some u9 → w9.cell? a9 = some u9 := fun {a9} {u9} h9 => (hSw.cell (World.block_lt_of_cell? ws a9 h9)).trans h9
    have z0 := zK x0
    have z1 := zK x1
    have z2 := zK x2
    have z3 := zK x3
    clear zK hSw
    go_simp
    (try with_reducible rfl)
  (try simp only [Act.put, List.getElem_toArray, List.getElem_cons_succ, List.getElem_cons_zero, List.setIfInBounds_toArray, List.set_cons_zero, List.set_cons_succ])
  refine wpAnyH_take (i := 1) (v := ?_) rfl (by kernel_rfl) (by kernel_rfl) (by kernel_rfl) (fun _ _ _ h => h) (Or.inl ⟨by rfl, ?_⟩) (by assumption) ?_
  rotate_left
  focus
    intro w9 hSw
    (try dsimp only at hSw)
    have zK : ∀ {a9 : Addr} {u9 : Value}, ws.cell? a9 = some u9 → w9.cell? a9 = some u9 := fun {a9} {u9} h9 => (hSw.cell (World.block_lt_of_cell? ws a9 h9)).trans h9
    have z0 := zK x0
    have z1 := zK x1
    have z2 := zK x2
    have z3 := zK x3
    clear zK hSw
    go_simp
    (try with_reducible rfl)
  (try simp only [Act.put, List.getElem_toArray, List.getElem_cons_succ, List.getElem_cons_zero, List.setIfInBounds_toArray, List.set_cons_zero, List.set_cons_succ])
  refine wpAnyH_ready (rs := [2, 7]) (by kernel_rfl) (by simp) (AllReadyH.cons rfl (fun K hK => ?_) (AllReadyH.cons rfl (fun K hK => ?_) AllReadyH.nil))
  · go_simp
    go_at_call 14
    refine (HBe.out _ (Below.drew (Below.refl _ _))).mono ?_
    rintro e v1 ⟨b, rfl, hbest, hv1'⟩
    have hv1 : Below ws.heap.size ws v1 := below_undrew hv1'
    refine hK.out _ _ ?_ (fun hHeld => ?_)
    focus exact hv1
    clear hK K
    (try simp only [Act.put, List.getElem_toArray, List.getElem_cons_succ, List.getElem_cons_zero, List.setIfInBounds_toArray, List.set_cons_zero, List.set_cons_succ])
    refine wpAnyH_ready (rs := [3, 7]) (by kernel_rfl) (by simp) (AllReadyH.cons rfl (fun K hK => ?_) (AllReadyH.cons rfl (fun K hK => ?_) AllReadyH.nil))
    · go_simp
      go_at_call 11
      refine (HY.out b hbest.out.2.1 _ hv1).mono ?_
      rintro e v2 ⟨A2, c2, rfl, ho2, hv2'⟩
      have hv2 : Below ws.heap.size ws v2 := below_then hv1 hv2'
      refine hK.out _ _ ?_ (fun hHeld => ?_)
      focus exact hv2
      clear hK K
      (try simp only [Act.put, List.getElem_toArray, List.getElem_cons_succ, List.getElem_cons_zero, List.setIfInBounds_toArray, List.set_cons_zero, List.set_cons_succ])
      refine wpAnyH_take (i := 4) (v := ?_) rfl (by kernel_rfl) (by kernel_rfl) (by kernel_rfl) (fun _ _ _ h => h) (Or.inl ⟨by rfl, ?_⟩) (by assumption) ?_
      rotate_left
      focus
        intro w9 hSw
        (try dsimp only at hSw)
        have zK : ∀ {a9 : Addr} {u9 : Value}, ws.cell? a9 = some u9 → w9.cell? a9 = some u9 := fun {a9} {u9} h9 => (hSw.cell (World.block_lt_of_cell? ws a9 h9)).trans h9
        have z0 := zK x0
        have z1 := zK x1
        have z2 := zK x2
        have z3 := zK x3
        clear zK hSw
        go_simp
        (try with_reducible rfl)
      (try simp only [Act.put, List.getElem_toArray, List.getElem_cons_succ, List.getElem_cons_zero, List.setIfInBounds_toArray, List.set_cons_zero, List.set_cons_succ])
      refine wpAnyH_take (i := 5) (v := ?_) rfl (by kernel_rfl) (by kernel_rfl) (by kernel_rfl) (fun _ _ _ h => h) (Or.inl ⟨by rfl, ?_⟩) (by assumption) ?_
      rotate_left
      focus
        intro w9 hSw
        (try dsimp only at hSw)
        have zK : ∀ {a9 : Addr} {u9 : Value}, ws.cell? a9 = some u9 → w9.cell? a9 = some u9 := fun {a9} {u9} h9 => (hSw.cell (World.block_lt_of_cell? ws a9 h9)).trans h9
        have z0 := zK x0
        have z1 := zK x1
        have z2 := zK x2
        have z3 := zK x3
        clear zK hSw
        go_simp
        (try with_reducible rfl)
      (try simp only [Act.put, List.getElem_toArray, List.getElem_cons_succ, List.getElem_cons_zero, List.setIfInBounds_toArray, List.set_cons_zero, List.set_cons_succ])
      refine wpAnyH_take (i := 6) (v := ?_) rfl (by kernel_rfl) (by kernel_rfl) (by kernel_rfl) (fun _ _ _ h => h) (Or.inl ⟨by rfl, ?_⟩) (by assumption) ?_
      rotate_left
      focus
        intro w9 hSw
        (try dsimp only at hSw)
        have zK : ∀ {a9 : Addr} {u9 : Value}, ws.cell? a9 = some u9 → w9.cell? a9 = some u9 := fun {a9} {u9} h9 => (hSw.cell (World.block_lt_of_cell? ws a9 h9)).trans h9
        have z0 := zK x0
        have z1 := zK x1
        have z2 := zK x2
        have z3 := zK x3
        clear zK hSw
        go_simp
        (try with_reducible rfl)
      (try simp only [Act.put, List.getElem_toArray, List.getElem_cons_succ, List.getElem_cons_zero, List.setIfInBounds_toArray, List.set_cons_zero, List.set_cons_succ])
      refine wpAnyH_ready (rs := [7]) (by kernel_rfl) (by simp) (AllReadyH.cons rfl (fun K hK => ?_) AllReadyH.nil)
      go_simp
      refine hK.out _ _ ?_ (fun hHeld => ?_)
      focus exact hv2.alloc hv2.size _
      clear hK K
      (try simp only [Act.put, List.getElem_toArray, List.getElem_cons_succ, List.getElem_cons_zero, List.setIfInBounds_toArray, List.set_cons_zero, List.set_cons_succ])
      have k4 := Blk.new v2 27 #[.int .i64 0, .int .i64 0, .int .i64 0, .slice none 0 0]
      have hgg : ws.heap.size ≤ v2.heap.size := hv2.size
      refine wpAnyH_ready (rs := [8]) (by kernel_rfl) (by simp) (AllReadyH.cons rfl (fun K hK => ?_) AllReadyH.nil)
      obtain ⟨e0, e1, e2, e3, f0, f1, f2, f3⟩ := k4.four
      go_simp
      have kz := Blk.new v2 27 #[.int .i64 (W : Int), .int .i64 (H : Int), .int .i64 (d : Int), .slice A2 p.length c2]
      have bz := hv2.alloc hv2.size (.cells #[.int .i64 (W : Int), .int .i64 (H : Int), .int .i64 (d : Int), .slice A2 p.length c2] 27)
      have rz := rdOwn ho2 (below_alloc (Below.refl v2.heap.size v2) (.cells #[.int .i64 (W : Int), .int .i64 (H : Int), .int .i64 (d : Int), .slice A2 p.length c2] 27))
      have hszz : (v2.alloc (.cells #[.int .i64 (W : Int), .int .i64 (H : Int), .int .i64 (d : Int), .slice A2 p.length c2] 27)).heap.size ≤ (v2.alloc (.cells #[.int .i64 (W : Int), .int .i64 (H : Int), .int .i64 (d : Int), .slice A2 p.length c2] 27)).heap.size := Nat.le_refl _
      generalize v2.alloc (.cells #[.int .i64 (W : Int), .int .i64 (H : Int), .int .i64 (d : Int), .slice A2 p.length c2] 27) = wz at *
      refine hK.out _ _ ?_ (fun hHeld => ?_)
      focus exact bz
      clear hK K
      (try simp only [Act.put, List.getElem_toArray, List.getElem_cons_succ, List.getElem_cons_zero, List.setIfInBounds_toArray, List.set_cons_zero, List.set_cons_succ])
      clear e0 e1 e2 e3 f0 f1 f2 f3
      refine wpAnyH_take (i := 9) (v := ?_) rfl (by kernel_rfl) (by kernel_rfl) (by kernel_rfl) (fun _ _ _ h => h) (Or.inl ⟨by rfl, ?_⟩) (by assumption) ?_
      rotate_left
      focus
        intro w9 hSw
        (try dsimp only at hSw)
        have zK : ∀ {a9 : Addr} {u9 : Value}, ws.cell? a9 = some u9 → w9.cell? a9 = some u9 := fun {a9} {u9} h9 => (hSw.cell (World.block_lt_of_cell? ws a9 h9)).trans h9
        have z0 := zK x0
        have z1 := zK x1
        have z2 := zK x2
        have z3 := zK x3
        clear zK hSw
        go_simp
        (try with_reducible rfl)
      (try simp only [Act.put, List.getElem_toArray, List.getElem_cons_succ, List.getElem_cons_zero, List.setIfInBounds_toArray, List.set_cons_zero, List.set_cons_succ])
      refine wpAnyH_done (by kernel_rfl) ?_ _
      (try simp only [Act.put, List.getElem_toArray, List.getElem_cons_succ, List.getElem_cons_zero, List.setIfInBounds_toArray, List.set_cons_zero, List.set_cons_succ])
      have rz' := RdLL.grow rz hszz
      have kpz := kp.below bz hkp
      clear k4 hHeld hv1 hv2 hv1' hv2' ho2 rz hszz x0 x1 x2 x3 HBe
      go_wp2
      have hbw := bbs.trans (bz.mono bbs.size)
      go_loopw [6] (fun i wr => ∃ k : Nat, k ≤ 5 ∧ i = .int .i64 k ∧ Below wz.heap.size wz wr) (fun i _ => 5 - (intOf i).toNat)
      case atStart => exact ⟨0, by omega, rfl, Below.refl _ _⟩
      case round =>
        obtain ⟨k, hk, rfl, hbr⟩ := hrel
        obtain ⟨x0, x1, x2, x3, _⟩ := (kpz.below hbr (Nat.lt_of_lt_of_le hkp bz.size)).four
        by_cases hk5 : k < 5
        · have hk6 : (k : Int) ≤ 4 := by omega
          have hbr2 := bz.trans (hbr.mono bz.size)
          cases hm : mayB p.length k
          · have HN1 := Lib.hid (HN.out k hm)
            clear hm
            go_wp2_with (first
              | (go_at_call 11; go_must (refine (HN1.out _ hbr2).mono ?_); rintro e u1 ⟨rfl, hu1⟩))
            have hbn := (below_then hbr hu1).alloc (below_then hbr hu1).size (.cells #[.int .i64 0, .int .i64 0, .int .i64 0, .slice none 0 0] 27)
            obtain ⟨y0, y1, y2, y3, _⟩ := (kpz.below hbn (Nat.lt_of_lt_of_le hkp bz.size)).four
            generalize u1.alloc (.cells #[.int .i64 0, .int .i64 0, .int .i64 0, .slice none 0 0] 27) = wy at *
            clear x0 x1 x2 x3
            obtain ⟨hz9, _⟩ := kz.four
            refine wp_region_held_drew (S := (fun w' => Below wz.heap.size wz w')) (by kernel_rfl) ?_ (fun hHeld => ?_)
            focus exact hbn.drew
            refine wpAnyH_take (i := 0) (v := ?_) rfl (by kernel_rfl) (by kernel_rfl) (by kernel_rfl) (fun _ _ _ h => h) (Or.inl ⟨by rfl, ?_⟩) (by assumption) ?_
            rotate_left
            focus
              intro w9 hSw
              (try dsimp only at hSw)
              have zK : ∀ {a9 : Addr} {u9 : Value}, wz.cell? a9 = some u9 → w9.cell? a9 = some u9 := fun {a9} {u9} h9 => (hSw.cell (World.block_lt_of_cell? wz a9 h9)).trans h9
              have z0 := zK hz9
              clear zK hSw
              go_simp
              (try with_reducible rfl)
            (try simp only [Act.put, List.getElem_toArray, List.getElem_cons_succ, List.getElem_cons_zero, List.setIfInBounds_toArray, List.set_cons_zero, List.set_cons_succ])
            refine wpAnyH_take (i := 1) (v := ?_) rfl (by kernel_rfl) (by kernel_rfl) (by kernel_rfl) (fun _ _ _ h => h) (Or.inl ⟨by rfl, ?_⟩) (by assumption) ?_
            rotate_left
            focus
              intro w9 hSw
              (try dsimp only at hSw)
              have zK : ∀ {a9 : Addr} {u9 : Value}, wz.cell? a9 = some u9 → w9.cell? a9 = some u9 := fun {a9} {u9} h9 => (hSw.cell (World.block_lt_of_cell? wz a9 h9)).trans h9
              have z0 := zK hz9
              clear zK hSw
              go_simp
              (try with_reducible rfl)
            (try simp only [Act.put, List.getElem_toArray, List.getElem_cons_succ, List.getElem_cons_zero, List.setIfInBounds_toArray, List.set_cons_zero, List.set_cons_succ])
            refine wpAnyH_take (i := 2) (v := ?_) rfl (by kernel_rfl) (by kernel_rfl) (by kernel_rfl) (fun _ _ _ h => h) (Or.inl ⟨by rfl, ?_⟩) (by assumption) ?_
            rotate_left
            focus
              intro w9 hSw
              (try dsimp only at hSw)
              have zK : ∀ {a9 : Addr} {u9 : Value}, wz.cell? a9 = some u9 → w9.cell? a9 = some u9 := fun {a9} {u9} h9 => (hSw.cell (World.block_lt_of_cell? wz a9 h9)).trans h9
              have z0 := zK hz9
              clear zK hSw
              go_simp
              (try with_reducible rfl)
            (try simp only [Act.put, List.getElem_toArray, List.getElem_cons_succ, List.getElem_cons_zero, List.setIfInBounds_toArray, List.set_cons_zero, List.set_cons_succ])
            refine wpAnyH_take (i := 3) (v := undef) rfl (by kernel_rfl) (by kernel_rfl) (by kernel_rfl) (fun _ _ _ h => h) (Or.inr ⟨by rfl, rfl⟩) (by assumption) ?_
            (try simp only [Act.put, List.getElem_toArray, List.getElem_cons_succ, List.getElem_cons_zero, List.setIfInBounds_toArray, List.set_cons_zero, List.set_cons_succ])
            refine wpAnyH_take (i := 4) (v := undef) rfl (by kernel_rfl) (by kernel_rfl) (by kernel_rfl) (fun _ _ _ h => h) (Or.inr ⟨by rfl, rfl⟩) (by assumption) ?_
            (try simp only [Act.put, List.getElem_toArray, List.getElem_cons_succ, List.getElem_cons_zero, List.setIfInBounds_toArray, List.set_cons_zero, List.set_cons_succ])
            refine wpAnyH_take (i := 5) (v := undef) rfl (by kernel_rfl) (by kernel_rfl) (by kernel_rfl) (fun _ _ _ h => h) (Or.inr ⟨by rfl, rfl⟩) (by assumption) ?_
            (try simp only [Act.put, List.getElem_toArray, List.getElem_cons_succ, List.getElem_cons_zero, List.setIfInBounds_toArray, List.set_cons_zero, List.set_cons_succ])
            refine wpAnyH_take (i := 6) (v := undef) rfl (by kernel_rfl) (by kernel_rfl) (by kernel_rfl) (fun _ _ _ h => h) (Or.inr ⟨by rfl, rfl⟩) (by assumption) ?_
            (try simp only [Act.put, List.getElem_toArray, List.getElem_cons_succ, List.getElem_cons_zero, List.setIfInBounds_toArray, List.set_cons_zero, List.set_cons_succ])
            refine wpAnyH_take (i := 7) (v := undef) rfl (by kernel_rfl) (by kernel_rfl) (by kernel_rfl) (fun _ _ _ h => h) (Or.inr ⟨by rfl, rfl⟩) (by assumption) ?_
            (try simp only [Act.put, List.getElem_toArray, List.getElem_cons_succ, List.getElem_cons_zero, List.setIfInBounds_toArray, List.set_cons_zero, List.set_cons_succ])
            refine wpAnyH_take (i := 8) (v := ?_) rfl (by kernel_rfl) (by kernel_rfl) (by kernel_rfl) (fun _ _ _ h => h) (Or.inl ⟨by rfl, ?_⟩) (by assumption) ?_
            rotate_left
            focus
              intro w9 hSw
              (try dsimp only at hSw)
              have zK : ∀ {a9 : Addr} {u9 : Value}, wz.cell? a9 = some u9 → w9.cell? a9 = some u9 := fun {a9} {u9} h9 => (hSw.cell (World.block_lt_of_cell? wz a9 h9)).trans h9
              have z0 := zK hz9
              clear zK hSw
              go_simp
              (try with_reducible rfl)
            (try simp only [Act.put, List.getElem_toArray, List.getElem_cons_succ, List.getElem_cons_zero, List.setIfInBounds_toArray, List.set_cons_zero, List.set_cons_succ])
            refine wpAnyH_done (by kernel_rfl) ?_ _
            (try simp only [Act.put, List.getElem_toArray, List.getElem_cons_succ, List.getElem_cons_zero, List.setIfInBounds_toArray, List.set_cons_zero, List.set_cons_succ])
            go_wp2
            go_roundw
            case rel => exact ⟨k + 1, by omega, by go_num, hbn.drew⟩
            case measure => simp [intOf]; omega
          · have HY1 := Lib.hid (HY.out k hm)
            have hcost := hbest.out.2.2.1 k hk5 hm
            have hnl : decide (costF W H d p k < costF W H d p b) = false := by simp; exact hcost
            have HC1 := Lib.hid (HC.out k)
            have HC2 := Lib.hid (HC.out b)
            have hbst := hbest.out
            clear hbest hbst
            generalize costF W H d p k = ck at *
            generalize costF W H d p b = cb at *
            clear hm
            go_wp2_with (first
              | (go_at_call 11; go_must (refine (HY1.out _ hbr2).mono ?_); rintro e u1 ⟨A5, c5, rfl, ho5, hu1⟩))
            have hbn := (below_then hbr hu1).alloc (below_then hbr hu1).size (.cells #[.int .i64 (W : Int), .int .i64 (H : Int), .int .i64 (d : Int), .slice A5 p.length c5] 27)
            have k5 := Blk.new u1 27 #[.int .i64 (W : Int), .int .i64 (H : Int), .int .i64 (d : Int), .slice A5 p.length c5]
            have r5 := rdOwn ho5 (below_alloc (Below.refl u1.heap.size u1) (.cells #[.int .i64 (W : Int), .int .i64 (H : Int), .int .i64 (d : Int), .slice A5 p.length c5] 27))
            generalize u1.alloc (.cells #[.int .i64 (W : Int), .int .i64 (H : Int), .int .i64 (d : Int), .slice A5 p.length c5] 27) = wy at *
            clear x0 x1 x2 x3
            have k4y := kz.below hbn kz.lt
            obtain ⟨x0, x1, x2, x3, _⟩ := k5.four
            obtain ⟨y0, y1, y2, y3, _⟩ := k4y.four
            have r4y := rz'.to (Nat.le_refl _) hbn
            refine wp_region_held_drew (S := (fun w' => Below wy.heap.size wy w')) (by kernel_rfl) ?_ (fun hHeld => ?_)
            focus exact (Below.refl _ _).drew
            refine wpAnyH_take (i := 0) (v := ?_) rfl (by kernel_rfl) (by kernel_rfl) (by kernel_rfl) (fun _ _ _ h => h) (Or.inl ⟨by rfl, ?_⟩) (by assumption) ?_
            rotate_left
            focus
              intro w9 hSw
              (try dsimp only at hSw)
              have zK : ∀ {a9 : Addr} {u9 : Value}, wy.cell? a9 = some u9 → w9.cell? a9 = some u9 := fun {a9} {u9} h9 => (hSw.cell (World.block_lt_of_cell? wy a9 h9)).trans h9
              have z0 := zK x0
              have z1 := zK x1
              have z2 := zK x2
              have z3 := zK x3
              have z4 := zK y0
              have z5 := zK y1
              have z6 := zK y2
              have z7 := zK y3
              clear zK hSw
              go_simp
              (try with_reducible rfl)
            (try simp only [Act.put, List.getElem_toArray, List.getElem_cons_succ, List.getElem_cons_zero, List.setIfInBounds_toArray, List.set_cons_zero, List.set_cons_succ])
            refine wpAnyH_take (i := 1) (v := ?_) rfl (by kernel_rfl) (by kernel_rfl) (by kernel_rfl) (fun _ _ _ h => h) (Or.inl ⟨by rfl, ?_⟩) (by assumption) ?_
            rotate_left
            focus
              intro w9 hSw
              (try dsimp only at hSw)
              have zK : ∀ {a9 : Addr} {u9 : Value}, wy.cell? a9 = some u9 → w9.cell? a9 = some u9 := fun {a9} {u9} h9 => (hSw.cell (World.block_lt_of_cell? wy a9 h9)).trans h9
              have z0 := zK x0
              have z1 := zK x1
              have z2 := zK x2
              have z3 := zK x3
              have z4 := zK y0
              have z5 := zK y1
              have z6 := zK y2
              have z7 := zK y3
              clear zK hSw
              go_simp
              (try with_reducible rfl)
            (try simp only [Act.put, List.getElem_toArray, List.getElem_cons_succ, List.getElem_cons_zero, List.setIfInBounds_toArray, List.set_cons_zero, List.set_cons_succ])
            refine wpAnyH_take (i := 2) (v := ?_) rfl (by kernel_rfl) (by kernel_rfl) (by kernel_rfl) (fun _ _ _ h => h) (Or.inl ⟨by rfl, ?_⟩) (by assumption) ?_
            rotate_left
            focus
              intro w9 hSw
              (try dsimp only at hSw)
              have zK : ∀ {a9 : Addr} {u9 : Value}, wy.cell? a9 = some u9 → w9.cell? a9 = some u9 := fun {a9} {u9} h9 => (hSw.cell (World.block_lt_of_cell? wy a9 h9)).trans h9
              have z0 := zK x0
              have z1 := zK x1
              have z2 := zK x2
              have z3 := zK x3
              have z4 := zK y0
              have z5 := zK y1
              have z6 := zK y2
              have z7 := zK y3
              clear zK hSw
              go_simp
              (try with_reducible rfl)
            (try simp only [Act.put, List.getElem_toArray, List.getElem_cons_succ, List.getElem_cons_zero, List.setIfInBounds_toArray, List.set_cons_zero, List.set_cons_succ])
            refine wpAnyH_take (i := 3) (v := ?_) rfl (by kernel_rfl) (by kernel_rfl) (by kernel_rfl) (fun _ _ _ h => h) (Or.inl ⟨by rfl, ?_⟩) (by assumption) ?_
            rotate_left
            focus
              intro w9 hSw
              (try dsimp only at hSw)
              have zK : ∀ {a9 : Addr} {u9 : Value}, wy.cell? a9 = some u9 → w9.cell? a9 = some u9 := fun {a9} {u9} h9 => (hSw.cell (World.block_lt_of_cell? wy a9 h9)).trans h9
              have z0 := zK x0
              have z1 := zK x1
              have z2 := zK x2
              have z3 := zK x3
              have z4 := zK y0
              have z5 := zK y1
              have z6 := zK y2
              have z7 := zK y3
              clear zK hSw
              go_simp
              (try with_reducible rfl)
            (try simp only [Act.put, List.getElem_toArray, List.getElem_cons_succ, List.getElem_cons_zero, List.setIfInBounds_toArray, List.set_cons_zero, List.set_cons_succ])
            refine wpAnyH_take (i := 5) (v := ?_) rfl (by kernel_rfl) (by kernel_rfl) (by kernel_rfl) (fun _ _ _ h => h) (Or.inl ⟨by rfl, ?_⟩) (by assumption) ?_
            rotate_left
            focus
              intro w9 hSw
              (try dsimp only at hSw)
              have zK : ∀ {a9 : Addr} {u9 : Value}, wy.cell? a9 = some u9 → w9.cell? a9 = some u9 := fun {a9} {u9} h9 => (hSw.cell (World.block_lt_of_cell? wy a9 h9)).trans h9
              have z0 := zK x0
              have z1 := zK x1
              have z2 := zK x2
              have z3 := zK x3
              have z4 := zK y0
              have z5 := zK y1
              have z6 := zK y2
              have z7 := zK y3
              clear zK hSw
              go_simp
              (try with_reducible rfl)
            (try simp only [Act.put, List.getElem_toArray, List.getElem_cons_succ, List.getElem_cons_zero, List.setIfInBounds_toArray, List.set_cons_zero, List.set_cons_succ])
            refine wpAnyH_ready (rs := [4]) (by kernel_rfl) (by simp) (AllReadyH.cons rfl (fun K hK => ?_) AllReadyH.nil)
            go_simp
            go_at_call 15
            refine (HC1.out _ _ _ (r5.to (Nat.le_refl _) (Below.drew (Below.refl _ _)))).mono ?_
            rintro e u2 ⟨rfl, hu2'⟩
            have hu2 := below_undrew hu2'
            clear hu2'
            refine hK.out _ _ ?_ (fun hHeld => ?_)
            focus exact hu2
            clear hK K
            (try simp only [Act.put, List.getElem_toArray, List.getElem_cons_succ, List.getElem_cons_zero, List.setIfInBounds_toArray, List.set_cons_zero, List.set_cons_succ])
            refine wpAnyH_ready (rs := [6]) (by kernel_rfl) (by simp) (AllReadyH.cons rfl (fun K hK => ?_) AllReadyH.nil)
            go_simp
            go_at_call 15
            refine (HC2.out _ _ _ (r4y.to (Nat.le_refl _) hu2)).mono ?_
            rintro e u3 ⟨rfl, hu3'⟩
            have hu3 := below_then hu2 hu3'
            refine hK.out _ _ ?_ (fun hHeld => ?_)
            focus exact hu3
            clear hK K
            (try simp only [Act.put, List.getElem_toArray, List.getElem_cons_succ, List.getElem_cons_zero, List.setIfInBounds_toArray, List.set_cons_zero, List.set_cons_succ])
            refine wpAnyH_take (i := 7) (v := ?_) rfl (by kernel_rfl) (by kernel_rfl) (by kernel_rfl) (fun _ _ _ h => h) (Or.inl ⟨by rfl, ?_⟩) (by assumption) ?_
            rotate_left
            focus
              intro w9 hSw
              (try dsimp only at hSw)
              have zK : ∀ {a9 : Addr} {u9 : Value}, wy.cell? a9 = some u9 → w9.cell? a9 = some u9 := fun {a9} {u9} h9 => (hSw.cell (World.block_lt_of_cell? wy a9 h9)).trans h9
              have z0 := zK x0
              have z1 := zK x1
              have z2 := zK x2
              have z3 := zK x3
              clear zK hSw
              go_simp
              (try with_reducible rfl)
            (try simp only [Act.put, List.getElem_toArray, List.getElem_cons_succ, List.getElem_cons_zero, List.setIfInBounds_toArray, List.set_cons_zero, List.set_cons_succ])
            refine wpAnyH_take (i := 8) (v := ?_) rfl (by kernel_rfl) (by kernel_rfl) (by kernel_rfl) (fun _ _ _ h => h) (Or.inl ⟨by rfl, ?_⟩) (by assumption) ?_
            rotate_left
            focus
              intro w9 hSw
              (try dsimp only at hSw)
              have zK : ∀ {a9 : Addr} {u9 : Value}, wy.cell? a9 = some u9 → w9.cell? a9 = some u9 := fun {a9} {u9} h9 => (hSw.cell (World.block_lt_of_cell? wy a9 h9)).trans h9
              have z0 := zK x0
              have z1 := zK x1
              have z2 := zK x2
              have z3 := zK x3
              clear zK hSw
              go_simp
              (try with_reducible rfl)
            (try simp only [Act.put, List.getElem_toArray, List.getElem_cons_succ, List.getElem_cons_zero, List.setIfInBounds_toArray, List.set_cons_zero, List.set_cons_succ])
            refine wpAnyH_done (by kernel_rfl) ?_ _
            (try simp only [Act.put, List.getElem_toArray, List.getElem_cons_succ, List.getElem_cons_zero, List.setIfInBounds_toArray, List.set_cons_zero, List.set_cons_succ])
            have hbf := hbn.trans (hu3.mono hbn.size)
            go_wp2
            go_roundw
            case rel => exact ⟨k + 1, by omega, by go_num, hbf⟩
            case measure => simp [intOf]; omega
        · obtain rfl : k = 5 := by omega
          go_wp2_with (first
            | (go_at_call 13; go_must (refine (HK.out _).mono ?_); rintro e w9 ⟨rfl, hb9⟩))
          go_ret
          exact ⟨rfl, below_then (hbw.trans (hbr.mono hbw.size)) hb9⟩
    · go_simp
      refine hK.out _ _ ?_ (fun hHeld => ?_)
      focus exact hv1.alloc hv1.size _
      clear hK K
      (try simp only [Act.put, List.getElem_toArray, List.getElem_cons_succ, List.getElem_cons_zero, List.setIfInBounds_toArray, List.set_cons_zero, List.set_cons_succ])
      have k4 := Blk.new v1 27 #[.int .i64 0, .int .i64 0, .int .i64 0, .slice none 0 0]
      have hgg : ws.heap.size ≤ v1.heap.size := hv1.size
      have hv1b := hv1.alloc hv1.size (.cells #[.int .i64 0, .int .i64 0, .int .i64 0, .slice none 0 0] 27)
      refine wpAnyH_ready (rs := [3]) (by kernel_rfl) (by simp) (AllReadyH.cons rfl (fun K hK => ?_) AllReadyH.nil)
      go_simp
      go_at_call 11
      refine (HY.out b hbest.out.2.1 _ hv1b).mono ?_
      rintro e v2 ⟨A2, c2, rfl, ho2, hv2'⟩
      have hv2 : Below ws.heap.size ws v2 := below_then hv1b hv2'
      refine hK.out _ _ ?_ (fun hHeld => ?_)
      focus exact hv2
      clear hK K
      (try simp only [Act.put, List.getElem_toArray, List.getElem_cons_succ, List.getElem_cons_zero, List.setIfInBounds_toArray, List.set_cons_zero, List.set_cons_succ])
      replace k4 := k4.below hv2' k4.lt
      refine wpAnyH_take (i := 4) (v := ?_) rfl (by kernel_rfl) (by kernel_rfl) (by kernel_rfl) (fun _ _ _ h => h) (Or.inl ⟨by rfl, ?_⟩) (by assumption) ?_
      rotate_left
      focus
        intro w9 hSw
        (try dsimp only at hSw)
        have zK : ∀ {a9 : Addr} {u9 : Value}, ws.cell? a9 = some u9 → w9.cell? a9 = some u9 := fun {a9} {u9} h9 => (hSw.cell (World.block_lt_of_cell? ws a9 h9)).trans h9
        have z0 := zK x0
        have z1 := zK x1
        have z2 := zK x2
        have z3 := zK x3
        clear zK hSw
        go_simp
        (try with_reducible rfl)
      (try simp only [Act.put, List.getElem_toArray, List.getElem_cons_succ, List.getElem_cons_zero, List.setIfInBounds_toArray, List.set_cons_zero, List.set_cons_succ])
      refine wpAnyH_take (i := 5) (v := ?_) rfl (by kernel_rfl) (by kernel_rfl) (by kernel_rfl) (fun _ _ _ h => h) (Or.inl ⟨by rfl, ?_⟩) (by assumption) ?_
      rotate_left
      focus
        intro w9 hSw
        (try dsimp only at hSw)
        have zK : ∀ {a9 : Addr} {u9 : Value}, ws.cell? a9 = some u9 → w9.cell? a9 = some u9 := fun {a9} {u9} h9 => (hSw.cell (World.block_lt_of_cell? ws a9 h9)).trans h9
        have z0 := zK x0
        have z1 := zK x1
        have z2 := zK x2
        have z3 := zK x3
        clear zK hSw
        go_simp
        (try with_reducible rfl)
      (try simp only [Act.put, List.getElem_toArray, List.getElem_cons_succ, List.getElem_cons_zero, List.setIfInBounds_toArray, List.set_cons_zero, List.set_cons_succ])
      refine wpAnyH_take (i := 6) (v := ?_) rfl (by kernel_rfl) (by kernel_rfl) (by kernel_rfl) (fun _ _ _ h => h) (Or.inl ⟨by rfl, ?_⟩) (by assumption) ?_
      rotate_left
      focus
        intro w9 hSw
        (try dsimp only at hSw)
        have zK : ∀ {a9 : Addr} {u9 : Value}, ws.cell? a9 = some u9 → w9.cell? a9 = some u9 := fun {a9} {u9} h9 => (hSw.cell (World.block_lt_of_cell? ws a9 h9)).trans h9
        have z0 := zK x0
        have z1 := zK x1
        have z2 := zK x2
        have z3 := zK x3
        clear zK hSw
        go_simp
        (try with_reducible rfl)
      (try simp only [Act.put, List.getElem_toArray, List.getElem_cons_succ, List.getElem_cons_zero, List.setIfInBounds_toArray, List.set_cons_zero, List.set_cons_succ])
      refine wpAnyH_ready (rs := [8]) (by kernel_rfl) (by simp) (AllReadyH.cons rfl (fun K hK => ?_) AllReadyH.nil)
      obtain ⟨e0, e1, e2, e3, f0, f1, f2, f3⟩ := k4.four
      go_simp
      have kz : Blk ((((v2.setCell ⟨v1.heap.size, 0, none⟩ (.int .i64 (W : Int))).setCell ⟨v1.heap.size, 1, none⟩ (.int .i64 (H : Int))).setCell ⟨v1.heap.size, 2, none⟩ (.int .i64 (d : Int))).setCell ⟨v1.heap.size, 3, none⟩ (.slice A2 p.length c2)) v1.heap.size 27 #[.int .i64 (W : Int), .int .i64 (H : Int), .int .i64 (d : Int), .slice A2 p.length c2] := by simpa using (((k4.set_ 0 (.int .i64 (W : Int))).set_ 1 (.int .i64 (H : Int))).set_ 2 (.int .i64 (d : Int))).set_ 3 (.slice A2 p.length c2)
      have bz : Below ws.heap.size ws ((((v2.setCell ⟨v1.heap.size, 0, none⟩ (.int .i64 (W : Int))).setCell ⟨v1.heap.size, 1, none⟩ (.int .i64 (H : Int))).setCell ⟨v1.heap.size, 2, none⟩ (.int .i64 (d : Int))).setCell ⟨v1.heap.size, 3, none⟩ (.slice A2 p.length c2)) :=
        Below.setCell (p := ⟨v1.heap.size, 3, none⟩) (Below.setCell (p := ⟨v1.heap.size, 2, none⟩) (Below.setCell (p := ⟨v1.heap.size, 1, none⟩) (Below.setCell (p := ⟨v1.heap.size, 0, none⟩) hv2 hgg (.int .i64 (W : Int))) hgg (.int .i64 (H : Int))) hgg (.int .i64 (d : Int))) hgg (.slice A2 p.length c2)
      have rz : RdLL ((((v2.setCell ⟨v1.heap.size, 0, none⟩ (.int .i64 (W : Int))).setCell ⟨v1.heap.size, 1, none⟩ (.int .i64 (H : Int))).setCell ⟨v1.heap.size, 2, none⟩ (.int .i64 (d : Int))).setCell ⟨v1.heap.size, 3, none⟩ (.slice A2 p.length c2)) v2.heap.size .i64 A2 (hueLL (foreC b d) p (W * H)) := rdset4' ho2 (by simp)
      have hszz : v2.heap.size ≤ ((((v2.setCell ⟨v1.heap.size, 0, none⟩ (.int .i64 (W : Int))).setCell ⟨v1.heap.size, 1, none⟩ (.int .i64 (H : Int))).setCell ⟨v1.heap.size, 2, none⟩ (.int .i64 (d : Int))).setCell ⟨v1.heap.size, 3, none⟩ (.slice A2 p.length c2)).heap.size := by simp [World.setCell]
      generalize (((v2.setCell ⟨v1.heap.size, 0, none⟩ (.int .i64 (W : Int))).setCell ⟨v1.heap.size, 1, none⟩ (.int .i64 (H : Int))).setCell ⟨v1.heap.size, 2, none⟩ (.int .i64 (d : Int))).setCell ⟨v1.heap.size, 3, none⟩ (.slice A2 p.length c2) = wz at *
      refine hK.out _ _ ?_ (fun hHeld => ?_)
      focus exact bz
      clear hK K
      (try simp only [Act.put, List.getElem_toArray, List.getElem_cons_succ, List.getElem_cons_zero, List.setIfInBounds_toArray, List.set_cons_zero, List.set_cons_succ])
      clear e0 e1 e2 e3 f0 f1 f2 f3
      refine wpAnyH_take (i := 9) (v := ?_) rfl (by kernel_rfl) (by kernel_rfl) (by kernel_rfl) (fun _ _ _ h => h) (Or.inl ⟨by rfl, ?_⟩) (by assumption) ?_
      rotate_left
      focus
        intro w9 hSw
        (try dsimp only at hSw)
        have zK : ∀ {a9 : Addr} {u9 : Value}, ws.cell? a9 = some u9 → w9.cell? a9 = some u9 := fun {a9} {u9} h9 => (hSw.cell (World.block_lt_of_cell? ws a9 h9)).trans h9
        have z0 := zK x0
        have z1 := zK x1
        have z2 := zK x2
        have z3 := zK x3
        clear zK hSw
        go_simp
        (try with_reducible rfl)
      (try simp only [Act.put, List.getElem_toArray, List.getElem_cons_succ, List.getElem_cons_zero, List.setIfInBounds_toArray, List.set_cons_zero, List.set_cons_succ])
      refine wpAnyH_done (by kernel_rfl) ?_ _
      (try simp only [Act.put, List.getElem_toArray, List.getElem_cons_succ, List.getElem_cons_zero, List.setIfInBounds_toArray, List.set_cons_zero, List.set_cons_succ])
      have rz' := RdLL.grow rz hszz
      have kpz := kp.below bz hkp
      clear k4 hHeld hv1 hv2 hv1' hv2' ho2 rz hszz x0 x1 x2 x3 HBe
      go_wp2
      have hbw := bbs.trans (bz.mono bbs.size)
      go_loopw [6] (fun i wr => ∃ k : Nat, k ≤ 5 ∧ i = .int .i64 k ∧ Below wz.heap.size wz wr) (fun i _ => 5 - (intOf i).toNat)
      case atStart => exact ⟨0, by omega, rfl, Below.refl _ _⟩
      case round =>
        obtain ⟨k, hk, rfl, hbr⟩ := hrel
        obtain ⟨x0, x1, x2, x3, _⟩ := (kpz.below hbr (Nat.lt_of_lt_of_le hkp bz.size)).four
        by_cases hk5 : k < 5
        · have hk6 : (k : Int) ≤ 4 := by omega
          have hbr2 := bz.trans (hbr.mono bz.size)
          cases hm : mayB p.length k
          · have HN1 := Lib.hid (HN.out k hm)
            clear hm
            go_wp2_with (first
              | (go_at_call 11; go_must (refine (HN1.out _ hbr2).mono ?_); rintro e u1 ⟨rfl, hu1⟩))
            have hbn := (below_then hbr hu1).alloc (below_then hbr hu1).size (.cells #[.int .i64 0, .int .i64 0, .int .i64 0, .slice none 0 0] 27)
            obtain ⟨y0, y1, y2, y3, _⟩ := (kpz.below hbn (Nat.lt_of_lt_of_le hkp bz.size)).four
            generalize u1.alloc (.cells #[.int .i64 0, .int .i64 0, .int .i64 0, .slice none 0 0] 27) = wy at *
            clear x0 x1 x2 x3
            obtain ⟨hz9, _⟩ := kz.four
            refine wp_region_held_drew (S := (fun w' => Below wz.heap.size wz w')) (by kernel_rfl) ?_ (fun hHeld => ?_)
            focus exact hbn.drew
            refine wpAnyH_take (i := 0) (v := ?_) rfl (by kernel_rfl) (by kernel_rfl) (by kernel_rfl) (fun _ _ _ h => h) (Or.inl ⟨by rfl, ?_⟩) (by assumption) ?_
            rotate_left
            focus
              intro w9 hSw
              (try dsimp only at hSw)
              have zK : ∀ {a9 : Addr} {u9 : Value}, wz.cell? a9 = some u9 → w9.cell? a9 = some u9 := fun {a9} {u9} h9 => (hSw.cell (World.block_lt_of_cell? wz a9 h9)).trans h9
              have z0 := zK hz9
              clear zK hSw
              go_simp
              (try with_reducible rfl)
            (try simp only [Act.put, List.getElem_toArray, List.getElem_cons_succ, List.getElem_cons_zero, List.setIfInBounds_toArray, List.set_cons_zero, List.set_cons_succ])
            refine wpAnyH_take (i := 1) (v := ?_) rfl (by kernel_rfl) (by kernel_rfl) (by kernel_rfl) (fun _ _ _ h => h) (Or.inl ⟨by rfl, ?_⟩) (by assumption) ?_
            rotate_left
            focus
              intro w9 hSw
              (try dsimp only at hSw)
              have zK : ∀ {a9 : Addr} {u9 : Value}, wz.cell? a9 = some u9 → w9.cell? a9 = some u9 := fun {a9} {u9} h9 => (hSw.cell (World.block_lt_of_cell? wz a9 h9)).trans h9
              have z0 := zK hz9
              clear zK hSw
              go_simp
              (try with_reducible rfl)
            (try simp only [Act.put, List.getElem_toArray, List.getElem_cons_succ, List.getElem_cons_zero, List.setIfInBounds_toArray, List.set_cons_zero, List.set_cons_succ])
            refine wpAnyH_take (i := 2) (v := ?_) rfl (by kernel_rfl) (by kernel_rfl) (by kernel_rfl) (fun _ _ _ h => h) (Or.inl ⟨by rfl, ?_⟩) (by assumption) ?_
            rotate_left
            focus
              intro w9 hSw
              (try dsimp only at hSw)
              have zK : ∀ {a9 : Addr} {u9 : Value}, wz.cell? a9 = some u9 → w9.cell? a9 = some u9 := fun {a9} {u9} h9 => (hSw.cell (World.block_lt_of_cell? wz a9 h9)).trans h9
              have z0 := zK hz9
              clear zK hSw
              go_simp
              (try with_reducible rfl)
            (try simp only [Act.put, List.getElem_toArray, List.getElem_cons_succ, List.getElem_cons_zero, List.setIfInBounds_toArray, List.set_cons_zero, List.set_cons_succ])
            refine wpAnyH_take (i := 3) (v := undef) rfl (by kernel_rfl) (by kernel_rfl) (by kernel_rfl) (fun _ _ _ h => h) (Or.inr ⟨by rfl, rfl⟩) (by assumption) ?_
            (try simp only [Act.put, List.getElem_toArray, List.getElem_cons_succ, List.getElem_cons_zero, List.setIfInBounds_toArray, List.set_cons_zero, List.set_cons_succ])
            refine wpAnyH_take (i := 4) (v := undef) rfl (by kernel_rfl) (by kernel_rfl) (by kernel_rfl) (fun _ _ _ h => h) (Or.inr ⟨by rfl, rfl⟩) (by assumption) ?_
            (try simp only [Act.put, List.getElem_toArray, List.getElem_cons_succ, List.getElem_cons_zero, List.setIfInBounds_toArray, List.set_cons_zero, List.set_cons_succ])
            refine wpAnyH_take (i := 5) (v := undef) rfl (by kernel_rfl) (by kernel_rfl) (by kernel_rfl) (fun _ _ _ h => h) (Or.inr ⟨by rfl, rfl⟩) (by assumption) ?_
            (try simp only [Act.put, List.getElem_toArray, List.getElem_cons_succ, List.getElem_cons_zero, List.setIfInBounds_toArray, List.set_cons_zero, List.set_cons_succ])
            refine wpAnyH_take (i := 6) (v := undef) rfl (by kernel_rfl) (by kernel_rfl) (by kernel_rfl) (fun _ _ _ h => h) (Or.inr ⟨by rfl, rfl⟩) (by assumption) ?_
            (try simp only [Act.put, List.getElem_toArray, List.getElem_cons_succ, List.getElem_cons_zero, List.setIfInBounds_toArray, List.set_cons_zero, List.set_cons_succ])
            refine wpAnyH_take (i := 7) (v := undef) rfl (by kernel_rfl) (by kernel_rfl) (by kernel_rfl) (fun _ _ _ h => h) (Or.inr ⟨by rfl, rfl⟩) (by assumption) ?_
            (try simp only [Act.put, List.getElem_toArray, List.getElem_cons_succ, List.getElem_cons_zero, List.setIfInBounds_toArray, List.set_cons_zero, List.set_cons_succ])
            refine wpAnyH_take (i := 8) (v := ?_) rfl (by kernel_rfl) (by kernel_rfl) (by kernel_rfl) (fun _ _ _ h => h) (Or.inl ⟨by rfl, ?_⟩) (by assumption) ?_
            rotate_left
            focus
              intro w9 hSw
              (try dsimp only at hSw)
              have zK : ∀ {a9 : Addr} {u9 : Value}, wz.cell? a9 = some u9 → w9.cell? a9 = some u9 := fun {a9} {u9} h9 => (hSw.cell (World.block_lt_of_cell? wz a9 h9)).trans h9
              have z0 := zK hz9
              clear zK hSw
              go_simp
              (try with_reducible rfl)
            (try simp only [Act.put, List.getElem_toArray, List.getElem_cons_succ, List.getElem_cons_zero, List.setIfInBounds_toArray, List.set_cons_zero, List.set_cons_succ])
            refine wpAnyH_done (by kernel_rfl) ?_ _
            (try simp only [Act.put, List.getElem_toArray, List.getElem_cons_succ, List.getElem_cons_zero, List.setIfInBounds_toArray, List.set_cons_zero, List.set_cons_succ])
            go_wp2
            go_roundw
            case rel => exact ⟨k + 1, by omega, by go_num, hbn.drew⟩
            case measure => simp [intOf]; omega
          · have HY1 := Lib.hid (HY.out k hm)
            have hcost := hbest.out.2.2.1 k hk5 hm
            have hnl : decide (costF W H d p k < costF W H d p b) = false := by simp; exact hcost
            have HC1 := Lib.hid (HC.out k)
            have HC2 := Lib.hid (HC.out b)
            have hbst := hbest.out
            clear hbest hbst
            generalize costF W H d p k = ck at *
            generalize costF W H d p b = cb at *
            clear hm
            go_wp2_with (first
              | (go_at_call 11; go_must (refine (HY1.out _ hbr2).mono ?_); rintro e u1 ⟨A5, c5, rfl, ho5, hu1⟩))
            have hbn := (below_then hbr hu1).alloc (below_then hbr hu1).size (.cells #[.int .i64 (W : Int), .int .i64 (H : Int), .int .i64 (d : Int), .slice A5 p.length c5] 27)
            have k5 := Blk.new u1 27 #[.int .i64 (W : Int), .int .i64 (H : Int), .int .i64 (d : Int), .slice A5 p.length c5]
            have r5 := rdOwn ho5 (below_alloc (Below.refl u1.heap.size u1) (.cells #[.int .i64 (W : Int), .int .i64 (H : Int), .int .i64 (d : Int), .slice A5 p.length c5] 27))
            generalize u1.alloc (.cells #[.int .i64 (W : Int), .int .i64 (H : Int), .int .i64 (d : Int), .slice A5 p.length c5] 27) = wy at *
            clear x0 x1 x2 x3
            have k4y := kz.below hbn kz.lt
            obtain ⟨x0, x1, x2, x3, _⟩ := k5.four
            obtain ⟨y0, y1, y2, y3, _⟩ := k4y.four
            have r4y := rz'.to (Nat.le_refl _) hbn
            refine wp_region_held_drew (S := (fun w' => Below wy.heap.size wy w')) (by kernel_rfl) ?_ (fun hHeld => ?_)
            focus exact (Below.refl _ _).drew
            refine wpAnyH_take (i := 0) (v := ?_) rfl (by kernel_rfl) (by kernel_rfl) (by kernel_rfl) (fun _ _ _ h => h) (Or.inl ⟨by rfl, ?_⟩) (by assumption) ?_
            rotate_left
            focus
              intro w9 hSw
              (try dsimp only at hSw)
              have zK : ∀ {a9 : Addr} {u9 : Value}, wy.cell? a9 = some u9 → w9.cell? a9 = some u9 := fun {a9} {u9} h9 => (hSw.cell (World.block_lt_of_cell? wy a9 h9)).trans h9
              have z0 := zK x0
              have z1 := zK x1
              have z2 := zK x2
              have z3 := zK x3
              have z4 := zK y0
              have z5 := zK y1
              have z6 := zK y2
              have z7 := zK y3
              clear zK hSw
              go_simp
              (try with_reducible rfl)
            (try simp only [Act.put, List.getElem_toArray, List.getElem_cons_succ, List.getElem_cons_zero, List.setIfInBounds_toArray, List.set_cons_zero, List.set_cons_succ])
            refine wpAnyH_take (i := 1) (v := ?_) rfl (by kernel_rfl) (by kernel_rfl) (by kernel_rfl) (fun _ _ _ h => h) (Or.inl ⟨by rfl, ?_⟩) (by assumption) ?_
            rotate_left
            focus
              intro w9 hSw
              (try dsimp only at hSw)
              have zK : ∀ {a9 : Addr} {u9 : Value}, wy.cell? a9 = some u9 → w9.cell? a9 = some u9 := fun {a9} {u9} h9 => (hSw.cell (World.block_lt_of_cell? wy a9 h9)).trans h9
              have z0 := zK x0
              have z1 := zK x1
              have z2 := zK x2
              have z3 := zK x3
              have z4 := zK y0
              have z5 := zK y1
              have z6 := zK y2
              have z7 := zK y3
              clear zK hSw
              go_simp
              (try with_reducible rfl)
            (try simp only [Act.put, List.getElem_toArray, List.getElem_cons_succ, List.getElem_cons_zero, List.setIfInBounds_toArray, List.set_cons_zero, List.set_cons_succ])
            refine wpAnyH_take (i := 2) (v := ?_) rfl (by kernel_rfl) (by kernel_rfl) (by kernel_rfl) (fun _ _ _ h => h) (Or.inl ⟨by rfl, ?_⟩) (by assumption) ?_
            rotate_left
            focus
              intro w9 hSw
              (try dsimp only at hSw)
              have zK : ∀ {a9 : Addr} {u9 : Value}, wy.cell? a9 = some u9 → w9.cell? a9 = some u9 := fun {a9} {u9} h9 => (hSw.cell (World.block_lt_of_cell? wy a9 h9)).trans h9
              have z0 := zK x0
              have z1 := zK x1
              have z2 := zK x2
              have z3 := zK x3
              have z4 := zK y0
              have z5 := zK y1
              have z6 := zK y2
              have z7 := zK y3
              clear zK hSw
              go_simp
              (try with_reducible rfl)
            (try simp only [Act.put, List.getElem_toArray, List.getElem_cons_succ, List.getElem_cons_zero, List.setIfInBounds_toArray, List.set_cons_zero, List.set_cons_succ])
            refine wpAnyH_take (i := 3) (v := ?_) rfl (by kernel_rfl) (by kernel_rfl) (by kernel_rfl) (fun _ _ _ h => h) (Or.inl ⟨by rfl, ?_⟩) (by assumption) ?_
            rotate_left
            focus
              intro w9 hSw
              (try dsimp only at hSw)
              have zK : ∀ {a9 : Addr} {u9 : Value}, wy.cell? a9 = some u9 → w9.cell? a9 = some u9 := fun {a9} {u9} h9 => (hSw.cell (World.block_lt_of_cell? wy a9 h9)).trans h9
              have z0 := zK x0
              have z1 := zK x1
              have z2 := zK x2
              have z3 := zK x3
              have z4 := zK y0
              have z5 := zK y1
              have z6 := zK y2
              have z7 := zK y3
              clear zK hSw
              go_simp
              (try with_reducible rfl)
            (try simp only [Act.put, List.getElem_toArray, List.getElem_cons_succ, List.getElem_cons_zero, List.setIfInBounds_toArray, List.set_cons_zero, List.set_cons_succ])
            refine wpAnyH_take (i := 5) (v := ?_) rfl (by kernel_rfl) (by kernel_rfl) (by kernel_rfl) (fun _ _ _ h => h) (Or.inl ⟨by rfl, ?_⟩) (by assumption) ?_
            rotate_left
            focus
              intro w9 hSw
              (try dsimp only at hSw)
              have zK : ∀ {a9 : Addr} {u9 : Value}, wy.cell? a9 = some u9 → w9.cell? a9 = some u9 := fun {a9} {u9} h9 => (hSw.cell (World.block_lt_of_cell? wy a9 h9)).trans h9
              have z0 := zK x0
              have z1 := zK x1
              have z2 := zK x2
              have z3 := zK x3
              have z4 := zK y0
              have z5 := zK y1
              have z6 := zK y2
              have z7 := zK y3
              clear zK hSw
              go_simp
              (try with_reducible rfl)
            (try simp only [Act.put, List.getElem_toArray, List.getElem_cons_succ, List.getElem_cons_zero, List.setIfInBounds_toArray, List.set_cons_zero, List.set_cons_succ])
            refine wpAnyH_ready (rs := [4]) (by kernel_rfl) (by simp) (AllReadyH.cons rfl (fun K hK => ?_) AllReadyH.nil)
            go_simp
            go_at_call 15
            refine (HC1.out _ _ _ (r5.to (Nat.le_refl _) (Below.drew (Below.refl _ _)))).mono ?_
            rintro e u2 ⟨rfl, hu2'⟩
            have hu2 := below_undrew hu2'
            clear hu2'
            refine hK.out _ _ ?_ (fun hHeld => ?_)
            focus exact hu2
            clear hK K
            (try simp only [Act.put, List.getElem_toArray, List.getElem_cons_succ, List.getElem_cons_zero, List.setIfInBounds_toArray, List.set_cons_zero, List.set_cons_succ])
            refine wpAnyH_ready (rs := [6]) (by kernel_rfl) (by simp) (AllReadyH.cons rfl (fun K hK => ?_) AllReadyH.nil)
            go_simp
            go_at_call 15
            refine (HC2.out _ _ _ (r4y.to (Nat.le_refl _) hu2)).mono ?_
            rintro e u3 ⟨rfl, hu3'⟩
            have hu3 := below_then hu2 hu3'
            refine hK.out _ _ ?_ (fun hHeld => ?_)
            focus exact hu3
            clear hK K
            (try simp only [Act.put, List.getElem_toArray, List.getElem_cons_succ, List.getElem_cons_zero, List.setIfInBounds_toArray, List.set_cons_zero, List.set_cons_succ])
            refine wpAnyH_take (i := 7) (v := ?_) rfl (by kernel_rfl) (by kernel_rfl) (by kernel_rfl) (fun _ _ _ h => h) (Or.inl ⟨by rfl, ?_⟩) (by assumption) ?_
            rotate_left
            focus
              intro w9 hSw
              (try dsimp only at hSw)
              have zK : ∀ {a9 : Addr} {u9 : Value}, wy.cell? a9 = some u9 → w9.cell? a9 = some u9 := fun {a9} {u9} h9 => (hSw.cell (World.block_lt_of_cell? wy a9 h9)).trans h9
              have z0 := zK x0
              have z1 := zK x1
              have z2 := zK x2
              have z3 := zK x3
              clear zK hSw
              go_simp
              (try with_reducible rfl)
            (try simp only [Act.put, List.getElem_toArray, List.getElem_cons_succ, List.getElem_cons_zero, List.setIfInBounds_toArray, List.set_cons_zero, List.set_cons_succ])
            refine wpAnyH_take (i := 8) (v := ?_) rfl (by kernel_rfl) (by kernel_rfl) (by kernel_rfl) (fun _ _ _ h => h) (Or.inl ⟨by rfl, ?_⟩) (by assumption) ?_
            rotate_left
            focus
              intro w9 hSw
              (try dsimp only at hSw)
              have zK : ∀ {a9 : Addr} {u9 : Value}, wy.cell? a9 = some u9 → w9.cell? a9 = some u9 := fun {a9} {u9} h9 => (hSw.cell (World.block_lt_of_cell? wy a9 h9)).trans h9
              have z0 := zK x0
              have z1 := zK x1
              have z2 := zK x2
              have z3 := zK x3
              clear zK hSw
              go_simp
              (try with_reducible rfl)
            (try simp only [Act.put, List.getElem_toArray, List.getElem_cons_succ, List.getElem_cons_zero, List.setIfInBounds_toArray, List.set_cons_zero, List.set_cons_succ])
            refine wpAnyH_done (by kernel_rfl) ?_ _
            (try simp only [Act.put, List.getElem_toArray, List.getElem_cons_succ, List.getElem_cons_zero, List.setIfInBounds_toArray, List.set_cons_zero, List.set_cons_succ])
            have hbf := hbn.trans (hu3.mono hbn.size)
            go_wp2
            go_roundw
            case rel => exact ⟨k + 1, by omega, by go_num, hbf⟩
            case measure => simp [intOf]; omega
        · obtain rfl : k = 5 := by omega
          go_wp2_with (first
            | (go_at_call 13; go_must (refine (HK.out _).mono ?_); rintro e w9 ⟨rfl, hb9⟩))
          go_ret
          exact ⟨rfl, below_then (hbw.trans (hbr.mono hbw.size)) hb9⟩
  · go_simp
    refine hK.out _ _ ?_ (fun hHeld => ?_)
    focus exact Below.drew (below_alloc (Below.refl _ _) _)
    clear hK K
    (try simp only [Act.put, List.getElem_toArray, List.getElem_cons_succ, List.getElem_cons_zero, List.setIfInBounds_toArray, List.set_cons_zero, List.set_cons_succ])
    have k4 : Blk (ws.alloc (.cells #[.int .i64 0, .int .i64 0, .int .i64 0, .slice none 0 0] 27)).drew ws.heap.size 27 #[.int .i64 0, .int .i64 0, .int .i64 0, .slice none 0 0] := Blk.new ws 27 #[.int .i64 0, .int .i64 0, .int .i64 0, .slice none 0 0]
    have hgg : ws.heap.size ≤ ws.heap.size := Nat.le_refl _
    have hv0 : Below ws.heap.size ws (ws.alloc (.cells #[.int .i64 0, .int .i64 0, .int .i64 0, .slice none 0 0] 27)).drew := Below.drew (below_alloc (Below.refl _ _) _)
    refine wpAnyH_ready (rs := [2]) (by kernel_rfl) (by simp) (AllReadyH.cons rfl (fun K hK => ?_) AllReadyH.nil)
    go_simp
    go_at_call 14
    refine (HBe.out _ hv0).mono ?_
    rintro e v1 ⟨b, rfl, hbest, hv1'⟩
    have hv1 : Below ws.heap.size ws v1 := below_then hv0 hv1'
    refine hK.out _ _ ?_ (fun hHeld => ?_)
    focus exact hv1
    clear hK K
    (try simp only [Act.put, List.getElem_toArray, List.getElem_cons_succ, List.getElem_cons_zero, List.setIfInBounds_toArray, List.set_cons_zero, List.set_cons_succ])
    replace k4 := k4.below hv1' k4.lt
    refine wpAnyH_ready (rs := [3]) (by kernel_rfl) (by simp) (AllReadyH.cons rfl (fun K hK => ?_) AllReadyH.nil)
    go_simp
    go_at_call 11
    refine (HY.out b hbest.out.2.1 _ hv1).mono ?_
    rintro e v2 ⟨A2, c2, rfl, ho2, hv2'⟩
    have hv2 : Below ws.heap.size ws v2 := below_then hv1 hv2'
    refine hK.out _ _ ?_ (fun hHeld => ?_)
    focus exact hv2
    clear hK K
    (try simp only [Act.put, List.getElem_toArray, List.getElem_cons_succ, List.getElem_cons_zero, List.setIfInBounds_toArray, List.set_cons_zero, List.set_cons_succ])
    replace k4 := k4.below hv2' k4.lt
    refine wpAnyH_take (i := 4) (v := ?_) rfl (by kernel_rfl) (by kernel_rfl) (by kernel_rfl) (fun _ _ _ h => h) (Or.inl ⟨by rfl, ?_⟩) (by assumption) ?_
    rotate_left
    focus
      intro w9 hSw
      (try dsimp only at hSw)
      have zK : ∀ {a9 : Addr} {u9 : Value}, ws.cell? a9 = some u9 → w9.cell? a9 = some u9 := fun {a9} {u9} h9 => (hSw.cell (World.block_lt_of_cell? ws a9 h9)).trans h9
      have z0 := zK x0
      have z1 := zK x1
      have z2 := zK x2
      have z3 := zK x3
      clear zK hSw
      go_simp
      (try with_reducible rfl)
    (try simp only [Act.put, List.getElem_toArray, List.getElem_cons_succ, List.getElem_cons_zero, List.setIfInBounds_toArray, List.set_cons_zero, List.set_cons_succ])
    refine wpAnyH_take (i := 5) (v := ?_) rfl (by kernel_rfl) (by kernel_rfl) (by kernel_rfl) (fun _ _ _ h => h) (Or.inl ⟨by rfl, ?_⟩) (by assumption) ?_
    rotate_left
    focus
      intro w9 hSw
      (try dsimp only at hSw)
      have zK : ∀ {a9 : Addr} {u9 : Value}, ws.cell? a9 = some u9 → w9.cell? a9 = some u9 := fun {a9} {u9} h9 => (hSw.cell (World.block_lt_of_cell? ws a9 h9)).trans h9
      have z0 := zK x0
      have z1 := zK x1
      have z2 := zK x2
      have z3 := zK x3
      clear zK hSw
      go_simp
      (try with_reducible rfl)
    (try simp only [Act.put, List.getElem_toArray, List.getElem_cons_succ, List.getElem_cons_zero, List.setIfInBounds_toArray, List.set_cons_zero, List.set_cons_succ])
    refine wpAnyH_take (i := 6) (v := ?_) rfl (by kernel_rfl) (by kernel_rfl) (by kernel_rfl) (fun _ _ _ h => h) (Or.inl ⟨by rfl, ?_⟩) (by assumption) ?_
    rotate_left
    focus
      intro w9 hSw
      (try dsimp only at hSw)
      have zK : ∀ {a9 : Addr} {u9 : Value}, ws.cell? a9 = some u9 → w9.cell? a9 = some u9 := fun {a9} {u9} h9 => (hSw.cell (World.block_lt_of_cell? ws a9 h9)).trans h9
      have z0 := zK x0
      have z1 := zK x1
      have z2 := zK x2
      have z3 := zK x3
      clear zK hSw
      go_simp
      (try with_reducible rfl)
    (try simp only [Act.put, List.getElem_toArray, List.getElem_cons_succ, List.getElem_cons_zero, List.setIfInBounds_toArray, List.set_cons_zero, List.set_cons_succ])
    refine wpAnyH_ready (rs := [8]) (by kernel_rfl) (by simp) (AllReadyH.cons rfl (fun K hK => ?_) AllReadyH.nil)
    obtain ⟨e0, e1, e2, e3, f0, f1, f2, f3⟩ := k4.four
    go_simp
    have kz : Blk ((((v2.setCell ⟨ws.heap.size, 0, none⟩ (.int .i64 (W : Int))).setCell ⟨ws.heap.size, 1, none⟩ (.int .i64 (H : Int))).setCell ⟨ws.heap.size, 2, none⟩ (.int .i64 (d : Int))).setCell ⟨ws.heap.size, 3, none⟩ (.slice A2 p.length c2)) ws.heap.size 27 #[.int .i64 (W : Int), .int .i64 (H : Int), .int .i64 (d : Int), .slice A2 p.length c2] := by simpa using (((k4.set_ 0 (.int .i64 (W : Int))).set_ 1 (.int .i64 (H : Int))).set_ 2 (.int .i64 (d : Int))).set_ 3 (.slice A2 p.length c2)
    have bz : Below ws.heap.size ws ((((v2.setCell ⟨ws.heap.size, 0, none⟩ (.int .i64 (W : Int))).setCell ⟨ws.heap.size, 1, none⟩ (.int .i64 (H : Int))).setCell ⟨ws.heap.size, 2, none⟩ (.int .i64 (d : Int))).setCell ⟨ws.heap.size, 3, none⟩ (.slice A2 p.length c2)) :=
      Below.setCell (p := ⟨ws.heap.size, 3, none⟩) (Below.setCell (p := ⟨ws.heap.size, 2, none⟩) (Below.setCell (p := ⟨ws.heap.size, 1, none⟩) (Below.setCell (p := ⟨ws.heap.size, 0, none⟩) hv2 hgg (.int .i64 (W : Int))) hgg (.int .i64 (H : Int))) hgg (.int .i64 (d : Int))) hgg (.slice A2 p.length c2)
    have rz : RdLL ((((v2.setCell ⟨ws.heap.size, 0, none⟩ (.int .i64 (W : Int))).setCell ⟨ws.heap.size, 1, none⟩ (.int .i64 (H : Int))).setCell ⟨ws.heap.size, 2, none⟩ (.int .i64 (d : Int))).setCell ⟨ws.heap.size, 3, none⟩ (.slice A2 p.length c2)) v2.heap.size .i64 A2 (hueLL (foreC b d) p (W * H)) := rdset4' ho2 (by have := hv1'.size; simp at this; omega)
    have hszz : v2.heap.size ≤ ((((v2.setCell ⟨ws.heap.size, 0, none⟩ (.int .i64 (W : Int))).setCell ⟨ws.heap.size, 1, none⟩ (.int .i64 (H : Int))).setCell ⟨ws.heap.size, 2, none⟩ (.int .i64 (d : Int))).setCell ⟨ws.heap.size, 3, none⟩ (.slice A2 p.length c2)).heap.size := by simp [World.setCell]
    generalize (((v2.setCell ⟨ws.heap.size, 0, none⟩ (.int .i64 (W : Int))).setCell ⟨ws.heap.size, 1, none⟩ (.int .i64 (H : Int))).setCell ⟨ws.heap.size, 2, none⟩ (.int .i64 (d : Int))).setCell ⟨ws.heap.size, 3, none⟩ (.slice A2 p.length c2) = wz at *
    refine hK.out _ _ ?_ (fun hHeld => ?_)
    focus exact bz
    clear hK K
    (try simp only [Act.put, List.getElem_toArray, List.getElem_cons_succ, List.getElem_cons_zero, List.setIfInBounds_toArray, List.set_cons_zero, List.set_cons_succ])
    clear e0 e1 e2 e3 f0 f1 f2 f3
    refine wpAnyH_take (i := 9) (v := ?_) rfl (by kernel_rfl) (by kernel_rfl) (by kernel_rfl) (fun _ _ _ h => h) (Or.inl ⟨by rfl, ?_⟩) (by assumption) ?_
    rotate_left
    focus
      intro w9 hSw
      (try dsimp only at hSw)
      have zK : ∀ {a9 : Addr} {u9 : Value}, ws.cell? a9 = some u9 → w9.cell? a9 = some u9 := fun {a9} {u9} h9 => (hSw.cell (World.block_lt_of_cell? ws a9 h9)).trans h9
      have z0 := zK x0
      have z1 := zK x1
      have z2 := zK x2
      have z3 := zK x3
      clear zK hSw
      go_simp
      (try with_reducible rfl)
    (try simp only [Act.put, List.getElem_toArray, List.getElem_cons_succ, List.getElem_cons_zero, List.setIfInBounds_toArray, List.set_cons_zero, List.set_cons_succ])
    refine wpAnyH_done (by kernel_rfl) ?_ _
    (try simp only [Act.put, List.getElem_toArray, List.getElem_cons_succ, List.getElem_cons_zero, List.setIfInBounds_toArray, List.set_cons_zero, List.set_cons_succ])
    have rz' := RdLL.grow rz hszz
    have kpz := kp.below bz hkp
    clear k4 hHeld hv1 hv2 hv1' hv2' ho2 rz hszz x0 x1 x2 x3 HBe
    go_wp2
    have hbw := bbs.trans (bz.mono bbs.size)
    go_loopw [6] (fun i wr => ∃ k : Nat, k ≤ 5 ∧ i = .int .i64 k ∧ Below wz.heap.size wz wr) (fun i _ => 5 - (intOf i).toNat)
    case atStart => exact ⟨0, by omega, rfl, Below.refl _ _⟩
    case round =>
      obtain ⟨k, hk, rfl, hbr⟩ := hrel
      obtain ⟨x0, x1, x2, x3, _⟩ := (kpz.below hbr (Nat.lt_of_lt_of_le hkp bz.size)).four
      by_cases hk5 : k < 5
      · have hk6 : (k : Int) ≤ 4 := by omega
        have hbr2 := bz.trans (hbr.mono bz.size)
        cases hm : mayB p.length k
        · have HN1 := Lib.hid (HN.out k hm)
          clear hm
          go_wp2_with (first
            | (go_at_call 11; go_must (refine (HN1.out _ hbr2).mono ?_); rintro e u1 ⟨rfl, hu1⟩))
          have hbn := (below_then hbr hu1).alloc (below_then hbr hu1).size (.cells #[.int .i64 0, .int .i64 0, .int .i64 0, .slice none 0 0] 27)
          obtain ⟨y0, y1, y2, y3, _⟩ := (kpz.below hbn (Nat.lt_of_lt_of_le hkp bz.size)).four
          generalize u1.alloc (.cells #[.int .i64 0, .int .i64 0, .int .i64 0, .slice none 0 0] 27) = wy at *
          clear x0 x1 x2 x3
          obtain ⟨hz9, _⟩ := kz.four
          refine wp_region_held_drew (S := (fun w' => Below wz.heap.size wz w')) (by kernel_rfl) ?_ (fun hHeld => ?_)
          focus exact hbn.drew
          refine wpAnyH_take (i := 0) (v := ?_) rfl (by kernel_rfl) (by kernel_rfl) (by kernel_rfl) (fun _ _ _ h => h) (Or.inl ⟨by rfl, ?_⟩) (by assumption) ?_
          rotate_left
          focus
            intro w9 hSw
            (try dsimp only at hSw)
            have zK : ∀ {a9 : Addr} {u9 : Value}, wz.cell? a9 = some u9 → w9.cell? a9 = some u9 := fun {a9} {u9} h9 => (hSw.cell (World.block_lt_of_cell? wz a9 h9)).trans h9
            have z0 := zK hz9
            clear zK hSw
            go_simp
            (try with_reducible rfl)
          (try simp only [Act.put, List.getElem_toArray, List.getElem_cons_succ, List.getElem_cons_zero, List.setIfInBounds_toArray, List.set_cons_zero, List.set_cons_succ])
          refine wpAnyH_take (i := 1) (v := ?_) rfl (by kernel_rfl) (by kernel_rfl) (by kernel_rfl) (fun _ _ _ h => h) (Or.inl ⟨by rfl, ?_⟩) (by assumption) ?_
          rotate_left
          focus
            intro w9 hSw
            (try dsimp only at hSw)
            have zK : ∀ {a9 : Addr} {u9 : Value}, wz.cell? a9 = some u9 → w9.cell? a9 = some u9 := fun {a9} {u9} h9 => (hSw.cell (World.block_lt_of_cell? wz a9 h9)).trans h9
            have z0 := zK hz9
            clear zK hSw
            go_simp
            (try with_reducible rfl)
          (try simp only [Act.put, List.getElem_toArray, List.getElem_cons_succ, List.getElem_cons_zero, List.setIfInBounds_toArray, List.set_cons_zero, List.set_cons_succ])
          refine wpAnyH_take (i := 2) (v := ?_) rfl (by kernel_rfl) (by kernel_rfl) (by kernel_rfl) (fun _ _ _ h => h) (Or.inl ⟨by rfl, ?_⟩) (by assumption) ?_
          rotate_left
          focus
            intro w9 hSw
            (try dsimp only at hSw)
            have zK : ∀ {a9 : Addr} {u9 : Value}, wz.cell? a9 = some u9 → w9.cell? a9 = some u9 := fun {a9} {u9} h9 => (hSw.cell (World.block_lt_of_cell? wz a9 h9)).trans h9
            have z0 := zK hz9
            clear zK hSw
            go_simp
            (try with_reducible rfl)
          (try simp only [Act.put, List.getElem_toArray, List.getElem_cons_succ, List.getElem_cons_zero, List.setIfInBounds_toArray, List.set_cons_zero, List.set_cons_succ])
          refine wpAnyH_take (i := 3) (v := undef) rfl (by kernel_rfl) (by kernel_rfl) (by kernel_rfl) (fun _ _ _ h => h) (Or.inr ⟨by rfl, rfl⟩) (by assumption) ?_
          (try simp only [Act.put, List.getElem_toArray, List.getElem_cons_succ, List.getElem_cons_zero, List.setIfInBounds_toArray, List.set_cons_zero, List.set_cons_succ])
          refine wpAnyH_take (i := 4) (v := undef) rfl (by kernel_rfl) (by kernel_rfl) (by kernel_rfl) (fun _ _ _ h => h) (Or.inr ⟨by rfl, rfl⟩) (by assumption) ?_
          (try simp only [Act.put, List.getElem_toArray, List.getElem_cons_succ, List.getElem_cons_zero, List.setIfInBounds_toArray, List.set_cons_zero, List.set_cons_succ])
          refine wpAnyH_take (i := 5) (v := undef) rfl (by kernel_rfl) (by kernel_rfl) (by kernel_rfl) (fun _ _ _ h => h) (Or.inr ⟨by rfl, rfl⟩) (by assumption) ?_
          (try simp only [Act.put, List.getElem_toArray, List.getElem_cons_succ, List.getElem_cons_zero, List.setIfInBounds_toArray, List.set_cons_zero, List.set_cons_succ])
          refine wpAnyH_take (i := 6) (v := undef) rfl (by kernel_rfl) (by kernel_rfl) (by kernel_rfl) (fun _ _ _ h => h) (Or.inr ⟨by rfl, rfl⟩) (by assumption) ?_
          (try simp only [Act.put, List.getElem_toArray, List.getElem_cons_succ, List.getElem_cons_zero, List.setIfInBounds_toArray, List.set_cons_zero, List.set_cons_succ])
          refine wpAnyH_take (i := 7) (v := undef) rfl (by kernel_rfl) (by kernel_rfl) (by kernel_rfl) (fun _ _ _ h => h) (Or.inr ⟨by rfl, rfl⟩) (by assumption) ?_
          (try simp only [Act.put, List.getElem_toArray, List.getElem_cons_succ, List.getElem_cons_zero, List.setIfInBounds_toArray, List.set_cons_zero, List.set_cons_succ])
          refine wpAnyH_take (i := 8) (v := ?_) rfl (by kernel_rfl) (by kernel_rfl) (by kernel_rfl) (fun _ _ _ h => h) (Or.inl ⟨by rfl, ?_⟩) (by assumption) ?_
          rotate_left
          focus
            intro w9 hSw
            (try dsimp only at hSw)
            have zK : ∀ {a9 : Addr} {u9 : Value}, wz.cell? a9 = some u9 → w9.cell? a9 = some u9 := fun {a9} {u9} h9 => (hSw.cell (World.block_lt_of_cell? wz a9 h9)).trans h9
            have z0 := zK hz9
            clear zK hSw
            go_simp
            (try with_reducible rfl)
          (try simp only [Act.put, List.getElem_toArray, List.getElem_cons_succ, List.getElem_cons_zero, List.setIfInBounds_toArray, List.set_cons_zero, List.set_cons_succ])
          refine wpAnyH_done (by kernel_rfl) ?_ _
          (try simp only [Act.put, List.getElem_toArray, List.getElem_cons_succ, List.getElem_cons_zero, List.setIfInBounds_toArray, List.set_cons_zero, List.set_cons_succ])
          go_wp2
          go_roundw
          case rel => exact ⟨k + 1, by omega, by go_num, hbn.drew⟩
          case measure => simp [intOf]; omega
        · have HY1 := Lib.hid (HY.out k hm)
          have hcost := hbest.out.2.2.1 k hk5 hm
          have hnl : decide (costF W H d p k < costF W H d p b) = false := by simp; exact hcost
          have HC1 := Lib.hid (HC.out k)
          have HC2 := Lib.hid (HC.out b)
          have hbst := hbest.out
          clear hbest hbst
          generalize costF W H d p k = ck at *
          generalize costF W H d p b = cb at *
          clear hm
          go_wp2_with (first
            | (go_at_call 11; go_must (refine (HY1.out _ hbr2).mono ?_); rintro e u1 ⟨A5, c5, rfl, ho5, hu1⟩))
          have hbn := (below_then hbr hu1).alloc (below_then hbr hu1).size (.cells #[.int .i64 (W : Int), .int .i64 (H : Int), .int .i64 (d : Int), .slice A5 p.length c5] 27)
          have k5 := Blk.new u1 27 #[.int .i64 (W : Int), .int .i64 (H : Int), .int .i64 (d : Int), .slice A5 p.length c5]
          have r5 := rdOwn ho5 (below_alloc (Below.refl u1.heap.size u1) (.cells #[.int .i64 (W : Int), .int .i64 (H : Int), .int .i64 (d : Int), .slice A5 p.length c5] 27))
          generalize u1.alloc (.cells #[.int .i64 (W : Int), .int .i64 (H : Int), .int .i64 (d : Int), .slice A5 p.length c5] 27) = wy at *
          clear x0 x1 x2 x3
          have k4y := kz.below hbn kz.lt
          obtain ⟨x0, x1, x2, x3, _⟩ := k5.four
          obtain ⟨y0, y1, y2, y3, _⟩ := k4y.four
          have r4y := rz'.to (Nat.le_refl _) hbn
          refine wp_region_held_drew (S := (fun w' => Below wy.heap.size wy w')) (by kernel_rfl) ?_ (fun hHeld => ?_)
          focus exact (Below.refl _ _).drew
          refine wpAnyH_take (i := 0) (v := ?_) rfl (by kernel_rfl) (by kernel_rfl) (by kernel_rfl) (fun _ _ _ h => h) (Or.inl ⟨by rfl, ?_⟩) (by assumption) ?_
          rotate_left
          focus
            intro w9 hSw
            (try dsimp only at hSw)
            have zK : ∀ {a9 : Addr} {u9 : Value}, wy.cell? a9 = some u9 → w9.cell? a9 = some u9 := fun {a9} {u9} h9 => (hSw.cell (World.block_lt_of_cell? wy a9 h9)).trans h9
            have z0 := zK x0
            have z1 := zK x1
            have z2 := zK x2
            have z3 := zK x3
            have z4 := zK y0
            have z5 := zK y1
            have z6 := zK y2
            have z7 := zK y3
            clear zK hSw
            go_simp
            (try with_reducible rfl)
          (try simp only [Act.put, List.getElem_toArray, List.getElem_cons_succ, List.getElem_cons_zero, List.setIfInBounds_toArray, List.set_cons_zero, List.set_cons_succ])
          refine wpAnyH_take (i := 1) (v := ?_) rfl (by kernel_rfl) (by kernel_rfl) (by kernel_rfl) (fun _ _ _ h => h) (Or.inl ⟨by rfl, ?_⟩) (by assumption) ?_
          rotate_left
          focus
            intro w9 hSw
            (try dsimp only at hSw)
            have zK : ∀ {a9 : Addr} {u9 : Value}, wy.cell? a9 = some u9 → w9.cell? a9 = some u9 := fun {a9} {u9} h9 => (hSw.cell (World.block_lt_of_cell? wy a9 h9)).trans h9
            have z0 := zK x0
            have z1 := zK x1
            have z2 := zK x2
            have z3 := zK x3
            have z4 := zK y0
            have z5 := zK y1
            have z6 := zK y2
            have z7 := zK y3
            clear zK hSw
            go_simp
            (try with_reducible rfl)
          (try simp only [Act.put, List.getElem_toArray, List.getElem_cons_succ, List.getElem_cons_zero, List.setIfInBounds_toArray, List.set_cons_zero, List.set_cons_succ])
          refine wpAnyH_take (i := 2) (v := ?_) rfl (by kernel_rfl) (by kernel_rfl) (by kernel_rfl) (fun _ _ _ h => h) (Or.inl ⟨by rfl, ?_⟩) (by assumption) ?_
          rotate_left
          focus
            intro w9 hSw
            (try dsimp only at hSw)
            have zK : ∀ {a9 : Addr} {u9 : Value}, wy.cell? a9 = some u9 → w9.cell? a9 = some u9 := fun {a9} {u9} h9 => (hSw.cell (World.block_lt_of_cell? wy a9 h9)).trans h9
            have z0 := zK x0
            have z1 := zK x1
            have z2 := zK x2
            have z3 := zK x3
            have z4 := zK y0
            have z5 := zK y1
            have z6 := zK y2
            have z7 := zK y3
            clear zK hSw
            go_simp
            (try with_reducible rfl)
          (try simp only [Act.put, List.getElem_toArray, List.getElem_cons_succ, List.getElem_cons_zero, List.setIfInBounds_toArray, List.set_cons_zero, List.set_cons_succ])
          refine wpAnyH_take (i := 3) (v := ?_) rfl (by kernel_rfl) (by kernel_rfl) (by kernel_rfl) (fun _ _ _ h => h) (Or.inl ⟨by rfl, ?_⟩) (by assumption) ?_
          rotate_left
          focus
            intro w9 hSw
            (try dsimp only at hSw)
            have zK : ∀ {a9 : Addr} {u9 : Value}, wy.cell? a9 = some u9 → w9.cell? a9 = some u9 := fun {a9} {u9} h9 => (hSw.cell (World.block_lt_of_cell? wy a9 h9)).trans h9
            have z0 := zK x0
            have z1 := zK x1
            have z2 := zK x2
            have z3 := zK x3
            have z4 := zK y0
            have z5 := zK y1
            have z6 := zK y2
            have z7 := zK y3
            clear zK hSw
            go_simp
            (try with_reducible rfl)
          (try simp only [Act.put, List.getElem_toArray, List.getElem_cons_succ, List.getElem_cons_zero, List.setIfInBounds_toArray, List.set_cons_zero, List.set_cons_succ])
          refine wpAnyH_take (i := 5) (v := ?_) rfl (by kernel_rfl) (by kernel_rfl) (by kernel_rfl) (fun _ _ _ h => h) (Or.inl ⟨by rfl, ?_⟩) (by assumption) ?_
          rotate_left
          focus
            intro w9 hSw
            (try dsimp only at hSw)
            have zK : ∀ {a9 : Addr} {u9 : Value}, wy.cell? a9 = some u9 → w9.cell? a9 = some u9 := fun {a9} {u9} h9 => (hSw.cell (World.block_lt_of_cell? wy a9 h9)).trans h9
            have z0 := zK x0
            have z1 := zK x1
            have z2 := zK x2
            have z3 := zK x3
            have z4 := zK y0
            have z5 := zK y1
            have z6 := zK y2
            have z7 := zK y3
            clear zK hSw
            go_simp
            (try with_reducible rfl)
          (try simp only [Act.put, List.getElem_toArray, List.getElem_cons_succ, List.getElem_cons_zero, List.setIfInBounds_toArray, List.set_cons_zero, List.set_cons_succ])
          refine wpAnyH_ready (rs := [4]) (by kernel_rfl) (by simp) (AllReadyH.cons rfl (fun K hK => ?_) AllReadyH.nil)
          go_simp
          go_at_call 15
          refine (HC1.out _ _ _ (r5.to (Nat.le_refl _) (Below.drew (Below.refl _ _)))).mono ?_
          rintro e u2 ⟨rfl, hu2'⟩
          have hu2 := below_undrew hu2'
          clear hu2'
          refine hK.out _ _ ?_ (fun hHeld => ?_)
          focus exact hu2
          clear hK K
          (try simp only [Act.put, List.getElem_toArray, List.getElem_cons_succ, List.getElem_cons_zero, List.setIfInBounds_toArray, List.set_cons_zero, List.set_cons_succ])
          refine wpAnyH_ready (rs := [6]) (by kernel_rfl) (by simp) (AllReadyH.cons rfl (fun K hK => ?_) AllReadyH.nil)
          go_simp
          go_at_call 15
          refine (HC2.out _ _ _ (r4y.to (Nat.le_refl _) hu2)).mono ?_
          rintro e u3 ⟨rfl, hu3'⟩
          have hu3 := below_then hu2 hu3'
          refine hK.out _ _ ?_ (fun hHeld => ?_)
          focus exact hu3
          clear hK K
          (try simp only [Act.put, List.getElem_toArray, List.getElem_cons_succ, List.getElem_cons_zero, List.setIfInBounds_toArray, List.set_cons_zero, List.set_cons_succ])
          refine wpAnyH_take (i := 7) (v := ?_) rfl (by kernel_rfl) (by kernel_rfl) (by kernel_rfl) (fun _ _ _ h => h) (Or.inl ⟨by rfl, ?_⟩) (by assumption) ?_
          rotate_left
          focus
            intro w9 hSw
            (try dsimp only at hSw)
            have zK : ∀ {a9 : Addr} {u9 : Value}, wy.cell? a9 = some u9 → w9.cell? a9 = some u9 := fun {a9} {u9} h9 => (hSw.cell (World.block_lt_of_cell? wy a9 h9)).trans h9
            have z0 := zK x0
            have z1 := zK x1
            have z2 := zK x2
            have z3 := zK x3
            clear zK hSw
            go_simp
            (try with_reducible rfl)
          (try simp only [Act.put, List.getElem_toArray, List.getElem_cons_succ, List.getElem_cons_zero, List.setIfInBounds_toArray, List.set_cons_zero, List.set_cons_succ])
          refine wpAnyH_take (i := 8) (v := ?_) rfl (by kernel_rfl) (by kernel_rfl) (by kernel_rfl) (fun _ _ _ h => h) (Or.inl ⟨by rfl, ?_⟩) (by assumption) ?_
          rotate_left
          focus
            intro w9 hSw
            (try dsimp only at hSw)
            have zK : ∀ {a9 : Addr} {u9 : Value}, wy.cell? a9 = some u9 → w9.cell? a9 = some u9 := fun {a9} {u9} h9 => (hSw.cell (World.block_lt_of_cell? wy a9 h9)).trans h9
            have z0 := zK x0
            have z1 := zK x1
            have z2 := zK x2
            have z3 := zK x3
            clear zK hSw
            go_simp
            (try with_reducible rfl)
          (try simp only [Act.put, List.getElem_toArray, List.getElem_cons_succ, List.getElem_cons_zero, List.setIfInBounds_toArray, List.set_cons_zero, List.set_cons_succ])
          refine wpAnyH_done (by kernel_rfl) ?_ _
          (try simp only [Act.put, List.getElem_toArray, List.getElem_cons_succ, List.getElem_cons_zero, List.setIfInBounds_toArray, List.set_cons_zero, List.set_cons_succ])
          have hbf := hbn.trans (hu3.mono hbn.size)
          go_wp2
          go_roundw
          case rel => exact ⟨k + 1, by omega, by go_num, hbf⟩
          case measure => simp [intOf]; omega
      · obtain rfl : k = 5 := by omega
        go_wp2_with (first
          | (go_at_call 13; go_must (refine (HK.out _).mono ?_); rintro e w9 ⟨rfl, hb9⟩))
        go_ret
        exact ⟨rfl, below_then (hbw.trans (hbr.mono hbw.size)) hb9⟩
end Go.Proofs.Yticjiodnolngcaa.hueLeast
