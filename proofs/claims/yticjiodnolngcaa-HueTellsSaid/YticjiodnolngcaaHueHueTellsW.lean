/- HueTells: the walk. -/
import Derived.Test.YticjiodnolngcaaHueR16
import Derived.Test.YticjiodnolngcaaHueSm
import Derived.Test.YticjiodnolngcaaPicHeavy
import Derived.Test.YticjiodnolngcaaPicTape
set_option linter.unusedSimpArgs false
set_option linter.unusedVariables false
namespace Go.Proofs.Yticjiodnolngcaa.hueTells
open Go.RowKit

set_option maxHeartbeats 8000000 in
set_option maxRecDepth 100000 in
theorem walk (w : World) (At : Option Addr) (ct : Nat) (t : List Int) (ht : ∀ x ∈ t, -9223372036854775808 ≤ x ∧ x ≤ 9223372036854775807) (hct : t.length ≤ ct) (h63 : ct ≤ 9223372036854775807) (hrt : RdI w w.heap.size .i64 At t)
    (p : Pc) (Ap : Option Addr) (cp : Nat) (hRp : LenR p.p) (hrp : RdLL w w.heap.size .i64 Ap p.p)
    (kk : Int) (k0 : -9223372036854775808 ≤ kk) (k1 : kk ≤ 9223372036854775807) (nn : Int) (n0 : -9223372036854775808 ≤ nn) (n1 : nn ≤ 9223372036854775807) :
    Calls Try.prog 7 #[.slice At t.length ct, .agg #[.int .i64 p.w, .int .i64 p.h, .int .i64 p.d, .slice Ap p.p.length cp], .int .i64 kk, .int .i64 nn] w fun e w' => e = .returned (.bool true) ∧ Below w.heap.size w w' := by
  have HK := Lib.hid (fun W => known_any W)
  have HH := Lib.hid (fun W (hb : Below w.heap.size w W) => heavy2_any (c := cp) (hrp.below hb (Nat.le_refl _)) hb.size hRp)
  have HT := Lib.hid (fun W (hb : Below w.heap.size w W) => newtape_any At t ct ht hct (by omega) W (hrt.below hb (Nat.le_refl _)) hb.size)
  have HP := Lib.hid (fun W g (hW : TapeB W w.heap.size g) => tapepic_any hW 16 (by omega) (by omega))
  have hrp' := hrp
  clear ht hrt
  obtain ⟨pw, ph, pd, pp⟩ := p
  simp only at *
  go_enter Try.func7, Try.ntmps7
  go_wp2_with (first
    | (go_at_call 23; (with_reducible refine (HH.out _ (by repeat (first | exact Below.refl _ _ | assumption | refine Below.drew ?_ | refine below_drewN ?_ _ | refine below_alloc ?_ _))).mono ?_); rintro e w1 ⟨he, hb1⟩; have kp1 := (Blk.new w 27 #[.int .i64 pw, .int .i64 ph, .int .i64 pd, .slice Ap pp.length cp]).below hb1 (by simp); have bb1 := below_then (below_alloc (Below.refl w.heap.size w) (.cells #[.int .i64 pw, .int .i64 ph, .int .i64 pd, .slice Ap pp.length cp] 27)) hb1; rcases he with rfl | ⟨rfl, hsp⟩)
    | (go_at_call 8; (with_reducible refine (HT.out _ bb1).mono ?_); rintro e w3 ⟨rfl, hT3, hb3⟩; have kp3 := kp1.below hb3 kp1.lt; have bb3 := below_then bb1 hb3)
    | (go_at_call 9; (with_reducible refine (HP.out _ _ hT3).mono ?_); rintro e w4 ⟨W, H, d, px, Ax, cx, rfl, hB, _, _, ho4, _, hg4⟩; have kp4 := kp3.grown hg4 (by have := kp1.lt; simp; omega); have bb4 : Below w.heap.size w w4 := below_only bb3 hg4 bb3.size hT3.ge))
  · go_ret
    exact ⟨rfl, bb1⟩
  have kx := Blk.new w4 27 #[.int .i64 (W : Int), .int .i64 (H : Int), .int .i64 (d : Int), .slice Ax px.length cx]
  have ax := below_alloc (Below.refl w4.heap.size w4) (.cells #[.int .i64 (W : Int), .int .i64 (H : Int), .int .i64 (d : Int), .slice Ax px.length cx] 27)
  have kpa := kp4.alloc (.cells #[.int .i64 (W : Int), .int .i64 (H : Int), .int .i64 (d : Int), .slice Ax px.length cx] 27)
  have rx := rdOwn ho4 ax
  have bba := below_then bb4 ax
  have Lx : Len63 px := small_63 (isB_small hB)
  have Lp : Len63 pp := small_63 hsp
  have HS1 := Lib.hid (fun (W' : World) (hr : RdLL W' W'.heap.size .i64 Ax px) (k : Int) => samelaw_any (q := ⟨(W : Int), (H : Int), (d : Int), px⟩) (c := cx) hr (Nat.le_refl _) Lx k)
  have HS2 := Lib.hid (fun (W' : World) (hb : Below w.heap.size w W') (k : Int) => samelaw_any (q := ⟨pw, ph, pd, pp⟩) (c := cp) (hrp'.to (Nat.le_refl _) hb) (Nat.le_refl _) Lp k)
  have HM := Lib.hid (fun n k W' => may_any n k W')
  have HR := Lib.hid (fun n k W' => huemay_any n k W')
  simp only at HS1 HS2
  have C1 := Lib.hid (fun (W' : World) (hr : RdLL W' W'.heap.size .i64 Ax px) => cost_one (q := ⟨(W : Int), (H : Int), (d : Int), px⟩) (c := cx) hr (Nat.le_refl _) Lx)
  have C2 := Lib.hid (fun (W' : World) (hr : RdLL W' W'.heap.size .i64 Ax px) => rcost_one (q := ⟨(W : Int), (H : Int), (d : Int), px⟩) (c := cx) hr (Nat.le_refl _) Lx)
  have C3 := Lib.hid (fun (W' : World) (hr : RdLL W' W'.heap.size .i64 Ax px) => best_one (q := ⟨(W : Int), (H : Int), (d : Int), px⟩) (c := cx) hr (Nat.le_refl _) Lx)
  have C4 := Lib.hid (fun (W' : World) (hr : RdLL W' W'.heap.size .i64 Ax px) => rbest_one (q := ⟨(W : Int), (H : Int), (d : Int), px⟩) (c := cx) hr (Nat.le_refl _) Lx)
  have D1 := Lib.hid (fun (W' : World) (hb : Below w.heap.size w W') => cost_one (q := ⟨pw, ph, pd, pp⟩) (c := cp) (hrp'.to (Nat.le_refl _) hb) (Nat.le_refl _) Lp)
  have D2 := Lib.hid (fun (W' : World) (hb : Below w.heap.size w W') => rcost_one (q := ⟨pw, ph, pd, pp⟩) (c := cp) (hrp'.to (Nat.le_refl _) hb) (Nat.le_refl _) Lp)
  have D3 := Lib.hid (fun (W' : World) (hb : Below w.heap.size w W') => best_one (q := ⟨pw, ph, pd, pp⟩) (c := cp) (hrp'.to (Nat.le_refl _) hb) (Nat.le_refl _) Lp)
  have D4 := Lib.hid (fun (W' : World) (hb : Below w.heap.size w W') => rbest_one (q := ⟨pw, ph, pd, pp⟩) (c := cp) (hrp'.to (Nat.le_refl _) hb) (Nat.le_refl _) Lp)
  simp only at C1 C2 C3 C4 D1 D2 D3 D4
  generalize costR ⟨(W : Int), (H : Int), (d : Int), px⟩ = s1 at *
  generalize bestR ⟨(W : Int), (H : Int), (d : Int), px⟩ = s2 at *
  generalize costR ⟨pw, ph, pd, pp⟩ = s3 at *
  generalize bestR ⟨pw, ph, pd, pp⟩ = s4 at *
  generalize w4.alloc (.cells #[.int .i64 (W : Int), .int .i64 (H : Int), .int .i64 (d : Int), .slice Ax px.length cx] 27) = wa at *
  generalize w4.heap.size = gx at *
  clear ho4 ax hg4 kp4 kp3 kp1 hT3 HT HP HH bb4 bb3 bb1 hb3 hb1
  go_loopw [10] (fun i wr => ∃ k : Int, -1 ≤ k ∧ k ≤ 6 ∧ i = .int .i64 k ∧ Below w.heap.size w wr ∧ Blk wr w.heap.size 27 #[.int .i64 pw, .int .i64 ph, .int .i64 pd, .slice Ap pp.length cp] ∧ Blk wr gx 27 #[.int .i64 (W : Int), .int .i64 (H : Int), .int .i64 (d : Int), .slice Ax px.length cx] ∧ RdLL wr wr.heap.size .i64 Ax px) (fun i _ => (6 - intOf i).toNat)
  case atStart => exact ⟨-1, by omega, by omega, rfl, bba, kpa, kx, rx⟩
  case round =>
    obtain ⟨k, hk0, hk1, rfl, hbr, hkp, hkx, hrx⟩ := hrel
    obtain ⟨y0, y1, y2, y3, _⟩ := hkp.four
    obtain ⟨z0, z1, z2, z3, _⟩ := hkx.four
    by_cases hk5 : k ≤ 5
    · go_wp2_with (first
        | (go_at_call 24; (with_reducible refine (HS1.out _ hrx k).mono ?_); rintro e v1 ⟨rfl, u1⟩; have b1 := below_then hbr u1; have kp1 := hkp.below u1 hkp.lt; have kx1 := hkx.below u1 hkx.lt; have rx1 := hrx.to (Nat.le_refl _) u1; clear y0 y1 y2 y3 z0 z1 z2 z3; obtain ⟨y0, y1, y2, y3, _⟩ := kp1.four)
        | (go_at_call 24; (with_reducible refine (HS2.out _ b1 k).mono ?_); rintro e v2 ⟨rfl, u2⟩; have b2 := below_then b1 u2; have kp2 := kp1.below u2 kp1.lt; have kx2 := kx1.below u2 kx1.lt; have rx2 := rx1.to (Nat.le_refl _) u2)
        | (go_at_call 17; (with_reducible refine (HM.out _ _ _).mono ?_); rintro e v3 ⟨rfl, rfl⟩)
        | (go_at_call 25; (with_reducible refine (HR.out _ _ _).mono ?_); rintro e v4 ⟨rfl, u4⟩; have b2 := below_then b2 u4; have kp2 := kp2.below u4 kp2.lt; have kx2 := kx2.below u4 kx2.lt; have rx2 := rx2.to (Nat.le_refl _) u4))
      go_roundw
      case rel => exact ⟨k + 1, by omega, by omega, by go_num, b2, kp2, kx2, rx2⟩
      case measure => simp [intOf]; omega
    · obtain rfl : k = 6 := by omega
      go_wp2
      refine wp_region_held_drew (S := (fun w' => Below wr.heap.size wr w')) (by kernel_rfl) ?_ (fun hHeld => ?_)
      focus exact (Below.refl _ _).drew
      refine wpAnyH_take (i := 0) (v := ?_) rfl (by kernel_rfl) (by kernel_rfl) (by kernel_rfl) (fun _ _ _ h => h) (Or.inl ⟨by kernel_rfl, ?_⟩) (by assumption) ?_
      rotate_left
      focus
        intro w9 hSw
        (try dsimp only at hSw)
        have zK : ∀ {a9 : Addr} {u9 : Value}, wr.cell? a9 = some u9 → w9.cell? a9 = some u9 := fun {a9} {u9} h9 => (hSw.cell (World.block_lt_of_cell? wr a9 h9)).trans h9
        have z0 := zK z0
        have z1 := zK z1
        have z2 := zK z2
        have z3 := zK z3
        clear zK hSw
        go_simp
        (try with_reducible rfl)
      (try simp only [Act.put, List.getElem_toArray, List.getElem_cons_succ, List.getElem_cons_zero, List.setIfInBounds_toArray, List.set_cons_zero, List.set_cons_succ])
      refine wpAnyH_take (i := 1) (v := ?_) rfl (by kernel_rfl) (by kernel_rfl) (by kernel_rfl) (fun _ _ _ h => h) (Or.inl ⟨by kernel_rfl, ?_⟩) (by assumption) ?_
      rotate_left
      focus
        intro w9 hSw
        (try dsimp only at hSw)
        have zK : ∀ {a9 : Addr} {u9 : Value}, wr.cell? a9 = some u9 → w9.cell? a9 = some u9 := fun {a9} {u9} h9 => (hSw.cell (World.block_lt_of_cell? wr a9 h9)).trans h9
        have z0 := zK z0
        have z1 := zK z1
        have z2 := zK z2
        have z3 := zK z3
        clear zK hSw
        go_simp
        (try with_reducible rfl)
      (try simp only [Act.put, List.getElem_toArray, List.getElem_cons_succ, List.getElem_cons_zero, List.setIfInBounds_toArray, List.set_cons_zero, List.set_cons_succ])
      refine wpAnyH_ready (rs := [2]) (by kernel_rfl) (by simp) (AllReadyH.cons rfl (fun K hK => ?_) AllReadyH.nil)
      go_simp
      have hrd : RdLL wr.drew wr.drew.heap.size .i64 Ax px := hrx
      go_at_call 24
      with_reducible refine (HS1.out _ hrd kk).mono ?_
      rintro e v0 ⟨rfl, hv⟩
      have q0 := below_undrew hv
      refine hK.out _ _ ?_ (fun hHeld => ?_)
      focus exact q0
      clear hK K
      (try simp only [Act.put, List.getElem_toArray, List.getElem_cons_succ, List.getElem_cons_zero, List.setIfInBounds_toArray, List.set_cons_zero, List.set_cons_succ])
      refine wpAnyH_take (i := 3) (v := ?_) rfl (by kernel_rfl) (by kernel_rfl) (by kernel_rfl) (fun _ _ _ h => h) (Or.inl ⟨by kernel_rfl, ?_⟩) (by assumption) ?_
      rotate_left
      focus
        intro w9 hSw
        (try dsimp only at hSw)
        have zK : ∀ {a9 : Addr} {u9 : Value}, wr.cell? a9 = some u9 → w9.cell? a9 = some u9 := fun {a9} {u9} h9 => (hSw.cell (World.block_lt_of_cell? wr a9 h9)).trans h9
        have z0 := zK z0
        have z1 := zK z1
        have z2 := zK z2
        have z3 := zK z3
        clear zK hSw
        go_simp
        (try with_reducible rfl)
      (try simp only [Act.put, List.getElem_toArray, List.getElem_cons_succ, List.getElem_cons_zero, List.setIfInBounds_toArray, List.set_cons_zero, List.set_cons_succ])
      refine wpAnyH_take (i := 4) (v := ?_) rfl (by kernel_rfl) (by kernel_rfl) (by kernel_rfl) (fun _ _ _ h => h) (Or.inl ⟨by kernel_rfl, ?_⟩) (by assumption) ?_
      rotate_left
      focus
        intro w9 hSw
        (try dsimp only at hSw)
        have zK : ∀ {a9 : Addr} {u9 : Value}, wr.cell? a9 = some u9 → w9.cell? a9 = some u9 := fun {a9} {u9} h9 => (hSw.cell (World.block_lt_of_cell? wr a9 h9)).trans h9
        have z0 := zK z0
        have z1 := zK z1
        have z2 := zK z2
        have z3 := zK z3
        clear zK hSw
        go_simp
        (try with_reducible rfl)
      (try simp only [Act.put, List.getElem_toArray, List.getElem_cons_succ, List.getElem_cons_zero, List.setIfInBounds_toArray, List.set_cons_zero, List.set_cons_succ])
      refine wpAnyH_take (i := 6) (v := ?_) rfl (by kernel_rfl) (by kernel_rfl) (by kernel_rfl) (fun _ _ _ h => h) (Or.inl ⟨by kernel_rfl, ?_⟩) (by assumption) ?_
      rotate_left
      focus
        intro w9 hSw
        (try dsimp only at hSw)
        have zK : ∀ {a9 : Addr} {u9 : Value}, wr.cell? a9 = some u9 → w9.cell? a9 = some u9 := fun {a9} {u9} h9 => (hSw.cell (World.block_lt_of_cell? wr a9 h9)).trans h9
        have z0 := zK z0
        have z1 := zK z1
        have z2 := zK z2
        have z3 := zK z3
        clear zK hSw
        go_simp
        (try with_reducible rfl)
      (try simp only [Act.put, List.getElem_toArray, List.getElem_cons_succ, List.getElem_cons_zero, List.setIfInBounds_toArray, List.set_cons_zero, List.set_cons_succ])
      refine wpAnyH_ready (rs := [5]) (by kernel_rfl) (by simp) (AllReadyH.cons rfl (fun K hK => ?_) AllReadyH.nil)
      go_simp
      have hrd0 : RdLL v0 v0.heap.size .i64 Ax px := hrx.to (Nat.le_refl _) q0
      go_at_call 15
      with_reducible refine (C1.out _ hrd0).mono ?_
      rintro e v1 ⟨rfl, hv0⟩
      have q1 := below_then q0 hv0
      refine hK.out _ _ ?_ (fun hHeld => ?_)
      focus exact q1
      clear hK K
      (try simp only [Act.put, List.getElem_toArray, List.getElem_cons_succ, List.getElem_cons_zero, List.setIfInBounds_toArray, List.set_cons_zero, List.set_cons_succ])
      refine wpAnyH_ready (rs := [7]) (by kernel_rfl) (by simp) (AllReadyH.cons rfl (fun K hK => ?_) AllReadyH.nil)
      go_simp
      have hrd1 : RdLL v1 v1.heap.size .i64 Ax px := hrx.to (Nat.le_refl _) q1
      go_at_call 26
      with_reducible refine (C2.out _ hrd1).mono ?_
      rintro e v2 ⟨rfl, hv1⟩
      have q2 := below_then q1 hv1
      refine hK.out _ _ ?_ (fun hHeld => ?_)
      focus exact q2
      clear hK K
      (try simp only [Act.put, List.getElem_toArray, List.getElem_cons_succ, List.getElem_cons_zero, List.setIfInBounds_toArray, List.set_cons_zero, List.set_cons_succ])
      refine wpAnyH_take (i := 8) (v := ?_) rfl (by kernel_rfl) (by kernel_rfl) (by kernel_rfl) (fun _ _ _ h => h) (Or.inl ⟨by kernel_rfl, ?_⟩) (by assumption) ?_
      rotate_left
      focus
        intro w9 hSw
        (try dsimp only at hSw)
        have zK : ∀ {a9 : Addr} {u9 : Value}, wr.cell? a9 = some u9 → w9.cell? a9 = some u9 := fun {a9} {u9} h9 => (hSw.cell (World.block_lt_of_cell? wr a9 h9)).trans h9
        have z0 := zK z0
        have z1 := zK z1
        have z2 := zK z2
        have z3 := zK z3
        clear zK hSw
        go_simp
        (try with_reducible rfl)
      (try simp only [Act.put, List.getElem_toArray, List.getElem_cons_succ, List.getElem_cons_zero, List.setIfInBounds_toArray, List.set_cons_zero, List.set_cons_succ])
      refine wpAnyH_take (i := 9) (v := ?_) rfl (by kernel_rfl) (by kernel_rfl) (by kernel_rfl) (fun _ _ _ h => h) (Or.inl ⟨by kernel_rfl, ?_⟩) (by assumption) ?_
      rotate_left
      focus
        intro w9 hSw
        (try dsimp only at hSw)
        have zK : ∀ {a9 : Addr} {u9 : Value}, wr.cell? a9 = some u9 → w9.cell? a9 = some u9 := fun {a9} {u9} h9 => (hSw.cell (World.block_lt_of_cell? wr a9 h9)).trans h9
        have z0 := zK z0
        have z1 := zK z1
        have z2 := zK z2
        have z3 := zK z3
        clear zK hSw
        go_simp
        (try with_reducible rfl)
      (try simp only [Act.put, List.getElem_toArray, List.getElem_cons_succ, List.getElem_cons_zero, List.setIfInBounds_toArray, List.set_cons_zero, List.set_cons_succ])
      refine wpAnyH_take (i := 10) (v := ?_) rfl (by kernel_rfl) (by kernel_rfl) (by kernel_rfl) (fun _ _ _ h => h) (Or.inl ⟨by kernel_rfl, ?_⟩) (by assumption) ?_
      rotate_left
      focus
        intro w9 hSw
        (try dsimp only at hSw)
        have zK : ∀ {a9 : Addr} {u9 : Value}, wr.cell? a9 = some u9 → w9.cell? a9 = some u9 := fun {a9} {u9} h9 => (hSw.cell (World.block_lt_of_cell? wr a9 h9)).trans h9
        have z0 := zK z0
        have z1 := zK z1
        have z2 := zK z2
        have z3 := zK z3
        clear zK hSw
        go_simp
        (try with_reducible rfl)
      (try simp only [Act.put, List.getElem_toArray, List.getElem_cons_succ, List.getElem_cons_zero, List.setIfInBounds_toArray, List.set_cons_zero, List.set_cons_succ])
      refine wpAnyH_take (i := 11) (v := ?_) rfl (by kernel_rfl) (by kernel_rfl) (by kernel_rfl) (fun _ _ _ h => h) (Or.inl ⟨by kernel_rfl, ?_⟩) (by assumption) ?_
      rotate_left
      focus
        intro w9 hSw
        (try dsimp only at hSw)
        have zK : ∀ {a9 : Addr} {u9 : Value}, wr.cell? a9 = some u9 → w9.cell? a9 = some u9 := fun {a9} {u9} h9 => (hSw.cell (World.block_lt_of_cell? wr a9 h9)).trans h9
        have z0 := zK z0
        have z1 := zK z1
        have z2 := zK z2
        have z3 := zK z3
        clear zK hSw
        go_simp
        (try with_reducible rfl)
      (try simp only [Act.put, List.getElem_toArray, List.getElem_cons_succ, List.getElem_cons_zero, List.setIfInBounds_toArray, List.set_cons_zero, List.set_cons_succ])
      refine wpAnyH_take (i := 13) (v := ?_) rfl (by kernel_rfl) (by kernel_rfl) (by kernel_rfl) (fun _ _ _ h => h) (Or.inl ⟨by kernel_rfl, ?_⟩) (by assumption) ?_
      rotate_left
      focus
        intro w9 hSw
        (try dsimp only at hSw)
        have zK : ∀ {a9 : Addr} {u9 : Value}, wr.cell? a9 = some u9 → w9.cell? a9 = some u9 := fun {a9} {u9} h9 => (hSw.cell (World.block_lt_of_cell? wr a9 h9)).trans h9
        have z0 := zK z0
        have z1 := zK z1
        have z2 := zK z2
        have z3 := zK z3
        clear zK hSw
        go_simp
        (try with_reducible rfl)
      (try simp only [Act.put, List.getElem_toArray, List.getElem_cons_succ, List.getElem_cons_zero, List.setIfInBounds_toArray, List.set_cons_zero, List.set_cons_succ])
      refine wpAnyH_ready (rs := [12]) (by kernel_rfl) (by simp) (AllReadyH.cons rfl (fun K hK => ?_) AllReadyH.nil)
      go_simp
      have hrd2 : RdLL v2 v2.heap.size .i64 Ax px := hrx.to (Nat.le_refl _) q2
      go_at_call 14
      with_reducible refine (C3.out _ hrd2).mono ?_
      rintro e v3 ⟨rfl, hv2⟩
      have q3 := below_then q2 hv2
      refine hK.out _ _ ?_ (fun hHeld => ?_)
      focus exact q3
      clear hK K
      (try simp only [Act.put, List.getElem_toArray, List.getElem_cons_succ, List.getElem_cons_zero, List.setIfInBounds_toArray, List.set_cons_zero, List.set_cons_succ])
      refine wpAnyH_ready (rs := [14]) (by kernel_rfl) (by simp) (AllReadyH.cons rfl (fun K hK => ?_) AllReadyH.nil)
      go_simp
      have hrd3 : RdLL v3 v3.heap.size .i64 Ax px := hrx.to (Nat.le_refl _) q3
      go_at_call 27
      with_reducible refine (C4.out _ hrd3).mono ?_
      rintro e v4 ⟨rfl, hv3⟩
      have q4 := below_then q3 hv3
      refine hK.out _ _ ?_ (fun hHeld => ?_)
      focus exact q4
      clear hK K
      (try simp only [Act.put, List.getElem_toArray, List.getElem_cons_succ, List.getElem_cons_zero, List.setIfInBounds_toArray, List.set_cons_zero, List.set_cons_succ])
      refine wpAnyH_take (i := 15) (v := ?_) rfl (by kernel_rfl) (by kernel_rfl) (by kernel_rfl) (fun _ _ _ h => h) (Or.inl ⟨by kernel_rfl, ?_⟩) (by assumption) ?_
      rotate_left
      focus
        intro w9 hSw
        (try dsimp only at hSw)
        have zK : ∀ {a9 : Addr} {u9 : Value}, wr.cell? a9 = some u9 → w9.cell? a9 = some u9 := fun {a9} {u9} h9 => (hSw.cell (World.block_lt_of_cell? wr a9 h9)).trans h9
        have z0 := zK y0
        have z1 := zK y1
        have z2 := zK y2
        have z3 := zK y3
        clear zK hSw
        go_simp
        (try with_reducible rfl)
      (try simp only [Act.put, List.getElem_toArray, List.getElem_cons_succ, List.getElem_cons_zero, List.setIfInBounds_toArray, List.set_cons_zero, List.set_cons_succ])
      refine wpAnyH_take (i := 16) (v := ?_) rfl (by kernel_rfl) (by kernel_rfl) (by kernel_rfl) (fun _ _ _ h => h) (Or.inl ⟨by kernel_rfl, ?_⟩) (by assumption) ?_
      rotate_left
      focus
        intro w9 hSw
        (try dsimp only at hSw)
        have zK : ∀ {a9 : Addr} {u9 : Value}, wr.cell? a9 = some u9 → w9.cell? a9 = some u9 := fun {a9} {u9} h9 => (hSw.cell (World.block_lt_of_cell? wr a9 h9)).trans h9
        have z0 := zK y0
        have z1 := zK y1
        have z2 := zK y2
        have z3 := zK y3
        clear zK hSw
        go_simp
        (try with_reducible rfl)
      (try simp only [Act.put, List.getElem_toArray, List.getElem_cons_succ, List.getElem_cons_zero, List.setIfInBounds_toArray, List.set_cons_zero, List.set_cons_succ])
      refine wpAnyH_take (i := 17) (v := ?_) rfl (by kernel_rfl) (by kernel_rfl) (by kernel_rfl) (fun _ _ _ h => h) (Or.inl ⟨by kernel_rfl, ?_⟩) (by assumption) ?_
      rotate_left
      focus
        intro w9 hSw
        (try dsimp only at hSw)
        have zK : ∀ {a9 : Addr} {u9 : Value}, wr.cell? a9 = some u9 → w9.cell? a9 = some u9 := fun {a9} {u9} h9 => (hSw.cell (World.block_lt_of_cell? wr a9 h9)).trans h9
        have z0 := zK y0
        have z1 := zK y1
        have z2 := zK y2
        have z3 := zK y3
        clear zK hSw
        go_simp
        (try with_reducible rfl)
      (try simp only [Act.put, List.getElem_toArray, List.getElem_cons_succ, List.getElem_cons_zero, List.setIfInBounds_toArray, List.set_cons_zero, List.set_cons_succ])
      refine wpAnyH_take (i := 18) (v := ?_) rfl (by kernel_rfl) (by kernel_rfl) (by kernel_rfl) (fun _ _ _ h => h) (Or.inl ⟨by kernel_rfl, ?_⟩) (by assumption) ?_
      rotate_left
      focus
        intro w9 hSw
        (try dsimp only at hSw)
        have zK : ∀ {a9 : Addr} {u9 : Value}, wr.cell? a9 = some u9 → w9.cell? a9 = some u9 := fun {a9} {u9} h9 => (hSw.cell (World.block_lt_of_cell? wr a9 h9)).trans h9
        have z0 := zK y0
        have z1 := zK y1
        have z2 := zK y2
        have z3 := zK y3
        clear zK hSw
        go_simp
        (try with_reducible rfl)
      (try simp only [Act.put, List.getElem_toArray, List.getElem_cons_succ, List.getElem_cons_zero, List.setIfInBounds_toArray, List.set_cons_zero, List.set_cons_succ])
      refine wpAnyH_take (i := 20) (v := ?_) rfl (by kernel_rfl) (by kernel_rfl) (by kernel_rfl) (fun _ _ _ h => h) (Or.inl ⟨by kernel_rfl, ?_⟩) (by assumption) ?_
      rotate_left
      focus
        intro w9 hSw
        (try dsimp only at hSw)
        have zK : ∀ {a9 : Addr} {u9 : Value}, wr.cell? a9 = some u9 → w9.cell? a9 = some u9 := fun {a9} {u9} h9 => (hSw.cell (World.block_lt_of_cell? wr a9 h9)).trans h9
        have z0 := zK y0
        have z1 := zK y1
        have z2 := zK y2
        have z3 := zK y3
        clear zK hSw
        go_simp
        (try with_reducible rfl)
      (try simp only [Act.put, List.getElem_toArray, List.getElem_cons_succ, List.getElem_cons_zero, List.setIfInBounds_toArray, List.set_cons_zero, List.set_cons_succ])
      refine wpAnyH_ready (rs := [19]) (by kernel_rfl) (by simp) (AllReadyH.cons rfl (fun K hK => ?_) AllReadyH.nil)
      go_simp
      have hbd4 : Below w.heap.size w v4 := below_then hbr q4
      go_at_call 15
      with_reducible refine (D1.out _ hbd4).mono ?_
      rintro e v5 ⟨rfl, hv4⟩
      have q5 := below_then q4 hv4
      refine hK.out _ _ ?_ (fun hHeld => ?_)
      focus exact q5
      clear hK K
      (try simp only [Act.put, List.getElem_toArray, List.getElem_cons_succ, List.getElem_cons_zero, List.setIfInBounds_toArray, List.set_cons_zero, List.set_cons_succ])
      refine wpAnyH_ready (rs := [21]) (by kernel_rfl) (by simp) (AllReadyH.cons rfl (fun K hK => ?_) AllReadyH.nil)
      go_simp
      have hbd5 : Below w.heap.size w v5 := below_then hbr q5
      go_at_call 26
      with_reducible refine (D2.out _ hbd5).mono ?_
      rintro e v6 ⟨rfl, hv5⟩
      have q6 := below_then q5 hv5
      refine hK.out _ _ ?_ (fun hHeld => ?_)
      focus exact q6
      clear hK K
      (try simp only [Act.put, List.getElem_toArray, List.getElem_cons_succ, List.getElem_cons_zero, List.setIfInBounds_toArray, List.set_cons_zero, List.set_cons_succ])
      refine wpAnyH_take (i := 22) (v := ?_) rfl (by kernel_rfl) (by kernel_rfl) (by kernel_rfl) (fun _ _ _ h => h) (Or.inl ⟨by kernel_rfl, ?_⟩) (by assumption) ?_
      rotate_left
      focus
        intro w9 hSw
        (try dsimp only at hSw)
        have zK : ∀ {a9 : Addr} {u9 : Value}, wr.cell? a9 = some u9 → w9.cell? a9 = some u9 := fun {a9} {u9} h9 => (hSw.cell (World.block_lt_of_cell? wr a9 h9)).trans h9
        have z0 := zK y0
        have z1 := zK y1
        have z2 := zK y2
        have z3 := zK y3
        clear zK hSw
        go_simp
        (try with_reducible rfl)
      (try simp only [Act.put, List.getElem_toArray, List.getElem_cons_succ, List.getElem_cons_zero, List.setIfInBounds_toArray, List.set_cons_zero, List.set_cons_succ])
      refine wpAnyH_take (i := 23) (v := ?_) rfl (by kernel_rfl) (by kernel_rfl) (by kernel_rfl) (fun _ _ _ h => h) (Or.inl ⟨by kernel_rfl, ?_⟩) (by assumption) ?_
      rotate_left
      focus
        intro w9 hSw
        (try dsimp only at hSw)
        have zK : ∀ {a9 : Addr} {u9 : Value}, wr.cell? a9 = some u9 → w9.cell? a9 = some u9 := fun {a9} {u9} h9 => (hSw.cell (World.block_lt_of_cell? wr a9 h9)).trans h9
        have z0 := zK y0
        have z1 := zK y1
        have z2 := zK y2
        have z3 := zK y3
        clear zK hSw
        go_simp
        (try with_reducible rfl)
      (try simp only [Act.put, List.getElem_toArray, List.getElem_cons_succ, List.getElem_cons_zero, List.setIfInBounds_toArray, List.set_cons_zero, List.set_cons_succ])
      refine wpAnyH_take (i := 24) (v := ?_) rfl (by kernel_rfl) (by kernel_rfl) (by kernel_rfl) (fun _ _ _ h => h) (Or.inl ⟨by kernel_rfl, ?_⟩) (by assumption) ?_
      rotate_left
      focus
        intro w9 hSw
        (try dsimp only at hSw)
        have zK : ∀ {a9 : Addr} {u9 : Value}, wr.cell? a9 = some u9 → w9.cell? a9 = some u9 := fun {a9} {u9} h9 => (hSw.cell (World.block_lt_of_cell? wr a9 h9)).trans h9
        have z0 := zK y0
        have z1 := zK y1
        have z2 := zK y2
        have z3 := zK y3
        clear zK hSw
        go_simp
        (try with_reducible rfl)
      (try simp only [Act.put, List.getElem_toArray, List.getElem_cons_succ, List.getElem_cons_zero, List.setIfInBounds_toArray, List.set_cons_zero, List.set_cons_succ])
      refine wpAnyH_take (i := 25) (v := ?_) rfl (by kernel_rfl) (by kernel_rfl) (by kernel_rfl) (fun _ _ _ h => h) (Or.inl ⟨by kernel_rfl, ?_⟩) (by assumption) ?_
      rotate_left
      focus
        intro w9 hSw
        (try dsimp only at hSw)
        have zK : ∀ {a9 : Addr} {u9 : Value}, wr.cell? a9 = some u9 → w9.cell? a9 = some u9 := fun {a9} {u9} h9 => (hSw.cell (World.block_lt_of_cell? wr a9 h9)).trans h9
        have z0 := zK y0
        have z1 := zK y1
        have z2 := zK y2
        have z3 := zK y3
        clear zK hSw
        go_simp
        (try with_reducible rfl)
      (try simp only [Act.put, List.getElem_toArray, List.getElem_cons_succ, List.getElem_cons_zero, List.setIfInBounds_toArray, List.set_cons_zero, List.set_cons_succ])
      refine wpAnyH_take (i := 27) (v := ?_) rfl (by kernel_rfl) (by kernel_rfl) (by kernel_rfl) (fun _ _ _ h => h) (Or.inl ⟨by kernel_rfl, ?_⟩) (by assumption) ?_
      rotate_left
      focus
        intro w9 hSw
        (try dsimp only at hSw)
        have zK : ∀ {a9 : Addr} {u9 : Value}, wr.cell? a9 = some u9 → w9.cell? a9 = some u9 := fun {a9} {u9} h9 => (hSw.cell (World.block_lt_of_cell? wr a9 h9)).trans h9
        have z0 := zK y0
        have z1 := zK y1
        have z2 := zK y2
        have z3 := zK y3
        clear zK hSw
        go_simp
        (try with_reducible rfl)
      (try simp only [Act.put, List.getElem_toArray, List.getElem_cons_succ, List.getElem_cons_zero, List.setIfInBounds_toArray, List.set_cons_zero, List.set_cons_succ])
      refine wpAnyH_ready (rs := [26]) (by kernel_rfl) (by simp) (AllReadyH.cons rfl (fun K hK => ?_) AllReadyH.nil)
      go_simp
      have hbd6 : Below w.heap.size w v6 := below_then hbr q6
      go_at_call 14
      with_reducible refine (D3.out _ hbd6).mono ?_
      rintro e v7 ⟨rfl, hv6⟩
      have q7 := below_then q6 hv6
      refine hK.out _ _ ?_ (fun hHeld => ?_)
      focus exact q7
      clear hK K
      (try simp only [Act.put, List.getElem_toArray, List.getElem_cons_succ, List.getElem_cons_zero, List.setIfInBounds_toArray, List.set_cons_zero, List.set_cons_succ])
      refine wpAnyH_ready (rs := [28]) (by kernel_rfl) (by simp) (AllReadyH.cons rfl (fun K hK => ?_) AllReadyH.nil)
      go_simp
      have hbd7 : Below w.heap.size w v7 := below_then hbr q7
      go_at_call 27
      with_reducible refine (D4.out _ hbd7).mono ?_
      rintro e v8 ⟨rfl, hv7⟩
      have q8 := below_then q7 hv7
      refine hK.out _ _ ?_ (fun hHeld => ?_)
      focus exact q8
      clear hK K
      (try simp only [Act.put, List.getElem_toArray, List.getElem_cons_succ, List.getElem_cons_zero, List.setIfInBounds_toArray, List.set_cons_zero, List.set_cons_succ])
      refine wpAnyH_take (i := 29) (v := ?_) rfl (by kernel_rfl) (by kernel_rfl) (by kernel_rfl) (fun _ _ _ h => h) (Or.inl ⟨by kernel_rfl, ?_⟩) (by assumption) ?_
      rotate_left
      focus
        intro w9 hSw
        (try dsimp only at hSw)
        have zK : ∀ {a9 : Addr} {u9 : Value}, wr.cell? a9 = some u9 → w9.cell? a9 = some u9 := fun {a9} {u9} h9 => (hSw.cell (World.block_lt_of_cell? wr a9 h9)).trans h9
        have z0 := zK y0
        have z1 := zK y1
        have z2 := zK y2
        have z3 := zK y3
        clear zK hSw
        go_simp
        (try with_reducible rfl)
      (try simp only [Act.put, List.getElem_toArray, List.getElem_cons_succ, List.getElem_cons_zero, List.setIfInBounds_toArray, List.set_cons_zero, List.set_cons_succ])
      refine wpAnyH_take (i := 30) (v := ?_) rfl (by kernel_rfl) (by kernel_rfl) (by kernel_rfl) (fun _ _ _ h => h) (Or.inl ⟨by kernel_rfl, ?_⟩) (by assumption) ?_
      rotate_left
      focus
        intro w9 hSw
        (try dsimp only at hSw)
        have zK : ∀ {a9 : Addr} {u9 : Value}, wr.cell? a9 = some u9 → w9.cell? a9 = some u9 := fun {a9} {u9} h9 => (hSw.cell (World.block_lt_of_cell? wr a9 h9)).trans h9
        have z0 := zK y0
        have z1 := zK y1
        have z2 := zK y2
        have z3 := zK y3
        clear zK hSw
        go_simp
        (try with_reducible rfl)
      (try simp only [Act.put, List.getElem_toArray, List.getElem_cons_succ, List.getElem_cons_zero, List.setIfInBounds_toArray, List.set_cons_zero, List.set_cons_succ])
      refine wpAnyH_take (i := 31) (v := ?_) rfl (by kernel_rfl) (by kernel_rfl) (by kernel_rfl) (fun _ _ _ h => h) (Or.inl ⟨by kernel_rfl, ?_⟩) (by assumption) ?_
      rotate_left
      focus
        intro w9 hSw
        (try dsimp only at hSw)
        have zK : ∀ {a9 : Addr} {u9 : Value}, wr.cell? a9 = some u9 → w9.cell? a9 = some u9 := fun {a9} {u9} h9 => (hSw.cell (World.block_lt_of_cell? wr a9 h9)).trans h9
        have z0 := zK y0
        have z1 := zK y1
        have z2 := zK y2
        have z3 := zK y3
        clear zK hSw
        go_simp
        (try with_reducible rfl)
      (try simp only [Act.put, List.getElem_toArray, List.getElem_cons_succ, List.getElem_cons_zero, List.setIfInBounds_toArray, List.set_cons_zero, List.set_cons_succ])
      refine wpAnyH_ready (rs := [32]) (by kernel_rfl) (by simp) (AllReadyH.cons rfl (fun K hK => ?_) AllReadyH.nil)
      go_simp
      go_at_call 13
      with_reducible refine (HK.out _).mono ?_
      rintro e v9 ⟨rfl, hv8⟩
      have q9 := below_then q8 hv8
      refine hK.out _ _ ?_ (fun hHeld => ?_)
      focus exact q9
      clear hK K
      (try simp only [Act.put, List.getElem_toArray, List.getElem_cons_succ, List.getElem_cons_zero, List.setIfInBounds_toArray, List.set_cons_zero, List.set_cons_succ])
      refine wpAnyH_take (i := 33) (v := ?_) rfl (by kernel_rfl) (by kernel_rfl) (by kernel_rfl) (fun _ _ _ h => h) (Or.inl ⟨by kernel_rfl, ?_⟩) (by assumption) ?_
      rotate_left
      focus
        intro w9 hSw
        (try dsimp only at hSw)
        go_simp
        (try with_reducible rfl)
      (try simp only [Act.put, List.getElem_toArray, List.getElem_cons_succ, List.getElem_cons_zero, List.setIfInBounds_toArray, List.set_cons_zero, List.set_cons_succ])
      refine wpAnyH_take (i := 34) (v := ?_) rfl (by kernel_rfl) (by kernel_rfl) (by kernel_rfl) (fun _ _ _ h => h) (Or.inl ⟨by kernel_rfl, ?_⟩) (by assumption) ?_
      rotate_left
      focus
        intro w9 hSw
        (try dsimp only at hSw)
        go_simp
        (try with_reducible rfl)
      (try simp only [Act.put, List.getElem_toArray, List.getElem_cons_succ, List.getElem_cons_zero, List.setIfInBounds_toArray, List.set_cons_zero, List.set_cons_succ])
      refine wpAnyH_done (by kernel_rfl) ?_ _
      (try simp only [Act.put, List.getElem_toArray, List.getElem_cons_succ, List.getElem_cons_zero, List.setIfInBounds_toArray, List.set_cons_zero, List.set_cons_succ])
      go_wp2
      go_ret
      exact ⟨rfl, by first | exact below_then hbr q9 | exact (below_then hbr q9).drew⟩
end Go.Proofs.Yticjiodnolngcaa.hueTells
