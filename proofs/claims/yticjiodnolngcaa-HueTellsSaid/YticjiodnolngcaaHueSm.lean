/- Law 21's same: fore and back by program and reference are alike, for any picture and kind. -/
import Derived.Test.YticjiodnolngcaaHueR13
set_option linter.unusedSimpArgs false
set_option linter.unusedVariables false
namespace Go.Proofs.Yticjiodnolngcaa
open Go.RowKit

set_option maxHeartbeats 8000000 in
set_option maxRecDepth 100000 in
theorem samelaw_any {w : World} {B : Nat} {q : Pc} {A : Option Addr} {c : Nat} (hr : RdLL w B .i64 A q.p) (hB : B ≤ w.heap.size) (h63 : Len63 q.p) (k : Int) :
    Calls Try.prog 24 #[.agg #[.int .i64 q.w, .int .i64 q.h, .int .i64 q.d, .slice A q.p.length c], .int .i64 k] w fun e w' => e = .returned (.bool true) ∧ Below w.heap.size w w' := by
  have H1 := Lib.hid (fun W (hb : Below w.heap.size w W) => fore_one (c := c) (hr.to hB hb) (Nat.le_refl _) h63 k)
  have H2 := Lib.hid (fun W (hb : Below w.heap.size w W) => rfore_one (c := c) (hr.to hB hb) (Nat.le_refl _) h63 k)
  have H3 := Lib.hid (fun W (hb : Below w.heap.size w W) => back_one (c := c) (hr.to hB hb) (Nat.le_refl _) h63 k)
  have H4 := Lib.hid (fun W (hb : Below w.heap.size w W) => rback_one (c := c) (hr.to hB hb) (Nat.le_refl _) h63 k)
  have L1 := hueR_len foreC q k
  have L2 := hueR_len backC q k
  generalize hueR foreC q k = R1 at *
  generalize hueR backC q k = R2 at *
  obtain ⟨⟨w1, h1, d1, p1⟩, e1⟩ := R1
  obtain ⟨⟨w2, h2, d2, p2⟩, e2⟩ := R2
  simp only at H1 H2 H3 H4 L1 L2
  have S1 := fun (W' : World) (A' A2 : Option Addr) (c' c2 : Nat) (ha : RdLL W' W'.heap.size .i64 A' p1) (hb : RdLL W' W'.heap.size .i64 A2 p1) => same_any (a := ⟨w1, h1, d1, p1⟩) (b := ⟨w1, h1, d1, p1⟩) (c := c') (c2 := c2) ha hb (Nat.le_refl _) L1
  have S2 := fun (W' : World) (A' A2 : Option Addr) (c' c2 : Nat) (ha : RdLL W' W'.heap.size .i64 A' p2) (hb : RdLL W' W'.heap.size .i64 A2 p2) => same_any (a := ⟨w2, h2, d2, p2⟩) (b := ⟨w2, h2, d2, p2⟩) (c := c') (c2 := c2) ha hb (Nat.le_refl _) L2
  rw [show sameB ⟨w1, h1, d1, p1⟩ ⟨w1, h1, d1, p1⟩ = true by simp [sameB]] at S1
  rw [show sameB ⟨w2, h2, d2, p2⟩ ⟨w2, h2, d2, p2⟩ = true by simp [sameB]] at S2
  replace S1 := Lib.hid S1
  replace S2 := Lib.hid S2
  clear L1 L2 h63 hr
  go_enter Try.func24, Try.ntmps24
  go_wp2_with (first
    | (go_at_call 11; (with_reducible refine (H1.out _ (by repeat (first | exact Below.refl _ _ | assumption | refine Below.drew ?_ | refine below_drewN ?_ _ | refine below_alloc ?_ _))).mono ?_); rintro e v1 ⟨A1, c1, rfl, r1, b1⟩; have t1 := below_then (below_alloc (Below.refl w.heap.size w) (.cells #[.int .i64 q.w, .int .i64 q.h, .int .i64 q.d, .slice A q.p.length c] 27)) b1; have kk1 := (Blk.new w 27 #[.int .i64 q.w, .int .i64 q.h, .int .i64 q.d, .slice A q.p.length c]).below b1 (by simp); have bx1 := below_alloc (Below.refl v1.heap.size v1) (.cells #[.int .i64 w1, .int .i64 h1, .int .i64 d1, .slice A1 p1.length c1] 27); have bb1 := below_then b1 bx1; have y1 := below_then t1 bx1; have kA1 := kk1.alloc (.cells #[.int .i64 w1, .int .i64 h1, .int .i64 d1, .slice A1 p1.length c1] 27); have g1_1 := Blk.new v1 27 #[.int .i64 w1, .int .i64 h1, .int .i64 d1, .slice A1 p1.length c1]; have ra1_1 := r1.to (Nat.le_refl _) bx1; obtain ⟨x0, x1, x2, x3, _⟩ := kA1.four)
    | (go_at_call 39; (with_reducible refine (H2.out _ (by repeat (first | exact Below.refl _ _ | assumption | refine Below.drew ?_ | refine below_drewN ?_ _ | refine below_alloc ?_ _))).mono ?_); rintro e v2 ⟨A2, c2, rfl, r2, b2⟩; have t2 := below_then y1 b2; have kk2 := kA1.below b2 kA1.lt; have bx2 := below_alloc (Below.refl v2.heap.size v2) (.cells #[.int .i64 w1, .int .i64 h1, .int .i64 d1, .slice A2 p1.length c2] 27); have bb2 := below_then b2 bx2; have y2 := below_then t2 bx2; have kA2 := kk2.alloc (.cells #[.int .i64 w1, .int .i64 h1, .int .i64 d1, .slice A2 p1.length c2] 27); have g2_2 := Blk.new v2 27 #[.int .i64 w1, .int .i64 h1, .int .i64 d1, .slice A2 p1.length c2]; have ra2_2 := r2.to (Nat.le_refl _) bx2; have g1_2 := g1_1.below bb2 g1_1.lt; have ra1_2 := ra1_1.to (Nat.le_refl _) bb2; clear x0 x1 x2 x3; obtain ⟨x0, x1, x2, x3, _⟩ := kA2.four)
    | (go_at_call 18; (with_reducible refine (H3.out _ (by repeat (first | exact Below.refl _ _ | assumption | refine Below.drew ?_ | refine below_drewN ?_ _ | refine below_alloc ?_ _))).mono ?_); rintro e v3 ⟨A3, c3, rfl, r3, b3⟩; have t3 := below_then y2 b3; have kk3 := kA2.below b3 kA2.lt; have bx3 := below_alloc (Below.refl v3.heap.size v3) (.cells #[.int .i64 w2, .int .i64 h2, .int .i64 d2, .slice A3 p2.length c3] 27); have bb3 := below_then b3 bx3; have y3 := below_then t3 bx3; have kA3 := kk3.alloc (.cells #[.int .i64 w2, .int .i64 h2, .int .i64 d2, .slice A3 p2.length c3] 27); have g3_3 := Blk.new v3 27 #[.int .i64 w2, .int .i64 h2, .int .i64 d2, .slice A3 p2.length c3]; have ra3_3 := r3.to (Nat.le_refl _) bx3; have g1_3 := g1_2.below bb3 g1_2.lt; have ra1_3 := ra1_2.to (Nat.le_refl _) bb3; have g2_3 := g2_2.below bb3 g2_2.lt; have ra2_3 := ra2_2.to (Nat.le_refl _) bb3; clear x0 x1 x2 x3; obtain ⟨x0, x1, x2, x3, _⟩ := kA3.four)
    | (go_at_call 40; (with_reducible refine (H4.out _ (by repeat (first | exact Below.refl _ _ | assumption | refine Below.drew ?_ | refine below_drewN ?_ _ | refine below_alloc ?_ _))).mono ?_); rintro e v4 ⟨A4, c4, rfl, r4, b4⟩; have t4 := below_then y3 b4; have kk4 := kA3.below b4 kA3.lt; have bx4 := below_alloc (Below.refl v4.heap.size v4) (.cells #[.int .i64 w2, .int .i64 h2, .int .i64 d2, .slice A4 p2.length c4] 27); have bb4 := below_then b4 bx4; have y4 := below_then t4 bx4; have kA4 := kk4.alloc (.cells #[.int .i64 w2, .int .i64 h2, .int .i64 d2, .slice A4 p2.length c4] 27); have g4_4 := Blk.new v4 27 #[.int .i64 w2, .int .i64 h2, .int .i64 d2, .slice A4 p2.length c4]; have ra4_4 := r4.to (Nat.le_refl _) bx4; have g1_4 := g1_3.below bb4 g1_3.lt; have ra1_4 := ra1_3.to (Nat.le_refl _) bb4; have g2_4 := g2_3.below bb4 g2_3.lt; have ra2_4 := ra2_3.to (Nat.le_refl _) bb4; have g3_4 := g3_3.below bb4 g3_3.lt; have ra3_4 := ra3_3.to (Nat.le_refl _) bb4; clear x0 x1 x2 x3; obtain ⟨x0, x1, x2, x3, _⟩ := g1_4.four; obtain ⟨z0, z1, z2, z3, _⟩ := g2_4.four)
    | (go_at_call 19; (with_reducible refine (S1.out _ _ _ _ _ ra1_4 ra2_4).mono ?_); rintro e v5 ⟨rfl, b5⟩; have y5 := below_then y4 b5; have g3_5 := g3_4.below b5 g3_4.lt; have g4_5 := g4_4.below b5 g4_4.lt; have ra3_5 := ra3_4.to (Nat.le_refl _) b5; have ra4_5 := ra4_4.to (Nat.le_refl _) b5; clear x0 x1 x2 x3 z0 z1 z2 z3; obtain ⟨x0, x1, x2, x3, _⟩ := g3_5.four; obtain ⟨z0, z1, z2, z3, _⟩ := g4_5.four)
    | (go_at_call 19; (with_reducible refine (S2.out _ _ _ _ _ ra3_5 ra4_5).mono ?_); rintro e v6 ⟨rfl, b6⟩; have y6 := below_then y5 b6))
  go_ret
  exact ⟨rfl, y6⟩
end Go.Proofs.Yticjiodnolngcaa
