/- hue.May, forePoint, backPoint. -/
import Derived.Test.YticjiodnolngcaaHueL
import Derived.Test.YticjiodnolngcaaPicLast
import Derived.Deep.QuietTactic
set_option linter.unusedSimpArgs false
set_option linter.unusedVariables false
namespace Go.Proofs.Yticjiodnolngcaa
open Go.RowKit

def mayB (n k : Int) : Bool := decide (1 ≤ n ∧ n ≤ 4 ∧ (k = 0 ∨ (k = 1 ∧ 3 ≤ n) ∨ (k = 2 ∧ 3 ≤ n) ∨ (k = 3 ∧ 3 ≤ n) ∨ (k = 4 ∧ 2 ≤ n)))
set_option maxHeartbeats 1000000 in
theorem may_any (n k : Int) (w : World) : Calls Try.prog 17 #[.int .i64 n, .int .i64 k] w fun e w' => e = .returned (.bool (mayB n k)) ∧ w = w' := by
  go_enter Try.func17, Try.ntmps17
  go_wp2
  all_goals
    go_ret
    exact ⟨ret_bool (by unfold mayB; (try simp only [beq_iff_eq, beq_eq_false_iff_ne, decide_eq_true_eq, decide_eq_false_iff_not] at *); first | (simp; omega) | (rw [decide_eq_decide]; omega)), rfl⟩

theorem foldP_range {d : Int} (hd : 1 ≤ d ∧ d ≤ 16) (v : Int) : -32768 ≤ foldP v d ∧ foldP v d ≤ 32767 := by
  obtain ⟨p0, p1, p2⟩ := pow_16 (k := d.toNat) (by omega) (by omega)
  have h0 := Int.emod_nonneg v (show (2 : Int) ^ d.toNat ≠ 0 by omega)
  have h1 := Int.emod_lt_of_pos v (show (0 : Int) < 2 ^ d.toNat by omega)
  rw [foldP, if_pos hd]
  split <;> omega
theorem wrapP_range2 {d : Int} (hd : 1 ≤ d ∧ d ≤ 16) (v : Int) : 0 ≤ wrapP v d ∧ wrapP v d ≤ 65535 := by
  have h := wrapP_range hd v
  have := (pow_16 (k := d.toNat) (by omega) (by omega)).2.1
  omega
theorem wrap_hid (v d : Int) (hd : 1 ≤ d ∧ d ≤ 16) (w : World) : Calls Try.prog 45 #[.int .i64 v, .int .i64 d] w fun e w' => ∃ u, e = .returned (.int .i64 u) ∧ 0 ≤ u ∧ u ≤ 65535 ∧ Hid (u = wrapP v d) ∧ w = w' :=
  (wrap_any v d w).mono fun _ _ ⟨he, hw⟩ => ⟨_, he, (wrapP_range2 hd v).1, (wrapP_range2 hd v).2, rfl, hw⟩
theorem fold_hid (v d : Int) (hd : 1 ≤ d ∧ d ≤ 16) (w : World) : Calls Try.prog 33 #[.int .i64 v, .int .i64 d] w fun e w' => ∃ u, e = .returned (.int .i64 u) ∧ -32768 ≤ u ∧ u ≤ 32767 ∧ Hid (u = foldP v d) ∧ w = w' :=
  (fold_any v d w).mono fun _ _ ⟨he, hw⟩ => ⟨_, he, (foldP_range hd v).1, (foldP_range hd v).2, rfl, hw⟩

/-- What the four samples are as an array. -/
def C4.val (x : C4) : Value := .agg #[.int .i64 x.a, .int .i64 x.b, .int .i64 x.c, .int .i64 x.e]
def C4.small (x : C4) : Prop := (0 ≤ x.a ∧ x.a ≤ 65535) ∧ (0 ≤ x.b ∧ x.b ≤ 65535) ∧ (0 ≤ x.c ∧ x.c ≤ 65535) ∧ (0 ≤ x.e ∧ x.e ≤ 65535)
theorem C4.ok_small {x : C4} {d : Int} (hd : 1 ≤ d ∧ d ≤ 16) (h : x.ok d) : x.small := by
  have := (pow_16 (k := d.toNat) (by omega) (by omega)).2.1
  obtain ⟨h1, h2, h3, h4⟩ := h
  exact ⟨by omega, by omega, by omega, by omega⟩

theorem foreC_1 (d a b c e : Int) : foreC 1 d ⟨a, b, c, e⟩ = ⟨wrapP (a - b) d, b, wrapP (c - b) d, e⟩ := rfl
theorem foreC_2 (d a b c e : Int) : foreC 2 d ⟨a, b, c, e⟩ = ⟨wrapP (fore2t ⟨a, b, c, e⟩ d + foldP (wrapP (b - fore2t ⟨a, b, c, e⟩ d) d) d / 2) d, wrapP (a - c) d, wrapP (b - fore2t ⟨a, b, c, e⟩ d) d, e⟩ := rfl
theorem foreC_3 (d a b c e : Int) : foreC 3 d ⟨a, b, c, e⟩ = ⟨wrapP (b + (foldP (wrapP (c - b) d) d + foldP (wrapP (a - b) d) d) / 4) d, wrapP (c - b) d, wrapP (a - b) d, e⟩ := rfl
theorem foreC_4 (d a b c e : Int) : foreC 4 d ⟨a, b, c, e⟩ = ⟨a, wrapP (b - a) d, wrapP (c - b) d, wrapP (e - c) d⟩ := rfl
theorem foreC_o {kind : Int} (h1 : kind ≠ 1) (h2 : kind ≠ 2) (h3 : kind ≠ 3) (h4 : kind ≠ 4) (d : Int) (x : C4) : foreC kind d x = x := by rw [foreC, if_neg h1, if_neg h2, if_neg h3, if_neg h4]
theorem backC_1 (d a b c e : Int) : backC 1 d ⟨a, b, c, e⟩ = ⟨wrapP (a + b) d, b, wrapP (c + b) d, e⟩ := rfl
theorem backC_2 (d a b c e : Int) : backC 2 d ⟨a, b, c, e⟩ = ⟨wrapP (b + back2b ⟨a, b, c, e⟩ d) d, wrapP (c + back2t ⟨a, b, c, e⟩ d) d, back2b ⟨a, b, c, e⟩ d, e⟩ := rfl
theorem backC_3 (d a b c e : Int) : backC 3 d ⟨a, b, c, e⟩ = ⟨wrapP (c + back3g ⟨a, b, c, e⟩ d) d, back3g ⟨a, b, c, e⟩ d, wrapP (b + back3g ⟨a, b, c, e⟩ d) d, e⟩ := rfl
theorem backC_4 (d a b c e : Int) : backC 4 d ⟨a, b, c, e⟩ = ⟨a, wrapP (b + a) d, wrapP (c + wrapP (b + a) d) d, wrapP (e + wrapP (c + wrapP (b + a) d) d) d⟩ := rfl
theorem backC_o {kind : Int} (h1 : kind ≠ 1) (h2 : kind ≠ 2) (h3 : kind ≠ 3) (h4 : kind ≠ 4) (d : Int) (x : C4) : backC kind d x = x := by rw [backC, if_neg h1, if_neg h2, if_neg h3, if_neg h4]
theorem agg4 {a b c e a' b' c' e' : Int} (h1 : a = a') (h2 : b = b') (h3 : c = c') (h4 : e = e') : Ending.returned (.agg #[.int .i64 a, .int .i64 b, .int .i64 c, .int .i64 e]) = .returned (C4.val ⟨a', b', c', e'⟩) := by
  subst h1 h2 h3 h4
  rfl

set_option maxHeartbeats 2000000 in
theorem fore_1 (a b c e : Int) (hs : C4.small ⟨a, b, c, e⟩) (d : Int) (hd : 1 ≤ d ∧ d ≤ 16) (w : World) :
    Calls Try.prog 32 #[.agg #[.int .i64 a, .int .i64 b, .int .i64 c, .int .i64 e], .int .i64 1, .int .i64 d] w fun en w' => en = .returned (C4.val (foreC 1 d ⟨a, b, c, e⟩)) ∧ Below w.heap.size w w' := by
  rw [foreC_1]
  obtain ⟨⟨a0, a1⟩, ⟨b0, b1⟩, ⟨c0, c1⟩, ⟨e0, e1⟩⟩ := hs
  simp only at *
  have HW := Lib.hid (fun v W => wrap_hid v d hd W)
  have HF := Lib.hid (fun v W => fold_hid v d hd W)
  go_enter Try.func32, Try.ntmps32
  go_wp2
  have kb := (Blk.new w 52 #[.int .i64 a, .int .i64 b, .int .i64 c, .int .i64 e]).alloc (.cells #[.int .i64 0, .int .i64 0, .int .i64 0, .int .i64 0] 52)
  have kr := Blk.new1 w (.cells #[.int .i64 a, .int .i64 b, .int .i64 c, .int .i64 e] 52) 52 #[.int .i64 0, .int .i64 0, .int .i64 0, .int .i64 0]
  have bx := below_alloc (below_alloc (Below.refl w.heap.size w) (.cells #[.int .i64 a, .int .i64 b, .int .i64 c, .int .i64 e] 52)) (.cells #[.int .i64 0, .int .i64 0, .int .i64 0, .int .i64 0] 52)
  generalize (w.alloc (.cells #[.int .i64 a, .int .i64 b, .int .i64 c, .int .i64 e] 52)).alloc (.cells #[.int .i64 0, .int .i64 0, .int .i64 0, .int .i64 0] 52) = wa at *
  obtain ⟨x0, x1, x2, x3, f0, f1, f2, f3⟩ := kb.four
  obtain ⟨q0, q1, q2, q3, g0, g1, g2, g3⟩ := kr.four
  go_quiet (fail)
  clear x0 x1 x2 x3 f0 f1 f2 f3 q0 q1 q2 q3 g0 g1 g2 g3
  replace kb := kb.drewN nq
  replace kr := kr.drewN nq
  replace bx := below_drewN bx nq
  generalize wa.drewN nq = wb at *
  obtain ⟨x0, x1, x2, x3, f0, f1, f2, f3⟩ := kb.four
  obtain ⟨q0, q1, q2, q3, g0, g1, g2, g3⟩ := kr.four
  go_wp2_with (fail)
  refine (HW.out _ _).mono ?_
  rintro en w1 ⟨u1, rfl, l1, h1, hu1, rfl⟩
  go_wp2_with (fail)
  refine (HW.out _ _).mono ?_
  rintro en w2 ⟨u2, rfl, l2, h2, hu2, rfl⟩
  go_wp2
  refine bodyPost_ret (v := .agg #[.int .i64 u1, .int .i64 b, .int .i64 u2, .int .i64 e]) (by simp [results, Try.results32, go_sem, q0, q1, q2, q3]) rfl ⟨agg4 (by rw [hu1.out] <;> rfl) rfl (by rw [hu2.out] <;> rfl) rfl, ?_⟩
  repeat (refine Below.setCell ?_ (by simp) _)
  exact bx

set_option maxHeartbeats 2000000 in
theorem fore_2 (a b c e : Int) (hs : C4.small ⟨a, b, c, e⟩) (d : Int) (hd : 1 ≤ d ∧ d ≤ 16) (w : World) :
    Calls Try.prog 32 #[.agg #[.int .i64 a, .int .i64 b, .int .i64 c, .int .i64 e], .int .i64 2, .int .i64 d] w fun en w' => en = .returned (C4.val (foreC 2 d ⟨a, b, c, e⟩)) ∧ Below w.heap.size w w' := by
  rw [foreC_2]
  obtain ⟨⟨a0, a1⟩, ⟨b0, b1⟩, ⟨c0, c1⟩, ⟨e0, e1⟩⟩ := hs
  simp only at *
  have HW := Lib.hid (fun v W => wrap_hid v d hd W)
  have HF := Lib.hid (fun v W => fold_hid v d hd W)
  go_enter Try.func32, Try.ntmps32
  go_wp2
  have kb := (Blk.new w 52 #[.int .i64 a, .int .i64 b, .int .i64 c, .int .i64 e]).alloc (.cells #[.int .i64 0, .int .i64 0, .int .i64 0, .int .i64 0] 52)
  have kr := Blk.new1 w (.cells #[.int .i64 a, .int .i64 b, .int .i64 c, .int .i64 e] 52) 52 #[.int .i64 0, .int .i64 0, .int .i64 0, .int .i64 0]
  have bx := below_alloc (below_alloc (Below.refl w.heap.size w) (.cells #[.int .i64 a, .int .i64 b, .int .i64 c, .int .i64 e] 52)) (.cells #[.int .i64 0, .int .i64 0, .int .i64 0, .int .i64 0] 52)
  generalize (w.alloc (.cells #[.int .i64 a, .int .i64 b, .int .i64 c, .int .i64 e] 52)).alloc (.cells #[.int .i64 0, .int .i64 0, .int .i64 0, .int .i64 0] 52) = wa at *
  obtain ⟨x0, x1, x2, x3, f0, f1, f2, f3⟩ := kb.four
  obtain ⟨q0, q1, q2, q3, g0, g1, g2, g3⟩ := kr.four
  go_quiet (fail)
  clear x0 x1 x2 x3 f0 f1 f2 f3 q0 q1 q2 q3 g0 g1 g2 g3
  replace kb := kb.drewN nq
  replace kr := kr.drewN nq
  replace bx := below_drewN bx nq
  generalize wa.drewN nq = wb at *
  obtain ⟨x0, x1, x2, x3, f0, f1, f2, f3⟩ := kb.four
  obtain ⟨q0, q1, q2, q3, g0, g1, g2, g3⟩ := kr.four
  go_wp2_with (fail)
  refine (HW.out _ _).mono ?_
  rintro en w1 ⟨u1, rfl, l1, h1, hu1, rfl⟩
  go_wp2_with (fail)
  refine (HF.out _ _).mono ?_
  rintro en w2 ⟨u2, rfl, l2, h2, hu2, rfl⟩
  go_wp2_with (fail)
  refine (HW.out _ _).mono ?_
  rintro en w3 ⟨u3, rfl, l3, h3, hu3, rfl⟩
  go_wp2_with (fail)
  refine (HW.out _ _).mono ?_
  rintro en w4 ⟨u4, rfl, l4, h4, hu4, rfl⟩
  go_wp2_with (fail)
  refine (HF.out _ _).mono ?_
  rintro en w5 ⟨u5, rfl, l5, h5, hu5, rfl⟩
  go_wp2_with (fail)
  refine (HW.out _ _).mono ?_
  rintro en w6 ⟨u6, rfl, l6, h6, hu6, rfl⟩
  go_wp2
  refine bodyPost_ret (v := .agg #[.int .i64 u6, .int .i64 u1, .int .i64 u4, .int .i64 e]) (by simp [results, Try.results32, go_sem, q0, q1, q2, q3]) rfl ⟨agg4 (by rw [hu6.out, hu5.out, hu4.out, hu3.out, hu2.out, hu1.out] <;> rfl) (by rw [hu1.out] <;> rfl) (by rw [hu4.out, hu3.out, hu2.out, hu1.out] <;> rfl) rfl, ?_⟩
  repeat (refine Below.setCell ?_ (by simp) _)
  exact bx

set_option maxHeartbeats 2000000 in
theorem fore_3 (a b c e : Int) (hs : C4.small ⟨a, b, c, e⟩) (d : Int) (hd : 1 ≤ d ∧ d ≤ 16) (w : World) :
    Calls Try.prog 32 #[.agg #[.int .i64 a, .int .i64 b, .int .i64 c, .int .i64 e], .int .i64 3, .int .i64 d] w fun en w' => en = .returned (C4.val (foreC 3 d ⟨a, b, c, e⟩)) ∧ Below w.heap.size w w' := by
  rw [foreC_3]
  obtain ⟨⟨a0, a1⟩, ⟨b0, b1⟩, ⟨c0, c1⟩, ⟨e0, e1⟩⟩ := hs
  simp only at *
  have HW := Lib.hid (fun v W => wrap_hid v d hd W)
  have HF := Lib.hid (fun v W => fold_hid v d hd W)
  go_enter Try.func32, Try.ntmps32
  go_wp2
  have kb := (Blk.new w 52 #[.int .i64 a, .int .i64 b, .int .i64 c, .int .i64 e]).alloc (.cells #[.int .i64 0, .int .i64 0, .int .i64 0, .int .i64 0] 52)
  have kr := Blk.new1 w (.cells #[.int .i64 a, .int .i64 b, .int .i64 c, .int .i64 e] 52) 52 #[.int .i64 0, .int .i64 0, .int .i64 0, .int .i64 0]
  have bx := below_alloc (below_alloc (Below.refl w.heap.size w) (.cells #[.int .i64 a, .int .i64 b, .int .i64 c, .int .i64 e] 52)) (.cells #[.int .i64 0, .int .i64 0, .int .i64 0, .int .i64 0] 52)
  generalize (w.alloc (.cells #[.int .i64 a, .int .i64 b, .int .i64 c, .int .i64 e] 52)).alloc (.cells #[.int .i64 0, .int .i64 0, .int .i64 0, .int .i64 0] 52) = wa at *
  obtain ⟨x0, x1, x2, x3, f0, f1, f2, f3⟩ := kb.four
  obtain ⟨q0, q1, q2, q3, g0, g1, g2, g3⟩ := kr.four
  go_quiet (fail)
  clear x0 x1 x2 x3 f0 f1 f2 f3 q0 q1 q2 q3 g0 g1 g2 g3
  replace kb := kb.drewN nq
  replace kr := kr.drewN nq
  replace bx := below_drewN bx nq
  generalize wa.drewN nq = wb at *
  obtain ⟨x0, x1, x2, x3, f0, f1, f2, f3⟩ := kb.four
  obtain ⟨q0, q1, q2, q3, g0, g1, g2, g3⟩ := kr.four
  go_wp2_with (fail)
  refine (HW.out _ _).mono ?_
  rintro en w1 ⟨u1, rfl, l1, h1, hu1, rfl⟩
  go_wp2_with (fail)
  refine (HW.out _ _).mono ?_
  rintro en w2 ⟨u2, rfl, l2, h2, hu2, rfl⟩
  go_wp2_with (fail)
  refine (HF.out _ _).mono ?_
  rintro en w3 ⟨u3, rfl, l3, h3, hu3, rfl⟩
  go_wp2_with (fail)
  refine (HF.out _ _).mono ?_
  rintro en w4 ⟨u4, rfl, l4, h4, hu4, rfl⟩
  go_wp2_with (fail)
  refine (HW.out _ _).mono ?_
  rintro en w5 ⟨u5, rfl, l5, h5, hu5, rfl⟩
  go_wp2
  refine bodyPost_ret (v := .agg #[.int .i64 u5, .int .i64 u1, .int .i64 u2, .int .i64 e]) (by simp [results, Try.results32, go_sem, q0, q1, q2, q3]) rfl ⟨agg4 (by rw [hu5.out, hu4.out, hu3.out, hu2.out, hu1.out] <;> rfl) (by rw [hu1.out] <;> rfl) (by rw [hu2.out] <;> rfl) rfl, ?_⟩
  repeat (refine Below.setCell ?_ (by simp) _)
  exact bx

set_option maxHeartbeats 2000000 in
theorem fore_o (a b c e : Int) (hs : C4.small ⟨a, b, c, e⟩) (d : Int) (hd : 1 ≤ d ∧ d ≤ 16) (kind : Int) (k1 : kind ≠ 1) (k2 : kind ≠ 2) (k3 : kind ≠ 3) (k4 : kind ≠ 4) (w : World) :
    Calls Try.prog 32 #[.agg #[.int .i64 a, .int .i64 b, .int .i64 c, .int .i64 e], .int .i64 kind, .int .i64 d] w fun en w' => en = .returned (C4.val (foreC kind d ⟨a, b, c, e⟩)) ∧ Below w.heap.size w w' := by
  rw [foreC_o k1 k2 k3 k4]
  obtain ⟨⟨a0, a1⟩, ⟨b0, b1⟩, ⟨c0, c1⟩, ⟨e0, e1⟩⟩ := hs
  simp only at *
  have HW := Lib.hid (fun v W => wrap_hid v d hd W)
  have HF := Lib.hid (fun v W => fold_hid v d hd W)
  have t1 : (kind == 1) = false := by simpa using k1
  have t2 : (kind == 2) = false := by simpa using k2
  have t3 : (kind == 3) = false := by simpa using k3
  have t4 : (kind == 4) = false := by simpa using k4
  clear k1 k2 k3 k4
  go_enter Try.func32, Try.ntmps32
  go_wp2
  have kb := (Blk.new w 52 #[.int .i64 a, .int .i64 b, .int .i64 c, .int .i64 e]).alloc (.cells #[.int .i64 0, .int .i64 0, .int .i64 0, .int .i64 0] 52)
  have kr := Blk.new1 w (.cells #[.int .i64 a, .int .i64 b, .int .i64 c, .int .i64 e] 52) 52 #[.int .i64 0, .int .i64 0, .int .i64 0, .int .i64 0]
  have bx := below_alloc (below_alloc (Below.refl w.heap.size w) (.cells #[.int .i64 a, .int .i64 b, .int .i64 c, .int .i64 e] 52)) (.cells #[.int .i64 0, .int .i64 0, .int .i64 0, .int .i64 0] 52)
  generalize (w.alloc (.cells #[.int .i64 a, .int .i64 b, .int .i64 c, .int .i64 e] 52)).alloc (.cells #[.int .i64 0, .int .i64 0, .int .i64 0, .int .i64 0] 52) = wa at *
  obtain ⟨x0, x1, x2, x3, f0, f1, f2, f3⟩ := kb.four
  obtain ⟨q0, q1, q2, q3, g0, g1, g2, g3⟩ := kr.four
  go_quiet (fail)
  clear x0 x1 x2 x3 f0 f1 f2 f3 q0 q1 q2 q3 g0 g1 g2 g3
  replace kb := kb.drewN nq
  replace kr := kr.drewN nq
  replace bx := below_drewN bx nq
  generalize wa.drewN nq = wb at *
  obtain ⟨x0, x1, x2, x3, f0, f1, f2, f3⟩ := kb.four
  obtain ⟨q0, q1, q2, q3, g0, g1, g2, g3⟩ := kr.four
  go_wp2
  refine bodyPost_ret (v := .agg #[.int .i64 a, .int .i64 b, .int .i64 c, .int .i64 e]) (by simp [results, Try.results32, go_sem, q0, q1, q2, q3]) rfl ⟨agg4 rfl rfl rfl rfl, ?_⟩
  repeat (refine Below.setCell ?_ (by simp) _)
  exact bx

set_option maxHeartbeats 2000000 in
theorem back_1 (a b c e : Int) (hs : C4.small ⟨a, b, c, e⟩) (d : Int) (hd : 1 ≤ d ∧ d ≤ 16) (w : World) :
    Calls Try.prog 35 #[.agg #[.int .i64 a, .int .i64 b, .int .i64 c, .int .i64 e], .int .i64 1, .int .i64 d] w fun en w' => en = .returned (C4.val (backC 1 d ⟨a, b, c, e⟩)) ∧ Below w.heap.size w w' := by
  rw [backC_1]
  obtain ⟨⟨a0, a1⟩, ⟨b0, b1⟩, ⟨c0, c1⟩, ⟨e0, e1⟩⟩ := hs
  simp only at *
  have HW := Lib.hid (fun v W => wrap_hid v d hd W)
  have HF := Lib.hid (fun v W => fold_hid v d hd W)
  go_enter Try.func35, Try.ntmps35
  go_wp2_with (fail)
  have kb := (Blk.new w 52 #[.int .i64 a, .int .i64 b, .int .i64 c, .int .i64 e]).alloc (.cells #[.int .i64 0, .int .i64 0, .int .i64 0, .int .i64 0] 52)
  have kr := Blk.new1 w (.cells #[.int .i64 a, .int .i64 b, .int .i64 c, .int .i64 e] 52) 52 #[.int .i64 0, .int .i64 0, .int .i64 0, .int .i64 0]
  have bx := below_alloc (below_alloc (Below.refl w.heap.size w) (.cells #[.int .i64 a, .int .i64 b, .int .i64 c, .int .i64 e] 52)) (.cells #[.int .i64 0, .int .i64 0, .int .i64 0, .int .i64 0] 52)
  generalize (w.alloc (.cells #[.int .i64 a, .int .i64 b, .int .i64 c, .int .i64 e] 52)).alloc (.cells #[.int .i64 0, .int .i64 0, .int .i64 0, .int .i64 0] 52) = wa at *
  obtain ⟨x0, x1, x2, x3, f0, f1, f2, f3⟩ := kb.four
  obtain ⟨q0, q1, q2, q3, g0, g1, g2, g3⟩ := kr.four
  refine (HW.out _ _).mono ?_
  rintro en w1 ⟨u1, rfl, l1, h1, hu1, rfl⟩
  go_wp2_with (fail)
  refine (HW.out _ _).mono ?_
  rintro en w2 ⟨u2, rfl, l2, h2, hu2, rfl⟩
  go_wp2
  refine bodyPost_ret (v := .agg #[.int .i64 u1, .int .i64 b, .int .i64 u2, .int .i64 e]) (by simp [results, Try.results35, go_sem, q0, q1, q2, q3]) rfl ⟨agg4 (by rw [hu1.out] <;> rfl) rfl (by rw [hu2.out] <;> rfl) rfl, ?_⟩
  repeat (refine Below.setCell ?_ (by simp) _)
  exact bx

set_option maxHeartbeats 2000000 in
theorem back_2 (a b c e : Int) (hs : C4.small ⟨a, b, c, e⟩) (d : Int) (hd : 1 ≤ d ∧ d ≤ 16) (w : World) :
    Calls Try.prog 35 #[.agg #[.int .i64 a, .int .i64 b, .int .i64 c, .int .i64 e], .int .i64 2, .int .i64 d] w fun en w' => en = .returned (C4.val (backC 2 d ⟨a, b, c, e⟩)) ∧ Below w.heap.size w w' := by
  rw [backC_2]
  obtain ⟨⟨a0, a1⟩, ⟨b0, b1⟩, ⟨c0, c1⟩, ⟨e0, e1⟩⟩ := hs
  simp only at *
  have HW := Lib.hid (fun v W => wrap_hid v d hd W)
  have HF := Lib.hid (fun v W => fold_hid v d hd W)
  go_enter Try.func35, Try.ntmps35
  go_wp2
  have kb := (Blk.new w 52 #[.int .i64 a, .int .i64 b, .int .i64 c, .int .i64 e]).alloc (.cells #[.int .i64 0, .int .i64 0, .int .i64 0, .int .i64 0] 52)
  have kr := Blk.new1 w (.cells #[.int .i64 a, .int .i64 b, .int .i64 c, .int .i64 e] 52) 52 #[.int .i64 0, .int .i64 0, .int .i64 0, .int .i64 0]
  have bx := below_alloc (below_alloc (Below.refl w.heap.size w) (.cells #[.int .i64 a, .int .i64 b, .int .i64 c, .int .i64 e] 52)) (.cells #[.int .i64 0, .int .i64 0, .int .i64 0, .int .i64 0] 52)
  generalize (w.alloc (.cells #[.int .i64 a, .int .i64 b, .int .i64 c, .int .i64 e] 52)).alloc (.cells #[.int .i64 0, .int .i64 0, .int .i64 0, .int .i64 0] 52) = wa at *
  obtain ⟨x0, x1, x2, x3, f0, f1, f2, f3⟩ := kb.four
  obtain ⟨q0, q1, q2, q3, g0, g1, g2, g3⟩ := kr.four
  go_quiet (fail)
  clear x0 x1 x2 x3 f0 f1 f2 f3 q0 q1 q2 q3 g0 g1 g2 g3
  replace kb := kb.drewN nq
  replace kr := kr.drewN nq
  replace bx := below_drewN bx nq
  generalize wa.drewN nq = wb at *
  obtain ⟨x0, x1, x2, x3, f0, f1, f2, f3⟩ := kb.four
  obtain ⟨q0, q1, q2, q3, g0, g1, g2, g3⟩ := kr.four
  go_wp2_with (fail)
  refine (HF.out _ _).mono ?_
  rintro en w1 ⟨u1, rfl, l1, h1, hu1, rfl⟩
  go_wp2_with (fail)
  refine (HW.out _ _).mono ?_
  rintro en w2 ⟨u2, rfl, l2, h2, hu2, rfl⟩
  go_wp2_with (fail)
  refine (HF.out _ _).mono ?_
  rintro en w3 ⟨u3, rfl, l3, h3, hu3, rfl⟩
  go_wp2_with (fail)
  refine (HW.out _ _).mono ?_
  rintro en w4 ⟨u4, rfl, l4, h4, hu4, rfl⟩
  go_wp2_with (fail)
  refine (HW.out _ _).mono ?_
  rintro en w5 ⟨u5, rfl, l5, h5, hu5, rfl⟩
  go_wp2_with (fail)
  refine (HW.out _ _).mono ?_
  rintro en w6 ⟨u6, rfl, l6, h6, hu6, rfl⟩
  go_wp2
  refine bodyPost_ret (v := .agg #[.int .i64 u5, .int .i64 u6, .int .i64 u4, .int .i64 e]) (by simp [results, Try.results35, go_sem, q0, q1, q2, q3]) rfl ⟨agg4 (by rw [hu5.out, hu4.out, hu3.out, hu2.out, hu1.out] <;> rfl) (by rw [hu6.out, hu2.out, hu1.out] <;> rfl) (by rw [hu4.out, hu3.out, hu2.out, hu1.out] <;> rfl) rfl, ?_⟩
  repeat (refine Below.setCell ?_ (by simp) _)
  exact bx

set_option maxHeartbeats 2000000 in
theorem back_3 (a b c e : Int) (hs : C4.small ⟨a, b, c, e⟩) (d : Int) (hd : 1 ≤ d ∧ d ≤ 16) (w : World) :
    Calls Try.prog 35 #[.agg #[.int .i64 a, .int .i64 b, .int .i64 c, .int .i64 e], .int .i64 3, .int .i64 d] w fun en w' => en = .returned (C4.val (backC 3 d ⟨a, b, c, e⟩)) ∧ Below w.heap.size w w' := by
  rw [backC_3]
  obtain ⟨⟨a0, a1⟩, ⟨b0, b1⟩, ⟨c0, c1⟩, ⟨e0, e1⟩⟩ := hs
  simp only at *
  have HW := Lib.hid (fun v W => wrap_hid v d hd W)
  have HF := Lib.hid (fun v W => fold_hid v d hd W)
  go_enter Try.func35, Try.ntmps35
  go_wp2
  have kb := (Blk.new w 52 #[.int .i64 a, .int .i64 b, .int .i64 c, .int .i64 e]).alloc (.cells #[.int .i64 0, .int .i64 0, .int .i64 0, .int .i64 0] 52)
  have kr := Blk.new1 w (.cells #[.int .i64 a, .int .i64 b, .int .i64 c, .int .i64 e] 52) 52 #[.int .i64 0, .int .i64 0, .int .i64 0, .int .i64 0]
  have bx := below_alloc (below_alloc (Below.refl w.heap.size w) (.cells #[.int .i64 a, .int .i64 b, .int .i64 c, .int .i64 e] 52)) (.cells #[.int .i64 0, .int .i64 0, .int .i64 0, .int .i64 0] 52)
  generalize (w.alloc (.cells #[.int .i64 a, .int .i64 b, .int .i64 c, .int .i64 e] 52)).alloc (.cells #[.int .i64 0, .int .i64 0, .int .i64 0, .int .i64 0] 52) = wa at *
  obtain ⟨x0, x1, x2, x3, f0, f1, f2, f3⟩ := kb.four
  obtain ⟨q0, q1, q2, q3, g0, g1, g2, g3⟩ := kr.four
  go_quiet (fail)
  clear x0 x1 x2 x3 f0 f1 f2 f3 q0 q1 q2 q3 g0 g1 g2 g3
  replace kb := kb.drewN nq
  replace kr := kr.drewN nq
  replace bx := below_drewN bx nq
  generalize wa.drewN nq = wb at *
  obtain ⟨x0, x1, x2, x3, f0, f1, f2, f3⟩ := kb.four
  obtain ⟨q0, q1, q2, q3, g0, g1, g2, g3⟩ := kr.four
  go_wp2_with (fail)
  refine (HF.out _ _).mono ?_
  rintro en w1 ⟨u1, rfl, l1, h1, hu1, rfl⟩
  go_wp2_with (fail)
  refine (HF.out _ _).mono ?_
  rintro en w2 ⟨u2, rfl, l2, h2, hu2, rfl⟩
  go_wp2_with (fail)
  refine (HW.out _ _).mono ?_
  rintro en w3 ⟨u3, rfl, l3, h3, hu3, rfl⟩
  go_wp2_with (fail)
  refine (HW.out _ _).mono ?_
  rintro en w4 ⟨u4, rfl, l4, h4, hu4, rfl⟩
  go_wp2_with (fail)
  refine (HW.out _ _).mono ?_
  rintro en w5 ⟨u5, rfl, l5, h5, hu5, rfl⟩
  go_wp2
  refine bodyPost_ret (v := .agg #[.int .i64 u4, .int .i64 u3, .int .i64 u5, .int .i64 e]) (by simp [results, Try.results35, go_sem, q0, q1, q2, q3]) rfl ⟨agg4 (by rw [hu4.out, hu3.out, hu2.out, hu1.out] <;> rfl) (by rw [hu3.out, hu2.out, hu1.out] <;> rfl) (by rw [hu5.out, hu3.out, hu2.out, hu1.out] <;> rfl) rfl, ?_⟩
  repeat (refine Below.setCell ?_ (by simp) _)
  exact bx

set_option maxHeartbeats 2000000 in
theorem back_o (a b c e : Int) (hs : C4.small ⟨a, b, c, e⟩) (d : Int) (hd : 1 ≤ d ∧ d ≤ 16) (kind : Int) (k1 : kind ≠ 1) (k2 : kind ≠ 2) (k3 : kind ≠ 3) (k4 : kind ≠ 4) (w : World) :
    Calls Try.prog 35 #[.agg #[.int .i64 a, .int .i64 b, .int .i64 c, .int .i64 e], .int .i64 kind, .int .i64 d] w fun en w' => en = .returned (C4.val (backC kind d ⟨a, b, c, e⟩)) ∧ Below w.heap.size w w' := by
  rw [backC_o k1 k2 k3 k4]
  obtain ⟨⟨a0, a1⟩, ⟨b0, b1⟩, ⟨c0, c1⟩, ⟨e0, e1⟩⟩ := hs
  simp only at *
  have HW := Lib.hid (fun v W => wrap_hid v d hd W)
  have HF := Lib.hid (fun v W => fold_hid v d hd W)
  have t1 : (kind == 1) = false := by simpa using k1
  have t2 : (kind == 2) = false := by simpa using k2
  have t3 : (kind == 3) = false := by simpa using k3
  have t4 : (kind == 4) = false := by simpa using k4
  clear k1 k2 k3 k4
  go_enter Try.func35, Try.ntmps35
  go_wp2
  refine bodyPost_ret (v := .agg #[.int .i64 a, .int .i64 b, .int .i64 c, .int .i64 e]) (by simp [results, Try.results35, go_sem]) rfl ⟨agg4 rfl rfl rfl rfl, ?_⟩
  exact below_alloc (below_alloc (Below.refl _ _) _) _

set_option maxHeartbeats 4000000 in
theorem fore_4 (a b c e : Int) (hs : C4.small ⟨a, b, c, e⟩) (d : Int) (hd : 1 ≤ d ∧ d ≤ 16) (w : World) :
    Calls Try.prog 32 #[.agg #[.int .i64 a, .int .i64 b, .int .i64 c, .int .i64 e], .int .i64 4, .int .i64 d] w fun en w' => en = .returned (C4.val (foreC 4 d ⟨a, b, c, e⟩)) ∧ Below w.heap.size w w' := by
  rw [foreC_4]
  obtain ⟨⟨a0, a1⟩, ⟨b0, b1⟩, ⟨c0, c1⟩, ⟨e0, e1⟩⟩ := hs
  simp only at *
  have HW := Lib.hid (fun v W => wrap_hid v d hd W)
  have HF := Lib.hid (fun v W => fold_hid v d hd W)
  go_enter Try.func32, Try.ntmps32
  go_wp2
  have kb := (Blk.new w 52 #[.int .i64 a, .int .i64 b, .int .i64 c, .int .i64 e]).alloc (.cells #[.int .i64 0, .int .i64 0, .int .i64 0, .int .i64 0] 52)
  have kr := Blk.new1 w (.cells #[.int .i64 a, .int .i64 b, .int .i64 c, .int .i64 e] 52) 52 #[.int .i64 0, .int .i64 0, .int .i64 0, .int .i64 0]
  have bx := below_alloc (below_alloc (Below.refl w.heap.size w) (.cells #[.int .i64 a, .int .i64 b, .int .i64 c, .int .i64 e] 52)) (.cells #[.int .i64 0, .int .i64 0, .int .i64 0, .int .i64 0] 52)
  generalize (w.alloc (.cells #[.int .i64 a, .int .i64 b, .int .i64 c, .int .i64 e] 52)).alloc (.cells #[.int .i64 0, .int .i64 0, .int .i64 0, .int .i64 0] 52) = wa at *
  obtain ⟨x0, x1, x2, x3, f0, f1, f2, f3⟩ := kb.four
  obtain ⟨q0, q1, q2, q3, g0, g1, g2, g3⟩ := kr.four
  go_quiet (fail)
  clear x0 x1 x2 x3 f0 f1 f2 f3 q0 q1 q2 q3 g0 g1 g2 g3
  replace kb := kb.drewN nq
  replace kr := kr.drewN nq
  replace bx := below_drewN bx nq
  generalize wa.drewN nq = wb at *
  obtain ⟨x0, x1, x2, x3, f0, f1, f2, f3⟩ := kb.four
  obtain ⟨q0, q1, q2, q3, g0, g1, g2, g3⟩ := kr.four
  clear x0 x1 x2 x3 f0 f1 f2 f3 q0 q1 q2 q3 g0 g1 g2 g3
  have bsz := kr.lt
  go_wp2
  go_loopw [15] (fun i wr => ∃ (k : Nat), k ≤ 3 ∧ i = .int .i64 k ∧ Below w.heap.size w wr ∧ Blk wr w.heap.size 52 #[.int .i64 a, .int .i64 (if k < 1 then wrapP (b - a) d else b), .int .i64 (if k < 2 then wrapP (c - b) d else c), .int .i64 (if k < 3 then wrapP (e - c) d else e)] ∧ Blk wr (w.heap.size + 1) 52 #[.int .i64 0, .int .i64 0, .int .i64 0, .int .i64 0]) (fun i _ => (intOf i).toNat)
  case atStart => exact ⟨3, by omega, rfl, bx, by simpa using kb, kr⟩
  case round =>
    obtain ⟨k, hk, rfl, bx, kb, kr⟩ := hrel
    rcases (show k = 0 ∨ k = 1 ∨ k = 2 ∨ k = 3 by omega) with rfl | rfl | rfl | rfl
    · simp only [show (0 : Nat) < 1 by omega, show (0 : Nat) < 2 by omega, show (0 : Nat) < 3 by omega, if_true] at kb
      obtain ⟨x0, x1, x2, x3, f0, f1, f2, f3⟩ := kb.four
      obtain ⟨q0, q1, q2, q3, g0, g1, g2, g3⟩ := kr.four
      go_wp2
      refine bodyPost_ret (v := .agg #[.int .i64 a, .int .i64 (wrapP (b - a) d), .int .i64 (wrapP (c - b) d), .int .i64 (wrapP (e - c) d)]) (by simp [results, Try.results32, go_sem, q0, q1, q2, q3]) rfl ⟨agg4 rfl rfl rfl rfl, ?_⟩
      repeat (refine Below.setCell ?_ (by simp) _)
      exact bx
    · have kb' : Blk wr w.heap.size 52 #[.int .i64 a, .int .i64 b, .int .i64 (wrapP (c - b) d), .int .i64 (wrapP (e - c) d)] := by simpa using kb
      clear kb
      rw [show ((1 : Nat) : Int) = 1 from rfl]
      obtain ⟨x0, x1, x2, x3, f0, f1, f2, f3⟩ := kb'.four
      have zk : IntKind.i64.wrap 0 = 0 := IntWalk.i64_in _ (by omega)
      have zs := IntWalk.i64_in (b - a) (by omega)
      go_wp2
      refine wp_region_last (S := (fun w' => w'.cell? ⟨w.heap.size, 0, none⟩ = some (.int .i64 a) ∧ w'.cell? ⟨w.heap.size, 1, none⟩ = some (.int .i64 b))) 12 _ (by simp only [List.pop_toArray, List.dropLast_cons_cons, List.dropLast_singleton]; rfl) (by kernel_rfl) (by kernel_rfl) (by kernel_rfl) (by kernel_rfl) (by kernel_rfl) ?_ (fun hHeld => ?_)
      focus exact ⟨x0, x1⟩
      refine wpAnyH_take (i := 0) (v := ?_) rfl (by kernel_rfl) (by kernel_rfl) (by kernel_rfl) (fun _ _ _ h => h) (Or.inl ⟨by kernel_rfl, ?_⟩) (by assumption) ?_
      rotate_left
      focus
        intro w9 hSw
        (try dsimp only at hSw)
        go_simp
        (try with_reducible rfl)
      (try simp only [Act.put, List.getElem_toArray, List.getElem_cons_succ, List.getElem_cons_zero, List.setIfInBounds_toArray, List.set_cons_zero, List.set_cons_succ])
      refine wpAnyH_take (i := 1) (v := ?_) rfl (by kernel_rfl) (by kernel_rfl) (by kernel_rfl) (fun _ _ _ h => h) (Or.inl ⟨by kernel_rfl, ?_⟩) (by assumption) ?_
      rotate_left
      focus
        intro w9 hSw
        (try dsimp only at hSw)
        go_simp
        (try with_reducible rfl)
      (try simp only [Act.put, List.getElem_toArray, List.getElem_cons_succ, List.getElem_cons_zero, List.setIfInBounds_toArray, List.set_cons_zero, List.set_cons_succ])
      refine wpAnyH_take (i := 2) (v := ?_) rfl (by kernel_rfl) (by kernel_rfl) (by kernel_rfl) (fun _ _ _ h => h) (Or.inl ⟨by kernel_rfl, ?_⟩) (by assumption) ?_
      rotate_left
      focus
        intro w9 hSw
        (try dsimp only at hSw)
        go_simp
        (try with_reducible rfl)
      (try simp only [Act.put, List.getElem_toArray, List.getElem_cons_succ, List.getElem_cons_zero, List.setIfInBounds_toArray, List.set_cons_zero, List.set_cons_succ])
      refine wpAnyH_take (i := 3) (v := ?_) rfl (by kernel_rfl) (by kernel_rfl) (by kernel_rfl) (fun _ _ _ h => h) (Or.inl ⟨by kernel_rfl, ?_⟩) (by assumption) ?_
      rotate_left
      focus
        intro w9 hSw
        (try dsimp only at hSw)
        go_simp
        (try with_reducible rfl)
      (try simp only [Act.put, List.getElem_toArray, List.getElem_cons_succ, List.getElem_cons_zero, List.setIfInBounds_toArray, List.set_cons_zero, List.set_cons_succ])
      refine wpAnyH_take (i := 4) (v := ?_) rfl (by kernel_rfl) (by kernel_rfl) (by kernel_rfl) (fun _ _ _ h => h) (Or.inl ⟨by kernel_rfl, ?_⟩) (by assumption) ?_
      rotate_left
      focus
        intro w9 hSw
        (try dsimp only at hSw)
        go_simp
        (try with_reducible rfl)
      (try simp only [Act.put, List.getElem_toArray, List.getElem_cons_succ, List.getElem_cons_zero, List.setIfInBounds_toArray, List.set_cons_zero, List.set_cons_succ])
      refine wpAnyH_take (i := 5) (v := ?_) rfl (by kernel_rfl) (by kernel_rfl) (by kernel_rfl) (fun _ _ _ h => h) (Or.inl ⟨by kernel_rfl, ?_⟩) (by assumption) ?_
      rotate_left
      focus
        intro w9 hSw
        (try dsimp only at hSw)
        go_simp
        (try with_reducible rfl)
      (try simp only [Act.put, List.getElem_toArray, List.getElem_cons_succ, List.getElem_cons_zero, List.setIfInBounds_toArray, List.set_cons_zero, List.set_cons_succ])
      refine wpAnyH_take (i := 6) (v := ?_) rfl (by kernel_rfl) (by kernel_rfl) (by kernel_rfl) (fun _ _ _ h => h) (Or.inl ⟨by kernel_rfl, ?_⟩) (by assumption) ?_
      rotate_left
      focus
        intro w9 hSw
        (try dsimp only at hSw)
        go_simp
        (try with_reducible rfl)
      (try simp only [Act.put, List.getElem_toArray, List.getElem_cons_succ, List.getElem_cons_zero, List.setIfInBounds_toArray, List.set_cons_zero, List.set_cons_succ])
      refine wpAnyH_take (i := 7) (v := ?_) rfl (by kernel_rfl) (by kernel_rfl) (by kernel_rfl) (fun _ _ _ h => h) (Or.inl ⟨by kernel_rfl, ?_⟩) (by assumption) ?_
      rotate_left
      focus
        intro w9 hSw
        (try dsimp only at hSw)
        go_simp
        (try with_reducible rfl)
      (try simp only [Act.put, List.getElem_toArray, List.getElem_cons_succ, List.getElem_cons_zero, List.setIfInBounds_toArray, List.set_cons_zero, List.set_cons_succ])
      refine wpAnyH_take (i := 8) (v := ?_) rfl (by kernel_rfl) (by kernel_rfl) (by kernel_rfl) (fun _ _ _ h => h) (Or.inl ⟨by kernel_rfl, ?_⟩) (by assumption) ?_
      rotate_left
      focus
        intro w9 hSw
        (try dsimp only at hSw)
        go_simp
        (try with_reducible rfl)
      (try simp only [Act.put, List.getElem_toArray, List.getElem_cons_succ, List.getElem_cons_zero, List.setIfInBounds_toArray, List.set_cons_zero, List.set_cons_succ])
      refine wpAnyH_take (i := 9) (v := ?_) rfl (by kernel_rfl) (by kernel_rfl) (by kernel_rfl) (fun _ _ _ h => h) (Or.inl ⟨by kernel_rfl, ?_⟩) (by assumption) ?_
      rotate_left
      focus
        intro w9 hSw
        (try dsimp only at hSw)
        go_simp
        (try with_reducible rfl)
      (try simp only [Act.put, List.getElem_toArray, List.getElem_cons_succ, List.getElem_cons_zero, List.setIfInBounds_toArray, List.set_cons_zero, List.set_cons_succ])
      refine wpAnyH_ready (rs := [10]) (by kernel_rfl) (by simp) (AllReadyH.cons rfl (fun K hK => ?_) AllReadyH.nil)
      go_simp
      go_at_call 45
      refine (wrap_any _ _ _).mono ?_
      rintro en w1 ⟨rfl, rfl⟩
      refine hK.out _ _ ?_ (fun hHeld => ?_)
      focus
       (try dsimp only)
       first | (simp [*, World.cell?_alloc_some, World.cell?_setCell_far, add_block]; done) | go_keep
      clear hK K
      refine wpAnyH_take (i := 11) (v := ?_) rfl (by kernel_rfl) (by kernel_rfl) (by kernel_rfl) (fun _ _ _ h => h) (Or.inl ⟨by kernel_rfl, ?_⟩) (by assumption) ?_
      rotate_left
      focus
        intro w9 hSw
        (try dsimp only at hSw)
        go_simp
        (try with_reducible rfl)
      (try simp only [Act.put, List.getElem_toArray, List.getElem_cons_succ, List.getElem_cons_zero, List.setIfInBounds_toArray, List.set_cons_zero, List.set_cons_succ])
      refine wpAnyH_done (by kernel_rfl) (lastQ_step rfl (fun K hK => ?_)) _
      go_simp
      refine hK _ _ ?_
      clear hK K
      have kbn := (kb'.set_ 1 (.int .i64 (wrapP (b - a) d))).drew
      have krn := (kr.far (p := ⟨w.heap.size, 1, none⟩) (by simp) (.int .i64 (wrapP (b - a) d))).drew
      go_wp2
      go_roundw
      case rel => exact ⟨0, by omega, rfl, (bx.setCell (by simp) _).drew, by simpa using kbn, krn⟩
      case measure => simp [intOf]
    · have kb' : Blk wr w.heap.size 52 #[.int .i64 a, .int .i64 b, .int .i64 c, .int .i64 (wrapP (e - c) d)] := by simpa using kb
      clear kb
      rw [show ((2 : Nat) : Int) = 2 from rfl]
      obtain ⟨x0, x1, x2, x3, f0, f1, f2, f3⟩ := kb'.four
      have zk : IntKind.i64.wrap 1 = 1 := IntWalk.i64_in _ (by omega)
      have zs := IntWalk.i64_in (c - b) (by omega)
      go_wp2
      refine wp_region_last (S := (fun w' => w'.cell? ⟨w.heap.size, 1, none⟩ = some (.int .i64 b) ∧ w'.cell? ⟨w.heap.size, 2, none⟩ = some (.int .i64 c))) 12 _ (by simp only [List.pop_toArray, List.dropLast_cons_cons, List.dropLast_singleton]; rfl) (by kernel_rfl) (by kernel_rfl) (by kernel_rfl) (by kernel_rfl) (by kernel_rfl) ?_ (fun hHeld => ?_)
      focus exact ⟨x1, x2⟩
      refine wpAnyH_take (i := 0) (v := ?_) rfl (by kernel_rfl) (by kernel_rfl) (by kernel_rfl) (fun _ _ _ h => h) (Or.inl ⟨by kernel_rfl, ?_⟩) (by assumption) ?_
      rotate_left
      focus
        intro w9 hSw
        (try dsimp only at hSw)
        go_simp
        (try with_reducible rfl)
      (try simp only [Act.put, List.getElem_toArray, List.getElem_cons_succ, List.getElem_cons_zero, List.setIfInBounds_toArray, List.set_cons_zero, List.set_cons_succ])
      refine wpAnyH_take (i := 1) (v := ?_) rfl (by kernel_rfl) (by kernel_rfl) (by kernel_rfl) (fun _ _ _ h => h) (Or.inl ⟨by kernel_rfl, ?_⟩) (by assumption) ?_
      rotate_left
      focus
        intro w9 hSw
        (try dsimp only at hSw)
        go_simp
        (try with_reducible rfl)
      (try simp only [Act.put, List.getElem_toArray, List.getElem_cons_succ, List.getElem_cons_zero, List.setIfInBounds_toArray, List.set_cons_zero, List.set_cons_succ])
      refine wpAnyH_take (i := 2) (v := ?_) rfl (by kernel_rfl) (by kernel_rfl) (by kernel_rfl) (fun _ _ _ h => h) (Or.inl ⟨by kernel_rfl, ?_⟩) (by assumption) ?_
      rotate_left
      focus
        intro w9 hSw
        (try dsimp only at hSw)
        go_simp
        (try with_reducible rfl)
      (try simp only [Act.put, List.getElem_toArray, List.getElem_cons_succ, List.getElem_cons_zero, List.setIfInBounds_toArray, List.set_cons_zero, List.set_cons_succ])
      refine wpAnyH_take (i := 3) (v := ?_) rfl (by kernel_rfl) (by kernel_rfl) (by kernel_rfl) (fun _ _ _ h => h) (Or.inl ⟨by kernel_rfl, ?_⟩) (by assumption) ?_
      rotate_left
      focus
        intro w9 hSw
        (try dsimp only at hSw)
        go_simp
        (try with_reducible rfl)
      (try simp only [Act.put, List.getElem_toArray, List.getElem_cons_succ, List.getElem_cons_zero, List.setIfInBounds_toArray, List.set_cons_zero, List.set_cons_succ])
      refine wpAnyH_take (i := 4) (v := ?_) rfl (by kernel_rfl) (by kernel_rfl) (by kernel_rfl) (fun _ _ _ h => h) (Or.inl ⟨by kernel_rfl, ?_⟩) (by assumption) ?_
      rotate_left
      focus
        intro w9 hSw
        (try dsimp only at hSw)
        go_simp
        (try with_reducible rfl)
      (try simp only [Act.put, List.getElem_toArray, List.getElem_cons_succ, List.getElem_cons_zero, List.setIfInBounds_toArray, List.set_cons_zero, List.set_cons_succ])
      refine wpAnyH_take (i := 5) (v := ?_) rfl (by kernel_rfl) (by kernel_rfl) (by kernel_rfl) (fun _ _ _ h => h) (Or.inl ⟨by kernel_rfl, ?_⟩) (by assumption) ?_
      rotate_left
      focus
        intro w9 hSw
        (try dsimp only at hSw)
        go_simp
        (try with_reducible rfl)
      (try simp only [Act.put, List.getElem_toArray, List.getElem_cons_succ, List.getElem_cons_zero, List.setIfInBounds_toArray, List.set_cons_zero, List.set_cons_succ])
      refine wpAnyH_take (i := 6) (v := ?_) rfl (by kernel_rfl) (by kernel_rfl) (by kernel_rfl) (fun _ _ _ h => h) (Or.inl ⟨by kernel_rfl, ?_⟩) (by assumption) ?_
      rotate_left
      focus
        intro w9 hSw
        (try dsimp only at hSw)
        go_simp
        (try with_reducible rfl)
      (try simp only [Act.put, List.getElem_toArray, List.getElem_cons_succ, List.getElem_cons_zero, List.setIfInBounds_toArray, List.set_cons_zero, List.set_cons_succ])
      refine wpAnyH_take (i := 7) (v := ?_) rfl (by kernel_rfl) (by kernel_rfl) (by kernel_rfl) (fun _ _ _ h => h) (Or.inl ⟨by kernel_rfl, ?_⟩) (by assumption) ?_
      rotate_left
      focus
        intro w9 hSw
        (try dsimp only at hSw)
        go_simp
        (try with_reducible rfl)
      (try simp only [Act.put, List.getElem_toArray, List.getElem_cons_succ, List.getElem_cons_zero, List.setIfInBounds_toArray, List.set_cons_zero, List.set_cons_succ])
      refine wpAnyH_take (i := 8) (v := ?_) rfl (by kernel_rfl) (by kernel_rfl) (by kernel_rfl) (fun _ _ _ h => h) (Or.inl ⟨by kernel_rfl, ?_⟩) (by assumption) ?_
      rotate_left
      focus
        intro w9 hSw
        (try dsimp only at hSw)
        go_simp
        (try with_reducible rfl)
      (try simp only [Act.put, List.getElem_toArray, List.getElem_cons_succ, List.getElem_cons_zero, List.setIfInBounds_toArray, List.set_cons_zero, List.set_cons_succ])
      refine wpAnyH_take (i := 9) (v := ?_) rfl (by kernel_rfl) (by kernel_rfl) (by kernel_rfl) (fun _ _ _ h => h) (Or.inl ⟨by kernel_rfl, ?_⟩) (by assumption) ?_
      rotate_left
      focus
        intro w9 hSw
        (try dsimp only at hSw)
        go_simp
        (try with_reducible rfl)
      (try simp only [Act.put, List.getElem_toArray, List.getElem_cons_succ, List.getElem_cons_zero, List.setIfInBounds_toArray, List.set_cons_zero, List.set_cons_succ])
      refine wpAnyH_ready (rs := [10]) (by kernel_rfl) (by simp) (AllReadyH.cons rfl (fun K hK => ?_) AllReadyH.nil)
      go_simp
      go_at_call 45
      refine (wrap_any _ _ _).mono ?_
      rintro en w1 ⟨rfl, rfl⟩
      refine hK.out _ _ ?_ (fun hHeld => ?_)
      focus
       (try dsimp only)
       first | (simp [*, World.cell?_alloc_some, World.cell?_setCell_far, add_block]; done) | go_keep
      clear hK K
      refine wpAnyH_take (i := 11) (v := ?_) rfl (by kernel_rfl) (by kernel_rfl) (by kernel_rfl) (fun _ _ _ h => h) (Or.inl ⟨by kernel_rfl, ?_⟩) (by assumption) ?_
      rotate_left
      focus
        intro w9 hSw
        (try dsimp only at hSw)
        go_simp
        (try with_reducible rfl)
      (try simp only [Act.put, List.getElem_toArray, List.getElem_cons_succ, List.getElem_cons_zero, List.setIfInBounds_toArray, List.set_cons_zero, List.set_cons_succ])
      refine wpAnyH_done (by kernel_rfl) (lastQ_step rfl (fun K hK => ?_)) _
      go_simp
      refine hK _ _ ?_
      clear hK K
      have kbn := (kb'.set_ 2 (.int .i64 (wrapP (c - b) d))).drew
      have krn := (kr.far (p := ⟨w.heap.size, 2, none⟩) (by simp) (.int .i64 (wrapP (c - b) d))).drew
      go_wp2
      go_roundw
      case rel => exact ⟨1, by omega, rfl, (bx.setCell (by simp) _).drew, by simpa using kbn, krn⟩
      case measure => simp [intOf]
    · have kb' : Blk wr w.heap.size 52 #[.int .i64 a, .int .i64 b, .int .i64 c, .int .i64 e] := by simpa using kb
      clear kb
      rw [show ((3 : Nat) : Int) = 3 from rfl]
      obtain ⟨x0, x1, x2, x3, f0, f1, f2, f3⟩ := kb'.four
      have zk : IntKind.i64.wrap 2 = 2 := IntWalk.i64_in _ (by omega)
      have zs := IntWalk.i64_in (e - c) (by omega)
      go_wp2
      refine wp_region_last (S := (fun w' => w'.cell? ⟨w.heap.size, 2, none⟩ = some (.int .i64 c) ∧ w'.cell? ⟨w.heap.size, 3, none⟩ = some (.int .i64 e))) 12 _ (by simp only [List.pop_toArray, List.dropLast_cons_cons, List.dropLast_singleton]; rfl) (by kernel_rfl) (by kernel_rfl) (by kernel_rfl) (by kernel_rfl) (by kernel_rfl) ?_ (fun hHeld => ?_)
      focus exact ⟨x2, x3⟩
      refine wpAnyH_take (i := 0) (v := ?_) rfl (by kernel_rfl) (by kernel_rfl) (by kernel_rfl) (fun _ _ _ h => h) (Or.inl ⟨by kernel_rfl, ?_⟩) (by assumption) ?_
      rotate_left
      focus
        intro w9 hSw
        (try dsimp only at hSw)
        go_simp
        (try with_reducible rfl)
      (try simp only [Act.put, List.getElem_toArray, List.getElem_cons_succ, List.getElem_cons_zero, List.setIfInBounds_toArray, List.set_cons_zero, List.set_cons_succ])
      refine wpAnyH_take (i := 1) (v := ?_) rfl (by kernel_rfl) (by kernel_rfl) (by kernel_rfl) (fun _ _ _ h => h) (Or.inl ⟨by kernel_rfl, ?_⟩) (by assumption) ?_
      rotate_left
      focus
        intro w9 hSw
        (try dsimp only at hSw)
        go_simp
        (try with_reducible rfl)
      (try simp only [Act.put, List.getElem_toArray, List.getElem_cons_succ, List.getElem_cons_zero, List.setIfInBounds_toArray, List.set_cons_zero, List.set_cons_succ])
      refine wpAnyH_take (i := 2) (v := ?_) rfl (by kernel_rfl) (by kernel_rfl) (by kernel_rfl) (fun _ _ _ h => h) (Or.inl ⟨by kernel_rfl, ?_⟩) (by assumption) ?_
      rotate_left
      focus
        intro w9 hSw
        (try dsimp only at hSw)
        go_simp
        (try with_reducible rfl)
      (try simp only [Act.put, List.getElem_toArray, List.getElem_cons_succ, List.getElem_cons_zero, List.setIfInBounds_toArray, List.set_cons_zero, List.set_cons_succ])
      refine wpAnyH_take (i := 3) (v := ?_) rfl (by kernel_rfl) (by kernel_rfl) (by kernel_rfl) (fun _ _ _ h => h) (Or.inl ⟨by kernel_rfl, ?_⟩) (by assumption) ?_
      rotate_left
      focus
        intro w9 hSw
        (try dsimp only at hSw)
        go_simp
        (try with_reducible rfl)
      (try simp only [Act.put, List.getElem_toArray, List.getElem_cons_succ, List.getElem_cons_zero, List.setIfInBounds_toArray, List.set_cons_zero, List.set_cons_succ])
      refine wpAnyH_take (i := 4) (v := ?_) rfl (by kernel_rfl) (by kernel_rfl) (by kernel_rfl) (fun _ _ _ h => h) (Or.inl ⟨by kernel_rfl, ?_⟩) (by assumption) ?_
      rotate_left
      focus
        intro w9 hSw
        (try dsimp only at hSw)
        go_simp
        (try with_reducible rfl)
      (try simp only [Act.put, List.getElem_toArray, List.getElem_cons_succ, List.getElem_cons_zero, List.setIfInBounds_toArray, List.set_cons_zero, List.set_cons_succ])
      refine wpAnyH_take (i := 5) (v := ?_) rfl (by kernel_rfl) (by kernel_rfl) (by kernel_rfl) (fun _ _ _ h => h) (Or.inl ⟨by kernel_rfl, ?_⟩) (by assumption) ?_
      rotate_left
      focus
        intro w9 hSw
        (try dsimp only at hSw)
        go_simp
        (try with_reducible rfl)
      (try simp only [Act.put, List.getElem_toArray, List.getElem_cons_succ, List.getElem_cons_zero, List.setIfInBounds_toArray, List.set_cons_zero, List.set_cons_succ])
      refine wpAnyH_take (i := 6) (v := ?_) rfl (by kernel_rfl) (by kernel_rfl) (by kernel_rfl) (fun _ _ _ h => h) (Or.inl ⟨by kernel_rfl, ?_⟩) (by assumption) ?_
      rotate_left
      focus
        intro w9 hSw
        (try dsimp only at hSw)
        go_simp
        (try with_reducible rfl)
      (try simp only [Act.put, List.getElem_toArray, List.getElem_cons_succ, List.getElem_cons_zero, List.setIfInBounds_toArray, List.set_cons_zero, List.set_cons_succ])
      refine wpAnyH_take (i := 7) (v := ?_) rfl (by kernel_rfl) (by kernel_rfl) (by kernel_rfl) (fun _ _ _ h => h) (Or.inl ⟨by kernel_rfl, ?_⟩) (by assumption) ?_
      rotate_left
      focus
        intro w9 hSw
        (try dsimp only at hSw)
        go_simp
        (try with_reducible rfl)
      (try simp only [Act.put, List.getElem_toArray, List.getElem_cons_succ, List.getElem_cons_zero, List.setIfInBounds_toArray, List.set_cons_zero, List.set_cons_succ])
      refine wpAnyH_take (i := 8) (v := ?_) rfl (by kernel_rfl) (by kernel_rfl) (by kernel_rfl) (fun _ _ _ h => h) (Or.inl ⟨by kernel_rfl, ?_⟩) (by assumption) ?_
      rotate_left
      focus
        intro w9 hSw
        (try dsimp only at hSw)
        go_simp
        (try with_reducible rfl)
      (try simp only [Act.put, List.getElem_toArray, List.getElem_cons_succ, List.getElem_cons_zero, List.setIfInBounds_toArray, List.set_cons_zero, List.set_cons_succ])
      refine wpAnyH_take (i := 9) (v := ?_) rfl (by kernel_rfl) (by kernel_rfl) (by kernel_rfl) (fun _ _ _ h => h) (Or.inl ⟨by kernel_rfl, ?_⟩) (by assumption) ?_
      rotate_left
      focus
        intro w9 hSw
        (try dsimp only at hSw)
        go_simp
        (try with_reducible rfl)
      (try simp only [Act.put, List.getElem_toArray, List.getElem_cons_succ, List.getElem_cons_zero, List.setIfInBounds_toArray, List.set_cons_zero, List.set_cons_succ])
      refine wpAnyH_ready (rs := [10]) (by kernel_rfl) (by simp) (AllReadyH.cons rfl (fun K hK => ?_) AllReadyH.nil)
      go_simp
      go_at_call 45
      refine (wrap_any _ _ _).mono ?_
      rintro en w1 ⟨rfl, rfl⟩
      refine hK.out _ _ ?_ (fun hHeld => ?_)
      focus
       (try dsimp only)
       first | (simp [*, World.cell?_alloc_some, World.cell?_setCell_far, add_block]; done) | go_keep
      clear hK K
      refine wpAnyH_take (i := 11) (v := ?_) rfl (by kernel_rfl) (by kernel_rfl) (by kernel_rfl) (fun _ _ _ h => h) (Or.inl ⟨by kernel_rfl, ?_⟩) (by assumption) ?_
      rotate_left
      focus
        intro w9 hSw
        (try dsimp only at hSw)
        go_simp
        (try with_reducible rfl)
      (try simp only [Act.put, List.getElem_toArray, List.getElem_cons_succ, List.getElem_cons_zero, List.setIfInBounds_toArray, List.set_cons_zero, List.set_cons_succ])
      refine wpAnyH_done (by kernel_rfl) (lastQ_step rfl (fun K hK => ?_)) _
      go_simp
      refine hK _ _ ?_
      clear hK K
      have kbn := (kb'.set_ 3 (.int .i64 (wrapP (e - c) d))).drew
      have krn := (kr.far (p := ⟨w.heap.size, 3, none⟩) (by simp) (.int .i64 (wrapP (e - c) d))).drew
      go_wp2
      go_roundw
      case rel => exact ⟨2, by omega, rfl, (bx.setCell (by simp) _).drew, by simpa using kbn, krn⟩
      case measure => simp [intOf]
set_option maxHeartbeats 4000000 in
theorem back_4 (a b c e : Int) (hs : C4.small ⟨a, b, c, e⟩) (d : Int) (hd : 1 ≤ d ∧ d ≤ 16) (w : World) :
    Calls Try.prog 35 #[.agg #[.int .i64 a, .int .i64 b, .int .i64 c, .int .i64 e], .int .i64 4, .int .i64 d] w fun en w' => en = .returned (C4.val (backC 4 d ⟨a, b, c, e⟩)) ∧ Below w.heap.size w w' := by
  rw [backC_4]
  obtain ⟨⟨a0, a1⟩, ⟨b0, b1⟩, ⟨c0, c1⟩, ⟨e0, e1⟩⟩ := hs
  simp only at *
  have HW := Lib.hid (fun v W => wrap_hid v d hd W)
  have HF := Lib.hid (fun v W => fold_hid v d hd W)
  obtain ⟨r1, r1'⟩ := wrapP_range2 hd (b + a)
  obtain ⟨r2, r2'⟩ := wrapP_range2 hd (c + wrapP (b + a) d)
  go_enter Try.func35, Try.ntmps35
  go_wp2
  have kb := (Blk.new w 52 #[.int .i64 a, .int .i64 b, .int .i64 c, .int .i64 e]).alloc (.cells #[.int .i64 0, .int .i64 0, .int .i64 0, .int .i64 0] 52)
  have kr := Blk.new1 w (.cells #[.int .i64 a, .int .i64 b, .int .i64 c, .int .i64 e] 52) 52 #[.int .i64 0, .int .i64 0, .int .i64 0, .int .i64 0]
  have bx := below_alloc (below_alloc (Below.refl w.heap.size w) (.cells #[.int .i64 a, .int .i64 b, .int .i64 c, .int .i64 e] 52)) (.cells #[.int .i64 0, .int .i64 0, .int .i64 0, .int .i64 0] 52)
  generalize (w.alloc (.cells #[.int .i64 a, .int .i64 b, .int .i64 c, .int .i64 e] 52)).alloc (.cells #[.int .i64 0, .int .i64 0, .int .i64 0, .int .i64 0] 52) = wa at *
  have bsz := kr.lt
  go_loopw [16] (fun i wr => ∃ (k : Nat), 1 ≤ k ∧ k ≤ 4 ∧ i = .int .i64 k ∧ Below w.heap.size w wr ∧ Blk wr w.heap.size 52 #[.int .i64 a, .int .i64 (if 1 < k then (wrapP (b + a) d) else b), .int .i64 (if 2 < k then (wrapP (c + wrapP (b + a) d) d) else c), .int .i64 (if 3 < k then (wrapP (e + wrapP (c + wrapP (b + a) d) d) d) else e)] ∧ Blk wr (w.heap.size + 1) 52 #[.int .i64 0, .int .i64 0, .int .i64 0, .int .i64 0]) (fun i _ => 4 - (intOf i).toNat)
  case atStart => exact ⟨1, by omega, by omega, rfl, bx, by simpa using kb, kr⟩
  case round =>
    obtain ⟨k, hk0, hk, rfl, bx, kb, kr⟩ := hrel
    rcases (show k = 4 ∨ k = 1 ∨ k = 2 ∨ k = 3 by omega) with rfl | rfl | rfl | rfl
    · simp only [show (1 : Nat) < 4 by omega, show (2 : Nat) < 4 by omega, show (3 : Nat) < 4 by omega, if_true] at kb
      obtain ⟨x0, x1, x2, x3, f0, f1, f2, f3⟩ := kb.four
      obtain ⟨q0, q1, q2, q3, g0, g1, g2, g3⟩ := kr.four
      go_wp2
      refine bodyPost_ret (v := .agg #[.int .i64 a, .int .i64 (wrapP (b + a) d), .int .i64 (wrapP (c + wrapP (b + a) d) d), .int .i64 (wrapP (e + wrapP (c + wrapP (b + a) d) d) d)]) (by simp [results, Try.results35, go_sem, q0, q1, q2, q3]) rfl ⟨agg4 rfl rfl rfl rfl, ?_⟩
      repeat (refine Below.setCell ?_ (by simp) _)
      exact bx
    · have kb' : Blk wr w.heap.size 52 #[.int .i64 a, .int .i64 b, .int .i64 c, .int .i64 e] := by simpa using kb
      clear kb
      rw [show ((1 : Nat) : Int) = 1 from rfl]
      obtain ⟨x0, x1, x2, x3, f0, f1, f2, f3⟩ := kb'.four
      have zk : IntKind.i64.wrap 0 = 0 := IntWalk.i64_in _ (by omega)
      have zs := IntWalk.i64_in (b + a) (by omega)
      go_wp2
      refine wp_region_last (S := (fun w' => w'.cell? ⟨w.heap.size, 0, none⟩ = some (.int .i64 a) ∧ w'.cell? ⟨w.heap.size, 1, none⟩ = some (.int .i64 b))) 12 _ (by simp only [List.pop_toArray, List.dropLast_cons_cons, List.dropLast_singleton]; rfl) (by kernel_rfl) (by kernel_rfl) (by kernel_rfl) (by kernel_rfl) (by kernel_rfl) ?_ (fun hHeld => ?_)
      focus exact ⟨x0, x1⟩
      refine wpAnyH_take (i := 0) (v := ?_) rfl (by kernel_rfl) (by kernel_rfl) (by kernel_rfl) (fun _ _ _ h => h) (Or.inl ⟨by kernel_rfl, ?_⟩) (by assumption) ?_
      rotate_left
      focus
        intro w9 hSw
        (try dsimp only at hSw)
        go_simp
        (try with_reducible rfl)
      (try simp only [Act.put, List.getElem_toArray, List.getElem_cons_succ, List.getElem_cons_zero, List.setIfInBounds_toArray, List.set_cons_zero, List.set_cons_succ])
      refine wpAnyH_take (i := 1) (v := ?_) rfl (by kernel_rfl) (by kernel_rfl) (by kernel_rfl) (fun _ _ _ h => h) (Or.inl ⟨by kernel_rfl, ?_⟩) (by assumption) ?_
      rotate_left
      focus
        intro w9 hSw
        (try dsimp only at hSw)
        go_simp
        (try with_reducible rfl)
      (try simp only [Act.put, List.getElem_toArray, List.getElem_cons_succ, List.getElem_cons_zero, List.setIfInBounds_toArray, List.set_cons_zero, List.set_cons_succ])
      refine wpAnyH_take (i := 2) (v := ?_) rfl (by kernel_rfl) (by kernel_rfl) (by kernel_rfl) (fun _ _ _ h => h) (Or.inl ⟨by kernel_rfl, ?_⟩) (by assumption) ?_
      rotate_left
      focus
        intro w9 hSw
        (try dsimp only at hSw)
        go_simp
        (try with_reducible rfl)
      (try simp only [Act.put, List.getElem_toArray, List.getElem_cons_succ, List.getElem_cons_zero, List.setIfInBounds_toArray, List.set_cons_zero, List.set_cons_succ])
      refine wpAnyH_take (i := 3) (v := ?_) rfl (by kernel_rfl) (by kernel_rfl) (by kernel_rfl) (fun _ _ _ h => h) (Or.inl ⟨by kernel_rfl, ?_⟩) (by assumption) ?_
      rotate_left
      focus
        intro w9 hSw
        (try dsimp only at hSw)
        go_simp
        (try with_reducible rfl)
      (try simp only [Act.put, List.getElem_toArray, List.getElem_cons_succ, List.getElem_cons_zero, List.setIfInBounds_toArray, List.set_cons_zero, List.set_cons_succ])
      refine wpAnyH_take (i := 4) (v := ?_) rfl (by kernel_rfl) (by kernel_rfl) (by kernel_rfl) (fun _ _ _ h => h) (Or.inl ⟨by kernel_rfl, ?_⟩) (by assumption) ?_
      rotate_left
      focus
        intro w9 hSw
        (try dsimp only at hSw)
        go_simp
        (try with_reducible rfl)
      (try simp only [Act.put, List.getElem_toArray, List.getElem_cons_succ, List.getElem_cons_zero, List.setIfInBounds_toArray, List.set_cons_zero, List.set_cons_succ])
      refine wpAnyH_take (i := 5) (v := ?_) rfl (by kernel_rfl) (by kernel_rfl) (by kernel_rfl) (fun _ _ _ h => h) (Or.inl ⟨by kernel_rfl, ?_⟩) (by assumption) ?_
      rotate_left
      focus
        intro w9 hSw
        (try dsimp only at hSw)
        go_simp
        (try with_reducible rfl)
      (try simp only [Act.put, List.getElem_toArray, List.getElem_cons_succ, List.getElem_cons_zero, List.setIfInBounds_toArray, List.set_cons_zero, List.set_cons_succ])
      refine wpAnyH_take (i := 6) (v := ?_) rfl (by kernel_rfl) (by kernel_rfl) (by kernel_rfl) (fun _ _ _ h => h) (Or.inl ⟨by kernel_rfl, ?_⟩) (by assumption) ?_
      rotate_left
      focus
        intro w9 hSw
        (try dsimp only at hSw)
        go_simp
        (try with_reducible rfl)
      (try simp only [Act.put, List.getElem_toArray, List.getElem_cons_succ, List.getElem_cons_zero, List.setIfInBounds_toArray, List.set_cons_zero, List.set_cons_succ])
      refine wpAnyH_take (i := 7) (v := ?_) rfl (by kernel_rfl) (by kernel_rfl) (by kernel_rfl) (fun _ _ _ h => h) (Or.inl ⟨by kernel_rfl, ?_⟩) (by assumption) ?_
      rotate_left
      focus
        intro w9 hSw
        (try dsimp only at hSw)
        go_simp
        (try with_reducible rfl)
      (try simp only [Act.put, List.getElem_toArray, List.getElem_cons_succ, List.getElem_cons_zero, List.setIfInBounds_toArray, List.set_cons_zero, List.set_cons_succ])
      refine wpAnyH_take (i := 8) (v := ?_) rfl (by kernel_rfl) (by kernel_rfl) (by kernel_rfl) (fun _ _ _ h => h) (Or.inl ⟨by kernel_rfl, ?_⟩) (by assumption) ?_
      rotate_left
      focus
        intro w9 hSw
        (try dsimp only at hSw)
        go_simp
        (try with_reducible rfl)
      (try simp only [Act.put, List.getElem_toArray, List.getElem_cons_succ, List.getElem_cons_zero, List.setIfInBounds_toArray, List.set_cons_zero, List.set_cons_succ])
      refine wpAnyH_take (i := 9) (v := ?_) rfl (by kernel_rfl) (by kernel_rfl) (by kernel_rfl) (fun _ _ _ h => h) (Or.inl ⟨by kernel_rfl, ?_⟩) (by assumption) ?_
      rotate_left
      focus
        intro w9 hSw
        (try dsimp only at hSw)
        go_simp
        (try with_reducible rfl)
      (try simp only [Act.put, List.getElem_toArray, List.getElem_cons_succ, List.getElem_cons_zero, List.setIfInBounds_toArray, List.set_cons_zero, List.set_cons_succ])
      refine wpAnyH_ready (rs := [10]) (by kernel_rfl) (by simp) (AllReadyH.cons rfl (fun K hK => ?_) AllReadyH.nil)
      go_simp
      go_at_call 45
      refine (wrap_any _ _ _).mono ?_
      rintro en w1 ⟨rfl, rfl⟩
      refine hK.out _ _ ?_ (fun hHeld => ?_)
      focus
       (try dsimp only)
       first | (simp [*, World.cell?_alloc_some, World.cell?_setCell_far, add_block]; done) | go_keep
      clear hK K
      refine wpAnyH_take (i := 11) (v := ?_) rfl (by kernel_rfl) (by kernel_rfl) (by kernel_rfl) (fun _ _ _ h => h) (Or.inl ⟨by kernel_rfl, ?_⟩) (by assumption) ?_
      rotate_left
      focus
        intro w9 hSw
        (try dsimp only at hSw)
        go_simp
        (try with_reducible rfl)
      (try simp only [Act.put, List.getElem_toArray, List.getElem_cons_succ, List.getElem_cons_zero, List.setIfInBounds_toArray, List.set_cons_zero, List.set_cons_succ])
      refine wpAnyH_done (by kernel_rfl) (lastQ_step rfl (fun K hK => ?_)) _
      go_simp
      refine hK _ _ ?_
      clear hK K
      have kbn := (kb'.set_ 1 (.int .i64 (wrapP (b + a) d))).drew
      have krn := (kr.far (p := ⟨w.heap.size, 1, none⟩) (by simp) (.int .i64 (wrapP (b + a) d))).drew
      go_wp2
      go_roundw
      case rel => exact ⟨2, by omega, by omega, rfl, (bx.setCell (by simp) _).drew, by simpa using kbn, krn⟩
      case measure => simp [intOf]
    · have kb' : Blk wr w.heap.size 52 #[.int .i64 a, .int .i64 (wrapP (b + a) d), .int .i64 c, .int .i64 e] := by simpa using kb
      clear kb
      rw [show ((2 : Nat) : Int) = 2 from rfl]
      obtain ⟨x0, x1, x2, x3, f0, f1, f2, f3⟩ := kb'.four
      have zk : IntKind.i64.wrap 1 = 1 := IntWalk.i64_in _ (by omega)
      have zs := IntWalk.i64_in (c + (wrapP (b + a) d)) (by omega)
      go_wp2
      refine wp_region_last (S := (fun w' => w'.cell? ⟨w.heap.size, 1, none⟩ = some (.int .i64 (wrapP (b + a) d)) ∧ w'.cell? ⟨w.heap.size, 2, none⟩ = some (.int .i64 c))) 12 _ (by simp only [List.pop_toArray, List.dropLast_cons_cons, List.dropLast_singleton]; rfl) (by kernel_rfl) (by kernel_rfl) (by kernel_rfl) (by kernel_rfl) (by kernel_rfl) ?_ (fun hHeld => ?_)
      focus exact ⟨x1, x2⟩
      refine wpAnyH_take (i := 0) (v := ?_) rfl (by kernel_rfl) (by kernel_rfl) (by kernel_rfl) (fun _ _ _ h => h) (Or.inl ⟨by kernel_rfl, ?_⟩) (by assumption) ?_
      rotate_left
      focus
        intro w9 hSw
        (try dsimp only at hSw)
        go_simp
        (try with_reducible rfl)
      (try simp only [Act.put, List.getElem_toArray, List.getElem_cons_succ, List.getElem_cons_zero, List.setIfInBounds_toArray, List.set_cons_zero, List.set_cons_succ])
      refine wpAnyH_take (i := 1) (v := ?_) rfl (by kernel_rfl) (by kernel_rfl) (by kernel_rfl) (fun _ _ _ h => h) (Or.inl ⟨by kernel_rfl, ?_⟩) (by assumption) ?_
      rotate_left
      focus
        intro w9 hSw
        (try dsimp only at hSw)
        go_simp
        (try with_reducible rfl)
      (try simp only [Act.put, List.getElem_toArray, List.getElem_cons_succ, List.getElem_cons_zero, List.setIfInBounds_toArray, List.set_cons_zero, List.set_cons_succ])
      refine wpAnyH_take (i := 2) (v := ?_) rfl (by kernel_rfl) (by kernel_rfl) (by kernel_rfl) (fun _ _ _ h => h) (Or.inl ⟨by kernel_rfl, ?_⟩) (by assumption) ?_
      rotate_left
      focus
        intro w9 hSw
        (try dsimp only at hSw)
        go_simp
        (try with_reducible rfl)
      (try simp only [Act.put, List.getElem_toArray, List.getElem_cons_succ, List.getElem_cons_zero, List.setIfInBounds_toArray, List.set_cons_zero, List.set_cons_succ])
      refine wpAnyH_take (i := 3) (v := ?_) rfl (by kernel_rfl) (by kernel_rfl) (by kernel_rfl) (fun _ _ _ h => h) (Or.inl ⟨by kernel_rfl, ?_⟩) (by assumption) ?_
      rotate_left
      focus
        intro w9 hSw
        (try dsimp only at hSw)
        go_simp
        (try with_reducible rfl)
      (try simp only [Act.put, List.getElem_toArray, List.getElem_cons_succ, List.getElem_cons_zero, List.setIfInBounds_toArray, List.set_cons_zero, List.set_cons_succ])
      refine wpAnyH_take (i := 4) (v := ?_) rfl (by kernel_rfl) (by kernel_rfl) (by kernel_rfl) (fun _ _ _ h => h) (Or.inl ⟨by kernel_rfl, ?_⟩) (by assumption) ?_
      rotate_left
      focus
        intro w9 hSw
        (try dsimp only at hSw)
        go_simp
        (try with_reducible rfl)
      (try simp only [Act.put, List.getElem_toArray, List.getElem_cons_succ, List.getElem_cons_zero, List.setIfInBounds_toArray, List.set_cons_zero, List.set_cons_succ])
      refine wpAnyH_take (i := 5) (v := ?_) rfl (by kernel_rfl) (by kernel_rfl) (by kernel_rfl) (fun _ _ _ h => h) (Or.inl ⟨by kernel_rfl, ?_⟩) (by assumption) ?_
      rotate_left
      focus
        intro w9 hSw
        (try dsimp only at hSw)
        go_simp
        (try with_reducible rfl)
      (try simp only [Act.put, List.getElem_toArray, List.getElem_cons_succ, List.getElem_cons_zero, List.setIfInBounds_toArray, List.set_cons_zero, List.set_cons_succ])
      refine wpAnyH_take (i := 6) (v := ?_) rfl (by kernel_rfl) (by kernel_rfl) (by kernel_rfl) (fun _ _ _ h => h) (Or.inl ⟨by kernel_rfl, ?_⟩) (by assumption) ?_
      rotate_left
      focus
        intro w9 hSw
        (try dsimp only at hSw)
        go_simp
        (try with_reducible rfl)
      (try simp only [Act.put, List.getElem_toArray, List.getElem_cons_succ, List.getElem_cons_zero, List.setIfInBounds_toArray, List.set_cons_zero, List.set_cons_succ])
      refine wpAnyH_take (i := 7) (v := ?_) rfl (by kernel_rfl) (by kernel_rfl) (by kernel_rfl) (fun _ _ _ h => h) (Or.inl ⟨by kernel_rfl, ?_⟩) (by assumption) ?_
      rotate_left
      focus
        intro w9 hSw
        (try dsimp only at hSw)
        go_simp
        (try with_reducible rfl)
      (try simp only [Act.put, List.getElem_toArray, List.getElem_cons_succ, List.getElem_cons_zero, List.setIfInBounds_toArray, List.set_cons_zero, List.set_cons_succ])
      refine wpAnyH_take (i := 8) (v := ?_) rfl (by kernel_rfl) (by kernel_rfl) (by kernel_rfl) (fun _ _ _ h => h) (Or.inl ⟨by kernel_rfl, ?_⟩) (by assumption) ?_
      rotate_left
      focus
        intro w9 hSw
        (try dsimp only at hSw)
        go_simp
        (try with_reducible rfl)
      (try simp only [Act.put, List.getElem_toArray, List.getElem_cons_succ, List.getElem_cons_zero, List.setIfInBounds_toArray, List.set_cons_zero, List.set_cons_succ])
      refine wpAnyH_take (i := 9) (v := ?_) rfl (by kernel_rfl) (by kernel_rfl) (by kernel_rfl) (fun _ _ _ h => h) (Or.inl ⟨by kernel_rfl, ?_⟩) (by assumption) ?_
      rotate_left
      focus
        intro w9 hSw
        (try dsimp only at hSw)
        go_simp
        (try with_reducible rfl)
      (try simp only [Act.put, List.getElem_toArray, List.getElem_cons_succ, List.getElem_cons_zero, List.setIfInBounds_toArray, List.set_cons_zero, List.set_cons_succ])
      refine wpAnyH_ready (rs := [10]) (by kernel_rfl) (by simp) (AllReadyH.cons rfl (fun K hK => ?_) AllReadyH.nil)
      go_simp
      go_at_call 45
      refine (wrap_any _ _ _).mono ?_
      rintro en w1 ⟨rfl, rfl⟩
      refine hK.out _ _ ?_ (fun hHeld => ?_)
      focus
       (try dsimp only)
       first | (simp [*, World.cell?_alloc_some, World.cell?_setCell_far, add_block]; done) | go_keep
      clear hK K
      refine wpAnyH_take (i := 11) (v := ?_) rfl (by kernel_rfl) (by kernel_rfl) (by kernel_rfl) (fun _ _ _ h => h) (Or.inl ⟨by kernel_rfl, ?_⟩) (by assumption) ?_
      rotate_left
      focus
        intro w9 hSw
        (try dsimp only at hSw)
        go_simp
        (try with_reducible rfl)
      (try simp only [Act.put, List.getElem_toArray, List.getElem_cons_succ, List.getElem_cons_zero, List.setIfInBounds_toArray, List.set_cons_zero, List.set_cons_succ])
      refine wpAnyH_done (by kernel_rfl) (lastQ_step rfl (fun K hK => ?_)) _
      go_simp
      refine hK _ _ ?_
      clear hK K
      have kbn := (kb'.set_ 2 (.int .i64 (wrapP (c + wrapP (b + a) d) d))).drew
      have krn := (kr.far (p := ⟨w.heap.size, 2, none⟩) (by simp) (.int .i64 (wrapP (c + wrapP (b + a) d) d))).drew
      go_wp2
      go_roundw
      case rel => exact ⟨3, by omega, by omega, rfl, (bx.setCell (by simp) _).drew, by simpa using kbn, krn⟩
      case measure => simp [intOf]
    · have kb' : Blk wr w.heap.size 52 #[.int .i64 a, .int .i64 (wrapP (b + a) d), .int .i64 (wrapP (c + wrapP (b + a) d) d), .int .i64 e] := by simpa using kb
      clear kb
      rw [show ((3 : Nat) : Int) = 3 from rfl]
      obtain ⟨x0, x1, x2, x3, f0, f1, f2, f3⟩ := kb'.four
      have zk : IntKind.i64.wrap 2 = 2 := IntWalk.i64_in _ (by omega)
      have zs := IntWalk.i64_in (e + (wrapP (c + wrapP (b + a) d) d)) (by omega)
      go_wp2
      refine wp_region_last (S := (fun w' => w'.cell? ⟨w.heap.size, 2, none⟩ = some (.int .i64 (wrapP (c + wrapP (b + a) d) d)) ∧ w'.cell? ⟨w.heap.size, 3, none⟩ = some (.int .i64 e))) 12 _ (by simp only [List.pop_toArray, List.dropLast_cons_cons, List.dropLast_singleton]; rfl) (by kernel_rfl) (by kernel_rfl) (by kernel_rfl) (by kernel_rfl) (by kernel_rfl) ?_ (fun hHeld => ?_)
      focus exact ⟨x2, x3⟩
      refine wpAnyH_take (i := 0) (v := ?_) rfl (by kernel_rfl) (by kernel_rfl) (by kernel_rfl) (fun _ _ _ h => h) (Or.inl ⟨by kernel_rfl, ?_⟩) (by assumption) ?_
      rotate_left
      focus
        intro w9 hSw
        (try dsimp only at hSw)
        go_simp
        (try with_reducible rfl)
      (try simp only [Act.put, List.getElem_toArray, List.getElem_cons_succ, List.getElem_cons_zero, List.setIfInBounds_toArray, List.set_cons_zero, List.set_cons_succ])
      refine wpAnyH_take (i := 1) (v := ?_) rfl (by kernel_rfl) (by kernel_rfl) (by kernel_rfl) (fun _ _ _ h => h) (Or.inl ⟨by kernel_rfl, ?_⟩) (by assumption) ?_
      rotate_left
      focus
        intro w9 hSw
        (try dsimp only at hSw)
        go_simp
        (try with_reducible rfl)
      (try simp only [Act.put, List.getElem_toArray, List.getElem_cons_succ, List.getElem_cons_zero, List.setIfInBounds_toArray, List.set_cons_zero, List.set_cons_succ])
      refine wpAnyH_take (i := 2) (v := ?_) rfl (by kernel_rfl) (by kernel_rfl) (by kernel_rfl) (fun _ _ _ h => h) (Or.inl ⟨by kernel_rfl, ?_⟩) (by assumption) ?_
      rotate_left
      focus
        intro w9 hSw
        (try dsimp only at hSw)
        go_simp
        (try with_reducible rfl)
      (try simp only [Act.put, List.getElem_toArray, List.getElem_cons_succ, List.getElem_cons_zero, List.setIfInBounds_toArray, List.set_cons_zero, List.set_cons_succ])
      refine wpAnyH_take (i := 3) (v := ?_) rfl (by kernel_rfl) (by kernel_rfl) (by kernel_rfl) (fun _ _ _ h => h) (Or.inl ⟨by kernel_rfl, ?_⟩) (by assumption) ?_
      rotate_left
      focus
        intro w9 hSw
        (try dsimp only at hSw)
        go_simp
        (try with_reducible rfl)
      (try simp only [Act.put, List.getElem_toArray, List.getElem_cons_succ, List.getElem_cons_zero, List.setIfInBounds_toArray, List.set_cons_zero, List.set_cons_succ])
      refine wpAnyH_take (i := 4) (v := ?_) rfl (by kernel_rfl) (by kernel_rfl) (by kernel_rfl) (fun _ _ _ h => h) (Or.inl ⟨by kernel_rfl, ?_⟩) (by assumption) ?_
      rotate_left
      focus
        intro w9 hSw
        (try dsimp only at hSw)
        go_simp
        (try with_reducible rfl)
      (try simp only [Act.put, List.getElem_toArray, List.getElem_cons_succ, List.getElem_cons_zero, List.setIfInBounds_toArray, List.set_cons_zero, List.set_cons_succ])
      refine wpAnyH_take (i := 5) (v := ?_) rfl (by kernel_rfl) (by kernel_rfl) (by kernel_rfl) (fun _ _ _ h => h) (Or.inl ⟨by kernel_rfl, ?_⟩) (by assumption) ?_
      rotate_left
      focus
        intro w9 hSw
        (try dsimp only at hSw)
        go_simp
        (try with_reducible rfl)
      (try simp only [Act.put, List.getElem_toArray, List.getElem_cons_succ, List.getElem_cons_zero, List.setIfInBounds_toArray, List.set_cons_zero, List.set_cons_succ])
      refine wpAnyH_take (i := 6) (v := ?_) rfl (by kernel_rfl) (by kernel_rfl) (by kernel_rfl) (fun _ _ _ h => h) (Or.inl ⟨by kernel_rfl, ?_⟩) (by assumption) ?_
      rotate_left
      focus
        intro w9 hSw
        (try dsimp only at hSw)
        go_simp
        (try with_reducible rfl)
      (try simp only [Act.put, List.getElem_toArray, List.getElem_cons_succ, List.getElem_cons_zero, List.setIfInBounds_toArray, List.set_cons_zero, List.set_cons_succ])
      refine wpAnyH_take (i := 7) (v := ?_) rfl (by kernel_rfl) (by kernel_rfl) (by kernel_rfl) (fun _ _ _ h => h) (Or.inl ⟨by kernel_rfl, ?_⟩) (by assumption) ?_
      rotate_left
      focus
        intro w9 hSw
        (try dsimp only at hSw)
        go_simp
        (try with_reducible rfl)
      (try simp only [Act.put, List.getElem_toArray, List.getElem_cons_succ, List.getElem_cons_zero, List.setIfInBounds_toArray, List.set_cons_zero, List.set_cons_succ])
      refine wpAnyH_take (i := 8) (v := ?_) rfl (by kernel_rfl) (by kernel_rfl) (by kernel_rfl) (fun _ _ _ h => h) (Or.inl ⟨by kernel_rfl, ?_⟩) (by assumption) ?_
      rotate_left
      focus
        intro w9 hSw
        (try dsimp only at hSw)
        go_simp
        (try with_reducible rfl)
      (try simp only [Act.put, List.getElem_toArray, List.getElem_cons_succ, List.getElem_cons_zero, List.setIfInBounds_toArray, List.set_cons_zero, List.set_cons_succ])
      refine wpAnyH_take (i := 9) (v := ?_) rfl (by kernel_rfl) (by kernel_rfl) (by kernel_rfl) (fun _ _ _ h => h) (Or.inl ⟨by kernel_rfl, ?_⟩) (by assumption) ?_
      rotate_left
      focus
        intro w9 hSw
        (try dsimp only at hSw)
        go_simp
        (try with_reducible rfl)
      (try simp only [Act.put, List.getElem_toArray, List.getElem_cons_succ, List.getElem_cons_zero, List.setIfInBounds_toArray, List.set_cons_zero, List.set_cons_succ])
      refine wpAnyH_ready (rs := [10]) (by kernel_rfl) (by simp) (AllReadyH.cons rfl (fun K hK => ?_) AllReadyH.nil)
      go_simp
      go_at_call 45
      refine (wrap_any _ _ _).mono ?_
      rintro en w1 ⟨rfl, rfl⟩
      refine hK.out _ _ ?_ (fun hHeld => ?_)
      focus
       (try dsimp only)
       first | (simp [*, World.cell?_alloc_some, World.cell?_setCell_far, add_block]; done) | go_keep
      clear hK K
      refine wpAnyH_take (i := 11) (v := ?_) rfl (by kernel_rfl) (by kernel_rfl) (by kernel_rfl) (fun _ _ _ h => h) (Or.inl ⟨by kernel_rfl, ?_⟩) (by assumption) ?_
      rotate_left
      focus
        intro w9 hSw
        (try dsimp only at hSw)
        go_simp
        (try with_reducible rfl)
      (try simp only [Act.put, List.getElem_toArray, List.getElem_cons_succ, List.getElem_cons_zero, List.setIfInBounds_toArray, List.set_cons_zero, List.set_cons_succ])
      refine wpAnyH_done (by kernel_rfl) (lastQ_step rfl (fun K hK => ?_)) _
      go_simp
      refine hK _ _ ?_
      clear hK K
      have kbn := (kb'.set_ 3 (.int .i64 (wrapP (e + wrapP (c + wrapP (b + a) d) d) d))).drew
      have krn := (kr.far (p := ⟨w.heap.size, 3, none⟩) (by simp) (.int .i64 (wrapP (e + wrapP (c + wrapP (b + a) d) d) d))).drew
      go_wp2
      go_roundw
      case rel => exact ⟨4, by omega, by omega, rfl, (bx.setCell (by simp) _).drew, by simpa using kbn, krn⟩
      case measure => simp [intOf]
end Go.Proofs.Yticjiodnolngcaa
