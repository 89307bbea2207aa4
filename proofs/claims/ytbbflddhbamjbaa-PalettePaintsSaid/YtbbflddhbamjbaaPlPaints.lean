/- paints of the palette laws. -/
import Derived.Test.YtbbflddhbamjbaaPlPaint
import Derived.Test.YtbbflddhbamjbaaPlRPaint
import Derived.Test.YtbbflddhbamjbaaPicSame
import Derived.Deep.DeepCutAuto
set_option linter.unusedSimpArgs false
set_option linter.unusedVariables false
namespace Go.Proofs.Ytbbflddhbamjbaa
open Go.RowKit
theorem paintQ_63 (l : List Int) (a b : Int) (P : Pal) : Len63 (paintQ l a b P).p := by
  by_cases h : paintE l a b P = 0
  · have hok : paintOk l a b P = true := by
      cases ho : paintOk l a b P with
      | true => rfl
      | false => rw [(paint_no ho).1] at h; cases h
    rw [paintQ, if_pos h]
    rw [paintOk, Bool.and_eq_true, decide_eq_true_eq, palB_iff] at hok
    obtain ⟨hp, a1, a2, b1, b2, hlen⟩ := hok
    have hhd := hp.1
    simp only [headB, decide_eq_true_eq] at hhd
    obtain ⟨m1, m2⟩ := mul_64 (a := a) (b := b) (by omega) (by omega)
    refine ⟨by rw [paintL_len]; omega, fun r hr => ?_⟩
    simp only [paintL, List.mem_map] at hr
    obtain ⟨k, _, rfl⟩ := hr
    rw [paintK_len]
    omega
  · rw [paintQ, if_neg h]
    exact ⟨by simp, by simp⟩
theorem sameB_self (q : Pc) : sameB q q = true := by simp [sameB]
set_option maxHeartbeats 4000000 in
set_option maxRecDepth 100000 in
theorem paints_any {l : List Int} {A A2 : Option Addr} {c c2 : Nat} {a b : Int} {P : Pal} {w : World} {B : Nat} (hr : RdI w B .i64 A l) (hr2 : RdLL w B .i64 A2 P.c) (hB : B ≤ w.heap.size) (hc2 : P.c.length ≤ c2) (h63 : Len63 P.c) :
    Calls Try.prog 12 #[.slice A l.length c, .int .i64 a, .int .i64 b, palV P A2 c2] w fun e w' => e = .returned (.bool true) ∧ Below w.heap.size w w' := by
  have HP1 := Lib.hid (fun W (h : Below w.heap.size w W) => paint_any (c := c) (c2 := c2) (a := a) (b := b) (P := P) (hr.below h hB) (hr2.below h hB) (Nat.le_trans hB h.size))
  have HP2 := Lib.hid (fun W (h : Below w.heap.size w W) => rpaint_any (c := c) (c2 := c2) (a := a) (b := b) (P := P) (hr.below h hB) (hr2.below h hB) (Nat.le_trans hB h.size) hc2 h63)
  have hq := Lib.hid (paintQ_63 l a b P)
  generalize paintQ l a b P = Q at *
  generalize paintE l a b P = E at *
  obtain ⟨d, n, cs⟩ := P
  simp only [palV] at HP1 HP2 ⊢
  obtain ⟨qw, qh, qd, qp⟩ := Q
  have kp := Blk.new w 25 #[.int .i64 d, .int .i64 n, .slice A2 cs.length c2]
  have b0 := below_alloc (Below.refl w.heap.size w) (.cells #[.int .i64 d, .int .i64 n, .slice A2 cs.length c2] 25)
  go_enter Try.func12, Try.ntmps12
  go_upto_region 1 with fail
  generalize w.alloc (.cells #[.int .i64 d, .int .i64 n, .slice A2 cs.length c2] 25) = w0 at *
  have p0 := kp.cell 0
  have p1 := kp.cell 1
  have p2 := kp.cell 2
  have hkp := kp.lt
  go_upto_region 2 with (first
    | (go_at_call 22; (with_reducible refine (HP1.out _ b0).mono ?_); rintro e w1 ⟨A3, c3, rfl, hr3, hb1⟩; clear p0 p1 p2))
  have k3 := Blk.new w1 30 #[.int .i64 qw, .int .i64 qh, .int .i64 qd, .slice A3 qp.length c3]
  have kp2 := (kp.below hb1 hkp).alloc (.cells #[.int .i64 qw, .int .i64 qh, .int .i64 qd, .slice A3 qp.length c3] 30)
  have b02 := below_alloc (below_then b0 hb1) (.cells #[.int .i64 qw, .int .i64 qh, .int .i64 qd, .slice A3 qp.length c3] 30)
  have hr32 := hr3.to (Nat.le_refl _) (below_alloc (Below.refl w1.heap.size w1) (.cells #[.int .i64 qw, .int .i64 qh, .int .i64 qd, .slice A3 qp.length c3] 30))
  obtain ⟨g3, hg3⟩ : ∃ g3, g3 = w1.heap.size := ⟨_, rfl⟩
  try simp only at k3 kp2 b02 hr32
  rw [← hg3] at k3 ⊢
  clear hg3
  try simp only
  generalize w1.alloc (.cells #[.int .i64 qw, .int .i64 qh, .int .i64 qd, .slice A3 qp.length c3] 30) = w2 at *
  have p0 := kp2.cell 0
  have p1 := kp2.cell 1
  have p2 := kp2.cell 2
  have hk3 := k3.lt
  go_upto_region 3 with (first
    | (go_at_call 33; (with_reducible refine (HP2.out _ b02).mono ?_); rintro e w3 ⟨A4, c4, rfl, hr4, hb3⟩; clear p0 p1 p2))
  try simp only
  have k4 := Blk.new w3 30 #[.int .i64 qw, .int .i64 qh, .int .i64 qd, .slice A4 qp.length c4]
  have k34 := (k3.below hb3 hk3).alloc (.cells #[.int .i64 qw, .int .i64 qh, .int .i64 qd, .slice A4 qp.length c4] 30)
  have b04 := below_alloc (below_then b02 hb3) (.cells #[.int .i64 qw, .int .i64 qh, .int .i64 qd, .slice A4 qp.length c4] 30)
  have hr44 := hr4.to (Nat.le_refl _) (below_alloc (Below.refl w3.heap.size w3) (.cells #[.int .i64 qw, .int .i64 qh, .int .i64 qd, .slice A4 qp.length c4] 30))
  have hr34 := hr32.to (Nat.le_refl _) (below_alloc hb3 (.cells #[.int .i64 qw, .int .i64 qh, .int .i64 qd, .slice A4 qp.length c4] 30))
  obtain ⟨g4, hg4⟩ : ∃ g4, g4 = w3.heap.size := ⟨_, rfl⟩
  try simp only at k4 k34 b04 hr44 hr34
  rw [← hg4] at k4 ⊢
  clear hg4
  generalize w3.alloc (.cells #[.int .i64 qw, .int .i64 qh, .int .i64 qd, .slice A4 qp.length c4] 30) = w4 at *
  obtain ⟨a0, a1, a2, a3, _⟩ := k34.four
  obtain ⟨e0, e1, e2, e3, _⟩ := k4.four
  have HSm := Lib.hid (same_any (a := ⟨qw, qh, qd, qp⟩) (b := ⟨qw, qh, qd, qp⟩) (c := c3) (c2 := c4) hr34 hr44 (Nat.le_refl _) hq.out)
  simp only [sameB_self] at HSm
  have q1 : (E == E) = true := by simp
  go_wp2_with (first
    | (go_at_call 23; (with_reducible refine HSm.out.mono ?_); rintro e w5 ⟨rfl, hb5⟩))
  go_ret
  exact ⟨rfl, below_then b04 hb5⟩
end Go.Proofs.Ytbbflddhbamjbaa
