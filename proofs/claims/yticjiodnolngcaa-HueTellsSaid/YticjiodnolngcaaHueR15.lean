/- Cost and best of a picture that is none, program and reference: 0. -/
import Derived.Test.YticjiodnolngcaaHueR14
set_option linter.unusedSimpArgs false
set_option linter.unusedVariables false
namespace Go.Proofs.Yticjiodnolngcaa
open Go.RowKit

set_option maxHeartbeats 4000000 in
theorem cost_no {w : World} {B : Nat} {q : Pc} {A : Option Addr} {c : Nat} (hr : RdLL w B .i64 A q.p) (hB : B ≤ w.heap.size) (h63 : Len63 q.p) (hq : isB q = false) :
    Calls Try.prog 15 #[.agg #[.int .i64 q.w, .int .i64 q.h, .int .i64 q.d, .slice A q.p.length c]] w fun e w' => e = .returned (.int .i64 0) ∧ Below w.heap.size w w' := by
  have HI := Lib.hid (fun W (hb : Below w.heap.size w W) => is_any (c := c) (hr.to hB hb) (Nat.le_refl _))
  rw [hq] at HI
  clear hq
  go_enter Try.func15, Try.ntmps15
  go_wp2_with (first
    | (go_at_call 30; go_must (refine (HI.out _ (by repeat (first | exact Below.refl _ _ | assumption | refine Below.drew ?_ | refine below_drewN ?_ _ | refine below_alloc ?_ _))).mono ?_); rintro e w1 ⟨rfl, hb1⟩; have bb1 := below_then (below_alloc (Below.refl w.heap.size w) (.cells #[.int .i64 q.w, .int .i64 q.h, .int .i64 q.d, .slice A q.p.length c] 27)) hb1))
  go_ret
  exact ⟨rfl, bb1⟩

set_option maxHeartbeats 4000000 in
theorem rcost_no {w : World} {B : Nat} {q : Pc} {A : Option Addr} {c : Nat} (hr : RdLL w B .i64 A q.p) (hB : B ≤ w.heap.size) (h63 : Len63 q.p) (hq : isB q = false) :
    Calls Try.prog 26 #[.agg #[.int .i64 q.w, .int .i64 q.h, .int .i64 q.d, .slice A q.p.length c]] w fun e w' => e = .returned (.int .i64 0) ∧ Below w.heap.size w w' := by
  have HI := Lib.hid (fun W (hb : Below w.heap.size w W) => picis_any (c := c) (hr.to hB hb) (Nat.le_refl _) h63)
  rw [hq] at HI
  clear hq
  go_enter Try.func26, Try.ntmps26
  go_wp2_with (first
    | (go_at_call 20; go_must (refine (HI.out _ (by repeat (first | exact Below.refl _ _ | assumption | refine Below.drew ?_ | refine below_drewN ?_ _ | refine below_alloc ?_ _))).mono ?_); rintro e w1 ⟨rfl, hb1⟩; have bb1 := below_then (below_alloc (Below.refl w.heap.size w) (.cells #[.int .i64 q.w, .int .i64 q.h, .int .i64 q.d, .slice A q.p.length c] 27)) hb1))
  go_ret
  exact ⟨rfl, bb1⟩

set_option maxHeartbeats 4000000 in
set_option maxRecDepth 100000 in
theorem best_no {w : World} {B : Nat} {q : Pc} {A : Option Addr} {c : Nat} (hr : RdLL w B .i64 A q.p) (hB : B ≤ w.heap.size) (h63 : Len63 q.p) (hq : isB q = false) :
    Calls Try.prog 14 #[.agg #[.int .i64 q.w, .int .i64 q.h, .int .i64 q.d, .slice A q.p.length c]] w fun e w' => e = .returned (.int .i64 0) ∧ Below w.heap.size w w' := by
  have HN := Lib.hid (fun (k : Int) W (hb : Below w.heap.size w W) => huefore_no (c := c) (hr.to hB hb) (Nat.le_refl _) h63.1 k (by rw [hq, Bool.false_and]))
  clear hq
  go_enter Try.func14, Try.ntmps14
  go_wp2
  have k0 := Blk.new w 27 #[.int .i64 q.w, .int .i64 q.h, .int .i64 q.d, .slice A q.p.length c]
  have bxa := below_alloc (Below.refl w.heap.size w) (.cells #[.int .i64 q.w, .int .i64 q.h, .int .i64 q.d, .slice A q.p.length c] 27)
  generalize w.alloc (.cells #[.int .i64 q.w, .int .i64 q.h, .int .i64 q.d, .slice A q.p.length c] 27) = wa at *
  go_loopw [10, 3] (fun i vb wr => ∃ k : Nat, k ≤ 5 ∧ i = .int .i64 k ∧ vb = .int .i64 0 ∧ Below w.heap.size w wr ∧ Blk wr w.heap.size 27 #[.int .i64 q.w, .int .i64 q.h, .int .i64 q.d, .slice A q.p.length c]) (fun i _ _ => 5 - (intOf i).toNat)
  case atStart => exact ⟨0, by omega, rfl, rfl, bxa, k0⟩
  case round =>
    obtain ⟨k, hk, rfl, rfl, hbr, hkr⟩ := hrel
    obtain ⟨y0, y1, y2, y3, _⟩ := hkr.four
    by_cases hk5 : k < 5
    · have hk6 : (k : Int) < 5 := by omega
      go_wp2_with (first
        | (go_at_call 11; go_must (refine (HN.out k _ hbr).mono ?_); rintro e v2 ⟨rfl, hv2⟩))
      have hb2 := hbr.trans (hv2.mono hbr.size)
      have k2 := (hkr.below hv2 hkr.lt).alloc (.cells #[.int .i64 0, .int .i64 0, .int .i64 0, .slice none 0 0] 27)
      go_roundw
      case rel => exact ⟨k + 1, by omega, by go_num, rfl, hb2.alloc hb2.size _, k2⟩
      case measure => simp [intOf]; omega
    · obtain rfl : k = 5 := by omega
      go_wp2
      go_ret
      exact ⟨rfl, hbr⟩

set_option maxHeartbeats 4000000 in
set_option maxRecDepth 100000 in
theorem rbest_no {w : World} {B : Nat} {q : Pc} {A : Option Addr} {c : Nat} (hr : RdLL w B .i64 A q.p) (hB : B ≤ w.heap.size) (h63 : Len63 q.p) (hq : isB q = false) :
    Calls Try.prog 27 #[.agg #[.int .i64 q.w, .int .i64 q.h, .int .i64 q.d, .slice A q.p.length c]] w fun e w' => e = .returned (.int .i64 0) ∧ Below w.heap.size w w' := by
  have HN := Lib.hid (fun (k : Int) W (hb : Below w.heap.size w W) => rforepic_no (c := c) (hr.to hB hb) (Nat.le_refl _) h63 h63.1 k (by rw [hq, Bool.false_and]))
  clear hq
  go_enter Try.func27, Try.ntmps27
  go_wp2
  have k0 := Blk.new w 27 #[.int .i64 q.w, .int .i64 q.h, .int .i64 q.d, .slice A q.p.length c]
  have bxa := below_alloc (Below.refl w.heap.size w) (.cells #[.int .i64 q.w, .int .i64 q.h, .int .i64 q.d, .slice A q.p.length c] 27)
  generalize w.alloc (.cells #[.int .i64 q.w, .int .i64 q.h, .int .i64 q.d, .slice A q.p.length c] 27) = wa at *
  go_loopw [5, 3] (fun i vb wr => ∃ k : Nat, k ≤ 5 ∧ i = .int .i64 k ∧ vb = .int .i64 0 ∧ Below w.heap.size w wr ∧ Blk wr w.heap.size 27 #[.int .i64 q.w, .int .i64 q.h, .int .i64 q.d, .slice A q.p.length c]) (fun i _ _ => 5 - (intOf i).toNat)
  case atStart => exact ⟨0, by omega, rfl, rfl, bxa, k0⟩
  case round =>
    obtain ⟨k, hk, rfl, rfl, hbr, hkr⟩ := hrel
    obtain ⟨y0, y1, y2, y3, _⟩ := hkr.four
    by_cases hk5 : k < 5
    · have hk6 : (k : Int) ≤ 4 := by omega
      go_wp2_with (first
        | (go_at_call 39; go_must (refine (HN.out k _ hbr).mono ?_); rintro e v2 ⟨rfl, hv2⟩))
      have hb2 := hbr.trans (hv2.mono hbr.size)
      have k2 := (hkr.below hv2 hkr.lt).alloc (.cells #[.int .i64 0, .int .i64 0, .int .i64 0, .slice none 0 0] 27)
      go_roundw
      case rel => exact ⟨k + 1, by omega, by go_num, rfl, hb2.alloc hb2.size _, k2⟩
      case measure => simp [intOf]; omega
    · obtain rfl : k = 5 := by omega
      go_wp2
      go_ret
      exact ⟨rfl, hbr⟩
end Go.Proofs.Yticjiodnolngcaa
