/- The reference's hue where there is nothing to do; HueFore, HueBack. -/
import Derived.Test.YticjiodnolngcaaHueR11
set_option linter.unusedSimpArgs false
set_option linter.unusedVariables false
namespace Go.Proofs.Yticjiodnolngcaa
open Go.RowKit

set_option maxHeartbeats 4000000 in
theorem rhue_no {w : World} {B : Nat} {q : Pc} {A : Option Addr} {c : Nat} (hr : RdLL w B .i64 A q.p) (hB : B ≤ w.heap.size) (h63 : Len63 q.p) (hl : q.p.length ≤ 9223372036854775807) (kind : Int) (is : Bool) (hno : (isB q && mayB q.p.length kind) = false) :
    Calls Try.prog 48 #[.agg #[.int .i64 q.w, .int .i64 q.h, .int .i64 q.d, .slice A q.p.length c], .int .i64 kind, .bool is] w fun e w' => e = .returned (.tuple #[.agg #[.int .i64 0, .int .i64 0, .int .i64 0, .slice none 0 0], .int .i64 1]) ∧ Below w.heap.size w w' := by
  have HI := Lib.hid (fun W (hb : Below w.heap.size w W) => picis_any (c := c) (hr.to hB hb) (Nat.le_refl _) h63)
  have HM := Lib.hid (fun W => huemay_any q.p.length kind W)
  cases hq : isB q
  all_goals
    first
    | (rw [hq] at HI hno; rw [Bool.true_and] at hno; rw [hno] at HM; clear hq hno)
    | (rw [hq] at HI; clear hq hno)
    go_enter Try.func48, Try.ntmps48
    go_wp2_with (first
      | (go_at_call 20; go_must (refine (HI.out _ (by repeat (first | exact Below.refl _ _ | assumption | refine Below.drew ?_ | refine below_drewN ?_ _ | refine below_alloc ?_ _))).mono ?_); rintro e w1 ⟨rfl, hb1⟩; have k1 := ((Blk.new w 27 #[.int .i64 q.w, .int .i64 q.h, .int .i64 q.d, .slice A q.p.length c]).alloc (.cells #[.int .i64 0, .int .i64 0, .int .i64 0, .slice none 0 0] 27)).below hb1 (by simp; omega); have r1 := (Blk.new1 w (.cells #[.int .i64 q.w, .int .i64 q.h, .int .i64 q.d, .slice A q.p.length c] 27) 27 #[.int .i64 0, .int .i64 0, .int .i64 0, .slice none 0 0]).below hb1 (by simp); obtain ⟨y0, y1, y2, y3, _⟩ := k1.four; obtain ⟨q0, q1, q2, q3, f0, f1, f2, f3⟩ := r1.four; have bb1 := below_then (below_alloc (below_alloc (Below.refl w.heap.size w) _) _) hb1)
      | (go_at_call 25; go_must (refine (HM.out _).mono ?_); rintro e w2 ⟨rfl, hb2⟩; have r2 := r1.below hb2 r1.lt; clear y0 y1 y2 y3 q0 q1 q2 q3 f0 f1 f2 f3; obtain ⟨q0, q1, q2, q3, f0, f1, f2, f3⟩ := r2.four; have bb2 := below_then bb1 hb2))
    refine bodyPost_ret (v := .tuple #[.agg #[.int .i64 0, .int .i64 0, .int .i64 0, .slice none 0 0], .int .i64 1]) (by simp [results, Try.results48, go_sem, q0, q1, q2, q3]) rfl ⟨rfl, ?_⟩
    repeat (refine Below.setCell ?_ (by simp) _)
    first | exact bb2 | exact bb1

set_option maxHeartbeats 4000000 in
theorem rforepic_no {w : World} {B : Nat} {q : Pc} {A : Option Addr} {c : Nat} (hr : RdLL w B .i64 A q.p) (hB : B ≤ w.heap.size) (h63 : Len63 q.p) (hl : q.p.length ≤ 9223372036854775807) (kind : Int) (hno : (isB q && mayB q.p.length kind) = false) :
    Calls Try.prog 39 #[.agg #[.int .i64 q.w, .int .i64 q.h, .int .i64 q.d, .slice A q.p.length c], .int .i64 kind] w fun e w' => e = .returned (.tuple #[.agg #[.int .i64 0, .int .i64 0, .int .i64 0, .slice none 0 0], .int .i64 1]) ∧ Below w.heap.size w w' := by
  have HH := Lib.hid (fun W (hb : Below w.heap.size w W) => rhue_no (c := c) (hr.to hB hb) (Nat.le_refl _) h63 hl kind true hno)
  clear hno
  go_enter Try.func39, Try.ntmps39
  go_wp2_with (first
    | (go_at_call 48; go_must (refine (HH.out _ (by repeat (first | exact Below.refl _ _ | assumption | refine Below.drew ?_ | refine below_drewN ?_ _ | refine below_alloc ?_ _))).mono ?_); rintro e w1 ⟨rfl, hb1⟩; have r1 := (Blk.new1 w (.cells #[.int .i64 q.w, .int .i64 q.h, .int .i64 q.d, .slice A q.p.length c] 27) 27 #[.int .i64 0, .int .i64 0, .int .i64 0, .slice none 0 0]).below hb1 (by simp); obtain ⟨q0, q1, q2, q3, f0, f1, f2, f3⟩ := r1.four; have bb1 := below_then (below_alloc (below_alloc (Below.refl w.heap.size w) _) _) hb1))
  refine bodyPost_ret (v := .tuple #[.agg #[.int .i64 0, .int .i64 0, .int .i64 0, .slice none 0 0], .int .i64 1]) (by simp [results, Try.results39, go_sem, q0, q1, q2, q3]) rfl ⟨rfl, ?_⟩
  repeat (refine Below.setCell ?_ (by simp) _)
  exact bb1

set_option maxHeartbeats 4000000 in
theorem rforepic_yes {w : World} {B W H d : Nat} {p : List (List Int)} {A : Option Addr} {c : Nat} (hr : RdLL w B .i64 A p) (hB : B ≤ w.heap.size) (hI : isB ⟨(W : Int), (H : Int), (d : Int), p⟩ = true) (kind : Int) (hm : mayB p.length kind = true) :
    Calls Try.prog 39 #[.agg #[.int .i64 (W : Int), .int .i64 (H : Int), .int .i64 (d : Int), .slice A p.length c], .int .i64 kind] w fun e w' => ∃ A' c', e = .returned (.tuple #[.agg #[.int .i64 (W : Int), .int .i64 (H : Int), .int .i64 (d : Int), .slice A' p.length c'], .int .i64 0]) ∧
      OwnLL w' w.heap.size 22 3 .i64 (.slice A' p.length c') (hueLL (foreC kind d) p (W * H)) ∧ Below w.heap.size w w' := by
  have HH := Lib.hid (fun W' (hb : Below w.heap.size w W') => rhuefore_yes (c := c) (hr.to hB hb) (Nat.le_refl _) hI kind hm)
  clear hI hm
  generalize hueLL (foreC kind d) p (W * H) = L at *
  go_enter Try.func39, Try.ntmps39
  go_wp2_with (first
    | (go_at_call 48; go_must (refine (HH.out _ (by repeat (first | exact Below.refl _ _ | assumption | refine Below.drew ?_ | refine below_drewN ?_ _ | refine below_alloc ?_ _))).mono ?_); rintro e w1 ⟨A1, c1, rfl, ho1, hb1⟩; have r1 := (Blk.new1 w (.cells #[.int .i64 (W : Int), .int .i64 (H : Int), .int .i64 (d : Int), .slice A p.length c] 27) 27 #[.int .i64 0, .int .i64 0, .int .i64 0, .slice none 0 0]).below hb1 (by simp); obtain ⟨q0, q1, q2, q3, f0, f1, f2, f3⟩ := r1.four; have bb1 := below_then (below_alloc (below_alloc (Below.refl w.heap.size w) _) _) hb1))
  refine bodyPost_ret (v := .tuple #[.agg #[.int .i64 (W : Int), .int .i64 (H : Int), .int .i64 (d : Int), .slice A1 p.length c1], .int .i64 0]) (by simp [results, Try.results39, go_sem, q0, q1, q2, q3]) rfl ⟨A1, c1, rfl, ?_, ?_⟩
  · exact ((((ho1.far (by simp) _).far (by simp) _).far (by simp) _).far (by simp) _).base_ (by simp; omega)
  · repeat (refine Below.setCell ?_ (by simp) _)
    exact bb1

set_option maxHeartbeats 4000000 in
theorem rbackpic_no {w : World} {B : Nat} {q : Pc} {A : Option Addr} {c : Nat} (hr : RdLL w B .i64 A q.p) (hB : B ≤ w.heap.size) (h63 : Len63 q.p) (hl : q.p.length ≤ 9223372036854775807) (kind : Int) (hno : (isB q && mayB q.p.length kind) = false) :
    Calls Try.prog 40 #[.agg #[.int .i64 q.w, .int .i64 q.h, .int .i64 q.d, .slice A q.p.length c], .int .i64 kind] w fun e w' => e = .returned (.tuple #[.agg #[.int .i64 0, .int .i64 0, .int .i64 0, .slice none 0 0], .int .i64 1]) ∧ Below w.heap.size w w' := by
  have HH := Lib.hid (fun W (hb : Below w.heap.size w W) => rhue_no (c := c) (hr.to hB hb) (Nat.le_refl _) h63 hl kind false hno)
  clear hno
  go_enter Try.func40, Try.ntmps40
  go_wp2_with (first
    | (go_at_call 48; go_must (refine (HH.out _ (by repeat (first | exact Below.refl _ _ | assumption | refine Below.drew ?_ | refine below_drewN ?_ _ | refine below_alloc ?_ _))).mono ?_); rintro e w1 ⟨rfl, hb1⟩; have r1 := (Blk.new1 w (.cells #[.int .i64 q.w, .int .i64 q.h, .int .i64 q.d, .slice A q.p.length c] 27) 27 #[.int .i64 0, .int .i64 0, .int .i64 0, .slice none 0 0]).below hb1 (by simp); obtain ⟨q0, q1, q2, q3, f0, f1, f2, f3⟩ := r1.four; have bb1 := below_then (below_alloc (below_alloc (Below.refl w.heap.size w) _) _) hb1))
  refine bodyPost_ret (v := .tuple #[.agg #[.int .i64 0, .int .i64 0, .int .i64 0, .slice none 0 0], .int .i64 1]) (by simp [results, Try.results40, go_sem, q0, q1, q2, q3]) rfl ⟨rfl, ?_⟩
  repeat (refine Below.setCell ?_ (by simp) _)
  exact bb1

set_option maxHeartbeats 4000000 in
theorem rbackpic_yes {w : World} {B W H d : Nat} {p : List (List Int)} {A : Option Addr} {c : Nat} (hr : RdLL w B .i64 A p) (hB : B ≤ w.heap.size) (hI : isB ⟨(W : Int), (H : Int), (d : Int), p⟩ = true) (kind : Int) (hm : mayB p.length kind = true) :
    Calls Try.prog 40 #[.agg #[.int .i64 (W : Int), .int .i64 (H : Int), .int .i64 (d : Int), .slice A p.length c], .int .i64 kind] w fun e w' => ∃ A' c', e = .returned (.tuple #[.agg #[.int .i64 (W : Int), .int .i64 (H : Int), .int .i64 (d : Int), .slice A' p.length c'], .int .i64 0]) ∧
      OwnLL w' w.heap.size 22 3 .i64 (.slice A' p.length c') (hueLL (backC kind d) p (W * H)) ∧ Below w.heap.size w w' := by
  have HH := Lib.hid (fun W' (hb : Below w.heap.size w W') => rhueback_yes (c := c) (hr.to hB hb) (Nat.le_refl _) hI kind hm)
  clear hI hm
  generalize hueLL (backC kind d) p (W * H) = L at *
  go_enter Try.func40, Try.ntmps40
  go_wp2_with (first
    | (go_at_call 48; go_must (refine (HH.out _ (by repeat (first | exact Below.refl _ _ | assumption | refine Below.drew ?_ | refine below_drewN ?_ _ | refine below_alloc ?_ _))).mono ?_); rintro e w1 ⟨A1, c1, rfl, ho1, hb1⟩; have r1 := (Blk.new1 w (.cells #[.int .i64 (W : Int), .int .i64 (H : Int), .int .i64 (d : Int), .slice A p.length c] 27) 27 #[.int .i64 0, .int .i64 0, .int .i64 0, .slice none 0 0]).below hb1 (by simp); obtain ⟨q0, q1, q2, q3, f0, f1, f2, f3⟩ := r1.four; have bb1 := below_then (below_alloc (below_alloc (Below.refl w.heap.size w) _) _) hb1))
  refine bodyPost_ret (v := .tuple #[.agg #[.int .i64 (W : Int), .int .i64 (H : Int), .int .i64 (d : Int), .slice A1 p.length c1], .int .i64 0]) (by simp [results, Try.results40, go_sem, q0, q1, q2, q3]) rfl ⟨A1, c1, rfl, ?_, ?_⟩
  · exact ((((ho1.far (by simp) _).far (by simp) _).far (by simp) _).far (by simp) _).base_ (by simp; omega)
  · repeat (refine Below.setCell ?_ (by simp) _)
    exact bb1
end Go.Proofs.Yticjiodnolngcaa
