/- pic.Paste. -/
import Derived.Test.YtbmgnclfecejeaaPicUpd
set_option linter.unusedSimpArgs false
set_option linter.unusedVariables false
namespace Go.Proofs.Ytbmgnclfecejeaa
open Go.RowKit

def pasteB (p q : Pc) : Bool := isB p && isB q && decide (p.d = q.d ∧ p.p.length = q.p.length)

set_option maxHeartbeats 1000000 in
theorem paste_not {w : World} {B : Nat} {p q : Pc} {A A2 : Option Addr} {c c2 : Nat} (hr : RdLL w B .i64 A p.p) (hr2 : RdLL w B .i64 A2 q.p) (hB : B ≤ w.heap.size) (x y : Int) (hq : pasteB p q = false) :
    Calls Try.prog 24 #[.agg #[.int .i64 p.w, .int .i64 p.h, .int .i64 p.d, .slice A p.p.length c], .agg #[.int .i64 q.w, .int .i64 q.h, .int .i64 q.d, .slice A2 q.p.length c2], .int .i64 x, .int .i64 y] w
      fun e w' => e = .returned (.tuple #[emptyP, .int .i64 1]) ∧ Below w.heap.size w w' := by
  have HI := fun W (hb : Below w.heap.size w W) => is_any (c := c) (hr.below hb hB) (Nat.le_trans hB hb.size)
  have HJ := fun W (hb : Below w.heap.size w W) => is_any (c := c2) (hr2.below hb hB) (Nat.le_trans hB hb.size)
  obtain ⟨pw, ph, pd, pp⟩ := p
  obtain ⟨qw, qh, qd, qp⟩ := q
  simp only [pasteB] at *
  generalize isB ⟨pw, ph, pd, pp⟩ = bp at *
  generalize isB ⟨qw, qh, qd, qp⟩ = bq at *
  have HI := Lib.hid HI
  have HJ := Lib.hid HJ
  cases bp
  · clear hq
    go_enter Try.func24, Try.ntmps24
    go_wp2_with (first
      | (go_at_call 32; go_must (refine (HI.out _ (by repeat (first | exact Below.refl _ _ | assumption | refine Below.drew ?_ | refine below_drewN ?_ _ | refine below_alloc ?_ _))).mono ?_); rintro e w1 ⟨rfl, hb1⟩; have hbz := (Blk.new2 w _ _ 28 #[.int .i64 0, .int .i64 0, .int .i64 0, .slice none 0 0]).below hb1 (by simp); obtain ⟨z0, z1, z2, z3, f0, f1, f2, f3⟩ := hbz.four))
    have bb := below_then (below_alloc (below_alloc (below_alloc (Below.refl w.heap.size w) _) _) _) hb1
    exact bodyPost_ret (v := .tuple #[emptyP, .int .i64 1]) (by simp [results, Try.results24, go_sem, z0, z1, z2, z3, emptyP]) rfl ⟨rfl, (((bb.setCell (by simp; omega) _).setCell (by simp; omega) _).setCell (by simp; omega) _).setCell (by simp; omega) _⟩
  · cases bq
    · clear hq
      go_enter Try.func24, Try.ntmps24
      go_wp2_with (first
        | (go_at_call 32; (with_reducible refine (HI.out _ (by repeat (first | exact Below.refl _ _ | assumption | refine Below.drew ?_ | refine below_drewN ?_ _ | refine below_alloc ?_ _))).mono ?_); rintro e w1 ⟨rfl, hb1⟩; have hb0 := ((Blk.new1 w (.cells #[.int .i64 pw, .int .i64 ph, .int .i64 pd, .slice A pp.length c] 28) 28 #[.int .i64 qw, .int .i64 qh, .int .i64 qd, .slice A2 qp.length c2]).alloc (.cells #[.int .i64 0, .int .i64 0, .int .i64 0, .slice none 0 0] 28)).below hb1 (by simp <;> omega); have hbz := (Blk.new2 w _ _ 28 #[.int .i64 0, .int .i64 0, .int .i64 0, .slice none 0 0]).below hb1 (by simp); have bb := below_then (below_alloc (below_alloc (below_alloc (Below.refl w.heap.size w) _) _) _) hb1; clear hb1; obtain ⟨x0, x1, x2, x3, _⟩ := hb0.four)
        | (go_at_call 32; (with_reducible refine (HJ.out _ (by repeat (first | exact Below.refl _ _ | assumption | refine Below.drew ?_ | refine below_drewN ?_ _ | refine below_alloc ?_ _))).mono ?_); rintro e w2 ⟨rfl, hb2⟩; have hbz2 := hbz.below hb2 hbz.lt; obtain ⟨z0, z1, z2, z3, f0, f1, f2, f3⟩ := hbz2.four))
      have bb2 := below_then bb hb2
      exact bodyPost_ret (v := .tuple #[emptyP, .int .i64 1]) (by simp [results, Try.results24, go_sem, z0, z1, z2, z3, emptyP]) rfl ⟨rfl, (((bb2.setCell (by simp; omega) _).setCell (by simp; omega) _).setCell (by simp; omega) _).setCell (by simp; omega) _⟩
    · have hne : ¬ (pd = qd ∧ pp.length = qp.length) := by simpa using hq
      clear hq
      go_enter Try.func24, Try.ntmps24
      go_wp2_with (first
        | (go_at_call 32; (with_reducible refine (HI.out _ (by repeat (first | exact Below.refl _ _ | assumption | refine Below.drew ?_ | refine below_drewN ?_ _ | refine below_alloc ?_ _))).mono ?_); rintro e w1 ⟨rfl, hb1⟩; have hb0 := ((Blk.new1 w (.cells #[.int .i64 pw, .int .i64 ph, .int .i64 pd, .slice A pp.length c] 28) 28 #[.int .i64 qw, .int .i64 qh, .int .i64 qd, .slice A2 qp.length c2]).alloc (.cells #[.int .i64 0, .int .i64 0, .int .i64 0, .slice none 0 0] 28)).below hb1 (by simp <;> omega); have hba := (((Blk.new w 28 #[.int .i64 pw, .int .i64 ph, .int .i64 pd, .slice A pp.length c]).alloc (.cells #[.int .i64 qw, .int .i64 qh, .int .i64 qd, .slice A2 qp.length c2] 28)).alloc (.cells #[.int .i64 0, .int .i64 0, .int .i64 0, .slice none 0 0] 28)).below hb1 (by simp <;> omega); have hbz := (Blk.new2 w _ _ 28 #[.int .i64 0, .int .i64 0, .int .i64 0, .slice none 0 0]).below hb1 (by simp); have bb := below_then (below_alloc (below_alloc (below_alloc (Below.refl w.heap.size w) _) _) _) hb1; clear hb1; obtain ⟨x0, x1, x2, x3, _⟩ := hb0.four)
        | (go_at_call 32; (with_reducible refine (HJ.out _ (by repeat (first | exact Below.refl _ _ | assumption | refine Below.drew ?_ | refine below_drewN ?_ _ | refine below_alloc ?_ _))).mono ?_); rintro e w2 ⟨rfl, hb2⟩; have hbz2 := hbz.below hb2 hbz.lt; obtain ⟨z0, z1, z2, z3, f0, f1, f2, f3⟩ := hbz2.four; have hbx2 := hb0.below hb2 hb0.lt; have hba2 := hba.below hb2 hba.lt; clear x0 x1 x2 x3; obtain ⟨x0, x1, x2, x3, _⟩ := hbx2.four; obtain ⟨y0, y1, y2, y3, _⟩ := hba2.four))
      all_goals first
        | (exfalso; omega)
        | (have bb2 := below_then bb hb2
           exact bodyPost_ret (v := .tuple #[emptyP, .int .i64 1]) (by simp [results, Try.results24, go_sem, z0, z1, z2, z3, emptyP]) rfl ⟨rfl, (((bb2.setCell (by simp; omega) _).setCell (by simp; omega) _).setCell (by simp; omega) _).setCell (by simp; omega) _⟩)


set_option maxHeartbeats 1000000 in
theorem paste_out {w : World} {B : Nat} {pw ph pd qw qh : Int} {pp qp : List (List Int)} {A A2 : Option Addr} {c c2 : Nat} (hr : RdLL w B .i64 A pp) (hr2 : RdLL w B .i64 A2 qp) (hB : B ≤ w.heap.size) (x y : Int) (hx : x ≤ 9223372036854775807) (hy : y ≤ 9223372036854775807)
    (hq1 : isB ⟨pw, ph, pd, pp⟩ = true) (hq2 : isB ⟨qw, qh, pd, qp⟩ = true) (hlen : pp.length = qp.length) (hi : insB pw ph x y qw qh = false) :
    Calls Try.prog 24 #[.agg #[.int .i64 pw, .int .i64 ph, .int .i64 pd, .slice A pp.length c], .agg #[.int .i64 qw, .int .i64 qh, .int .i64 pd, .slice A2 qp.length c2], .int .i64 x, .int .i64 y] w
      fun e w' => e = .returned (.tuple #[emptyP, .int .i64 6]) ∧ Below w.heap.size w w' := by
  have HI := fun W (hb : Below w.heap.size w W) => is_any (q := ⟨pw, ph, pd, pp⟩) (c := c) (hr.below hb hB) (Nat.le_trans hB hb.size)
  have HJ := fun W (hb : Below w.heap.size w W) => is_any (q := ⟨qw, qh, pd, qp⟩) (c := c2) (hr2.below hb hB) (Nat.le_trans hB hb.size)
  simp only [hq1, hq2] at HI HJ
  rw [← hlen] at HJ
  have hp : possB pw ph pd pp.length = true := by rw [isB, Bool.and_eq_true] at hq1; exact hq1.1
  simp only [possB, decide_eq_true_eq] at hp
  have HS := inside_any pw ph pd x y qw qh hp.1 hp.2.1 hp.2.2.1 hp.2.2.2.1 hx hy A pp.length c
  simp only [hi] at HS
  rw [← hlen]
  clear hq1 hq2 hi hlen hp hr2 hr
  replace HI := Lib.hid HI
  replace HJ := Lib.hid HJ
  replace HS := Lib.hid HS
  go_enter Try.func24, Try.ntmps24
  go_wp2_with (first
    | (go_at_call 32; (with_reducible refine (HI.out _ (by repeat (first | exact Below.refl _ _ | assumption | refine Below.drew ?_ | refine below_drewN ?_ _ | refine below_alloc ?_ _))).mono ?_); rintro e w1 ⟨rfl, hb1⟩; have hb0 := ((Blk.new1 w (.cells #[.int .i64 pw, .int .i64 ph, .int .i64 pd, .slice A pp.length c] 28) 28 #[.int .i64 qw, .int .i64 qh, .int .i64 pd, .slice A2 pp.length c2]).alloc (.cells #[.int .i64 0, .int .i64 0, .int .i64 0, .slice none 0 0] 28)).below hb1 (by simp <;> omega); have hba := (((Blk.new w 28 #[.int .i64 pw, .int .i64 ph, .int .i64 pd, .slice A pp.length c]).alloc (.cells #[.int .i64 qw, .int .i64 qh, .int .i64 pd, .slice A2 pp.length c2] 28)).alloc (.cells #[.int .i64 0, .int .i64 0, .int .i64 0, .slice none 0 0] 28)).below hb1 (by simp <;> omega); have hbz := (Blk.new2 w _ _ 28 #[.int .i64 0, .int .i64 0, .int .i64 0, .slice none 0 0]).below hb1 (by simp); have bb := below_then (below_alloc (below_alloc (below_alloc (Below.refl w.heap.size w) _) _) _) hb1; clear hb1; obtain ⟨x0, x1, x2, x3, _⟩ := hb0.four)
    | (go_at_call 32; (with_reducible refine (HJ.out _ (by repeat (first | exact Below.refl _ _ | assumption | refine Below.drew ?_ | refine below_drewN ?_ _ | refine below_alloc ?_ _))).mono ?_); rintro e w2 ⟨rfl, hb2⟩; have hbz2 := hbz.below hb2 hbz.lt; have hbx2 := hb0.below hb2 hb0.lt; have hba2 := hba.below hb2 hba.lt; clear x0 x1 x2 x3; obtain ⟨x0, x1, x2, x3, _⟩ := hbx2.four; obtain ⟨y0, y1, y2, y3, _⟩ := hba2.four; have bb2 := below_then bb hb2; clear hbz hb0 hba hb2)
    | (go_at_call 39; go_must (refine (HS.out _).mono ?_); rintro e w3 ⟨rfl, hb3⟩; clear x0 x1 x2 x3 y0 y1 y2 y3; have hbz := hbz2.below hb3 hbz2.lt; have hb0 := hbx2.below hb3 hbx2.lt; have hba := hba2.below hb3 hba2.lt; have bb3 := below_then bb2 hb3; clear hb3 hbz2 hbx2 hba2; obtain ⟨z0, z1, z2, z3, f0, f1, f2, f3⟩ := hbz.four; obtain ⟨y0, y1, y2, y3, _⟩ := hba.four; obtain ⟨x0, x1, x2, x3, _⟩ := hb0.four))
  exact bodyPost_ret (v := .tuple #[emptyP, .int .i64 6]) (by simp [results, Try.results24, go_sem, z0, z1, z2, z3, emptyP]) rfl ⟨rfl, (((bb3.setCell (by simp; omega) _).setCell (by simp; omega) _).setCell (by simp; omega) _).setCell (by simp; omega) _⟩
end Go.Proofs.Ytbmgnclfecejeaa
