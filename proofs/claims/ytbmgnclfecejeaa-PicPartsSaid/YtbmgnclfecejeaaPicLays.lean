/- lays; HeavyPic. -/
import Derived.Test.YtbmgnclfecejeaaPicBoth
namespace Go.Proofs.Ytbmgnclfecejeaa
open Go.RowKit

set_option maxHeartbeats 4000000 in
theorem lays_any {w : World} {B : Nat} {p q : Pc} {A A2 : Option Addr} {c c2 : Nat} (hr : RdLL w B .i64 A p.p) (hr2 : RdLL w B .i64 A2 q.p) (hB : B ≤ w.heap.size) (h63 : Len63 p.p) (h63' : Len63 q.p) (x y : Int) (hx : x ≤ 9223372036854775807) (hy : y ≤ 9223372036854775807) :
    Calls Try.prog 22 #[.agg #[.int .i64 p.w, .int .i64 p.h, .int .i64 p.d, .slice A p.p.length c], .agg #[.int .i64 q.w, .int .i64 q.h, .int .i64 q.d, .slice A2 q.p.length c2], .int .i64 x, .int .i64 y] w fun e w' => e = .returned (.bool true) ∧ Below w.heap.size w w' := by
  obtain ⟨Q, en, hQ, HC, HR⟩ := paste_both (c := c) (c2 := c2) hr hr2 hB h63 h63' x y hx hy
  obtain ⟨pw, ph, pd, pp⟩ := p
  obtain ⟨qw, qh, qd, qp⟩ := q
  simp only at *
  clear hr hr2 h63 h63' hx hy
  replace HC := Lib.hid HC
  replace HR := Lib.hid HR
  replace hQ := Lib.hid hQ
  obtain ⟨Qw, Qh, Qd, Qp⟩ := Q
  simp only at *
  go_enter Try.func22, Try.ntmps22
  go_wp2_with (first
    | (go_at_call 24; go_must (refine (HC.out _ (by repeat (first | exact Below.refl _ _ | assumption | refine Below.drew ?_ | refine below_drewN ?_ _ | refine below_alloc ?_ _))).mono ?_); rintro e w1 ⟨A1, c1, rfl, hr1, hb1⟩; have kx := ((Blk.new w 28 #[.int .i64 pw, .int .i64 ph, .int .i64 pd, .slice A pp.length c]).alloc (.cells #[.int .i64 qw, .int .i64 qh, .int .i64 qd, .slice A2 qp.length c2] 28)).below hb1 (by simp <;> omega); have ky := (Blk.new1 w (.cells #[.int .i64 pw, .int .i64 ph, .int .i64 pd, .slice A pp.length c] 28) 28 #[.int .i64 qw, .int .i64 qh, .int .i64 qd, .slice A2 qp.length c2]).below hb1 (by simp); have bb1 := below_then (below_alloc (below_alloc (Below.refl w.heap.size w) _) _) hb1; have k1 := Blk.new w1 28 #[.int .i64 Qw, .int .i64 Qh, .int .i64 Qd, .slice A1 Qp.length c1]; obtain ⟨x0, x1, x2, x3, _⟩ := (kx.alloc (.cells #[.int .i64 Qw, .int .i64 Qh, .int .i64 Qd, .slice A1 Qp.length c1] 28)).four; obtain ⟨y0, y1, y2, y3, _⟩ := (ky.alloc (.cells #[.int .i64 Qw, .int .i64 Qh, .int .i64 Qd, .slice A1 Qp.length c1] 28)).four)
    | (go_at_call 38; go_must (refine (HR.out _ (by repeat (first | exact Below.refl _ _ | assumption | refine Below.drew ?_ | refine below_drewN ?_ _ | refine below_alloc ?_ _))).mono ?_); rintro e w2 ⟨A3, c3, rfl, hr3, hb2⟩; clear x0 x1 x2 x3 y0 y1 y2 y3; have z1 := below_then (below_alloc (Below.refl w1.heap.size w1) _) hb2; have bb2 := below_then bb1 z1; obtain ⟨x0, x1, x2, x3, _⟩ := ((k1.below hb2 (by simp)).alloc (.cells #[.int .i64 Qw, .int .i64 Qh, .int .i64 Qd, .slice A3 Qp.length c3] 28)).four; have k2 := Blk.new w2 28 #[.int .i64 Qw, .int .i64 Qh, .int .i64 Qd, .slice A3 Qp.length c3]; obtain ⟨y0, y1, y2, y3, _⟩ := k2.four; have HS := fun W' (hb : Below w2.heap.size w2 W') => same_any (a := ⟨Qw, Qh, Qd, Qp⟩) (b := ⟨Qw, Qh, Qd, Qp⟩) (c := c1) (c2 := c3) (RdLL.below (rd_more (RdLL.below hr1 z1 (Nat.le_refl _)) z1.size) hb (Nat.le_refl _)) (RdLL.below hr3 hb (Nat.le_refl _)) hb.size hQ.out; simp only [sameB_refl] at HS; replace HS := Lib.hid HS)
    | (go_at_call 25; go_must (refine (HS.out _ (by repeat (first | exact Below.refl _ _ | assumption | refine Below.drew ?_ | refine below_drewN ?_ _ | refine below_alloc ?_ _))).mono ?_); rintro e w3 ⟨rfl, hb3⟩))
  go_ret
  exact ⟨rfl, below_then bb2 (below_then (below_alloc (Below.refl _ _) _) hb3)⟩

set_option maxHeartbeats 4000000 in
theorem heavy_any {w : World} {B : Nat} {q : Pc} {A : Option Addr} {c : Nat} (hr : RdLL w B .i64 A q.p) (hB : B ≤ w.heap.size) (h63 : Len63 q.p) :
    Calls Try.prog 19 #[.agg #[.int .i64 q.w, .int .i64 q.h, .int .i64 q.d, .slice A q.p.length c]] w fun e w' => (e = .returned (.bool true) ∨ e = .returned (.bool false)) ∧ Below w.heap.size w w' := by
  obtain ⟨qw, qh, qd, qp⟩ := q
  simp only at *
  obtain ⟨s1, s2⟩ := h63
  have HS := Lib.hid s2
  clear s2
  go_enter Try.func19, Try.ntmps19
  go_wp2
  have k0 := (Blk.new w 28 #[.int .i64 qw, .int .i64 qh, .int .i64 qd, .slice A qp.length c])
  have bxa := below_alloc (Below.refl w.heap.size w) (.cells #[.int .i64 qw, .int .i64 qh, .int .i64 qd, .slice A qp.length c] 28)
  generalize w.alloc (.cells #[.int .i64 qw, .int .i64 qh, .int .i64 qd, .slice A qp.length c] 28) = wa at *
  have hra := hr.below bxa hB
  have y3 := k0.cell 3
  go_loop [3, 4] (fun u i => ∃ (j : Nat) (n : Int), j ≤ qp.length ∧ i = .int .i64 j ∧ u = .int .i64 n) (fun _ i => qp.length - (intOf i).toNat)
  case atStart => exact ⟨0, 0, Nat.zero_le _, rfl, rfl⟩
  case round =>
    obtain ⟨j, n, hj, rfl, rfl⟩ := hrel
    by_cases hlt : j < qp.length
    · obtain ⟨ad, Aj, cj, rfl, hadB, hcell, hcj, hrj⟩ := hra j hlt
      clear hrj
      generalize (qp.getD j []).length = m at *
      go_wp2
      · go_ret
        exact ⟨.inl rfl, bxa⟩
      · exact ⟨⟨j + 1, _, by omega, by go_num, rfl⟩, by simp [intOf]; omega⟩
    · have hjl : j = qp.length := by omega
      subst hjl
      go_wp2
      go_ret
      exact ⟨.inr rfl, bxa⟩
end Go.Proofs.Ytbmgnclfecejeaa
