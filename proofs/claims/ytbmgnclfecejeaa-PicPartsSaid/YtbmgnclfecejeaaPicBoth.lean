/- Cut and Paste beside the reference's: cuts, lays. -/
import Derived.Test.YtbmgnclfecejeaaPicRPasteY
namespace Go.Proofs.Ytbmgnclfecejeaa
open Go.RowKit

theorem ownrd' {w : World} {base : Nat} {A : Option Addr} {n c : Nat} {ls : List (List Int)} (h : OwnLL w base 25 3 .i64 (.slice A n c) ls) : RdLL w w.heap.size .i64 A ls := by
  obtain ⟨A', c', hv, _, h, _⟩ := h.form
  simp only [Value.slice.injEq] at hv
  obtain ⟨rfl, _, _⟩ := hv
  exact h
/-- What a call gives that answers with a picture and an error. -/
def GivesP (f : FuncId) (args : Array Value) (Q : Pc) (en : Int) (W : World) : Prop :=
  Calls Try.prog f args W fun e w' => ∃ A' c', e = .returned (.tuple #[.agg #[.int .i64 Q.w, .int .i64 Q.h, .int .i64 Q.d, .slice A' Q.p.length c'], .int .i64 en]) ∧ RdLL w' w'.heap.size .i64 A' Q.p ∧ Below W.heap.size W w'
theorem gives_empty {f : FuncId} {args : Array Value} {W : World} {n : Int} (h : Calls Try.prog f args W fun e w' => e = .returned (.tuple #[emptyP, .int .i64 n]) ∧ Below W.heap.size W w') : GivesP f args ⟨0, 0, 0, []⟩ n W :=
  h.mono fun e w' h => ⟨none, 0, h.1, fun j hj => absurd hj (by simp), h.2⟩

theorem cut_both {w : World} {B : Nat} {q : Pc} {A : Option Addr} {c : Nat} (hr : RdLL w B .i64 A q.p) (hB : B ≤ w.heap.size) (h63 : Len63 q.p) (x y a b : Int) (hx : x ≤ 9223372036854775807) (hy : y ≤ 9223372036854775807) (ha : a ≤ 9223372036854775807) (hb : b ≤ 9223372036854775807) :
    ∃ Q en, Len63 Q.p ∧ (∀ W, Below w.heap.size w W → GivesP 23 #[.agg #[.int .i64 q.w, .int .i64 q.h, .int .i64 q.d, .slice A q.p.length c], .int .i64 x, .int .i64 y, .int .i64 a, .int .i64 b] Q en W) ∧
      (∀ W, Below w.heap.size w W → GivesP 37 #[.agg #[.int .i64 q.w, .int .i64 q.h, .int .i64 q.d, .slice A q.p.length c], .int .i64 x, .int .i64 y, .int .i64 a, .int .i64 b] Q en W) := by
  cases hq : isB q
  · exact ⟨⟨0, 0, 0, []⟩, 1, ⟨by simp, by simp⟩, fun W hb => gives_empty (cut_not (hr.below hb hB) (Nat.le_trans hB hb.size) x y a b hq), fun W hb => gives_empty (rcut_not (hr.below hb hB) (Nat.le_trans hB hb.size) h63 x y a b hq)⟩
  · cases hi : insB q.w q.h x y a b
    · exact ⟨⟨0, 0, 0, []⟩, 6, ⟨by simp, by simp⟩, fun W hb => gives_empty (cut_out (hr.below hb hB) (Nat.le_trans hB hb.size) x y a b hx hy hq hi), fun W hb' => gives_empty (rcut_out (hr.below hb' hB) (Nat.le_trans hB hb'.size) h63 x y a b hx hy ha hb hq hi)⟩
    · obtain ⟨qw, qh, qd, qp⟩ := q
      have hp : possB qw qh qd qp.length = true := by rw [isB, Bool.and_eq_true] at hq; exact hq.1
      simp only [possB, decide_eq_true_eq] at hp
      have hi' := hi
      simp only [insB, decide_eq_true_eq] at hi'
      obtain ⟨Wn, rfl⟩ := Int.eq_ofNat_of_zero_le (show 0 ≤ qw by omega)
      obtain ⟨Hn, rfl⟩ := Int.eq_ofNat_of_zero_le (show 0 ≤ qh by omega)
      obtain ⟨xn, rfl⟩ := Int.eq_ofNat_of_zero_le hi'.1
      obtain ⟨yn, rfl⟩ := Int.eq_ofNat_of_zero_le hi'.2.1
      obtain ⟨an, rfl⟩ := Int.eq_ofNat_of_zero_le (show 0 ≤ a by omega)
      obtain ⟨bn, rfl⟩ := Int.eq_ofNat_of_zero_le (show 0 ≤ b by omega)
      have hlen : (cutLL qp Wn xn yn an bn).length = qp.length := by rw [cutLL, List.length_map]
      refine ⟨⟨(an : Int), (bn : Int), qd, cutLL qp Wn xn yn an bn⟩, 0, len63 (cutLL_isB hq hi), fun W hb => ?_, fun W hb => ?_⟩
      · refine (cut_yes (hr.below hb hB) (Nat.le_trans hB hb.size) xn yn an bn hq hi).mono fun e w' h => ?_
        obtain ⟨A', c', h1, h2, h3⟩ := h
        exact ⟨A', c', by simp only [hlen]; exact h1, ownrd' h2, h3⟩
      · refine (rcut_yes (hr.below hb hB) (Nat.le_trans hB hb.size) xn yn an bn hq hi).mono fun e w' h => ?_
        obtain ⟨A', c', h1, h2, h3⟩ := h
        exact ⟨A', c', by simp only [hlen]; exact h1, ownrd' h2, h3⟩

theorem paste_both {w : World} {B : Nat} {p q : Pc} {A A2 : Option Addr} {c c2 : Nat} (hr : RdLL w B .i64 A p.p) (hr2 : RdLL w B .i64 A2 q.p) (hB : B ≤ w.heap.size) (h63 : Len63 p.p) (h63' : Len63 q.p) (x y : Int) (hx : x ≤ 9223372036854775807) (hy : y ≤ 9223372036854775807) :
    ∃ Q en, Len63 Q.p ∧ (∀ W, Below w.heap.size w W → GivesP 24 #[.agg #[.int .i64 p.w, .int .i64 p.h, .int .i64 p.d, .slice A p.p.length c], .agg #[.int .i64 q.w, .int .i64 q.h, .int .i64 q.d, .slice A2 q.p.length c2], .int .i64 x, .int .i64 y] Q en W) ∧
      (∀ W, Below w.heap.size w W → GivesP 38 #[.agg #[.int .i64 p.w, .int .i64 p.h, .int .i64 p.d, .slice A p.p.length c], .agg #[.int .i64 q.w, .int .i64 q.h, .int .i64 q.d, .slice A2 q.p.length c2], .int .i64 x, .int .i64 y] Q en W) := by
  cases hq : pasteB p q
  · exact ⟨⟨0, 0, 0, []⟩, 1, ⟨by simp, by simp⟩, fun W hb => gives_empty (paste_not (hr.below hb hB) (hr2.below hb hB) (Nat.le_trans hB hb.size) x y hq), fun W hb => gives_empty (rpaste_not (hr.below hb hB) (hr2.below hb hB) (Nat.le_trans hB hb.size) h63 h63' x y hq)⟩
  · rw [pasteB, Bool.and_eq_true, Bool.and_eq_true, decide_eq_true_eq] at hq
    obtain ⟨⟨hp1, hq1⟩, hd, hlen⟩ := hq
    obtain ⟨pw, ph, pd, pp⟩ := p
    obtain ⟨qw, qh, qd, qp⟩ := q
    simp only at hd hlen
    subst hd
    have hpp : possB pw ph pd pp.length = true := by rw [isB, Bool.and_eq_true] at hp1; exact hp1.1
    have hqp : possB qw qh pd qp.length = true := by rw [isB, Bool.and_eq_true] at hq1; exact hq1.1
    simp only [possB, decide_eq_true_eq] at hpp hqp
    cases hi : insB pw ph x y qw qh
    · exact ⟨⟨0, 0, 0, []⟩, 6, ⟨by simp, by simp⟩, fun W hb => gives_empty (paste_out (hr.below hb hB) (hr2.below hb hB) (Nat.le_trans hB hb.size) x y hx hy hp1 hq1 hlen hi), fun W hb => gives_empty (rpaste_out (pw := pw) (ph := ph) (qw := qw) (qh := qh) (hr.below hb hB) (hr2.below hb hB) (Nat.le_trans hB hb.size) x y hx hy (by omega) (by omega) hp1 hq1 hlen hi)⟩
    · have hi' := hi
      simp only [insB, decide_eq_true_eq] at hi'
      obtain ⟨Wn, rfl⟩ := Int.eq_ofNat_of_zero_le (show 0 ≤ pw by omega)
      obtain ⟨Hn, rfl⟩ := Int.eq_ofNat_of_zero_le (show 0 ≤ ph by omega)
      obtain ⟨xn, rfl⟩ := Int.eq_ofNat_of_zero_le hi'.1
      obtain ⟨yn, rfl⟩ := Int.eq_ofNat_of_zero_le hi'.2.1
      obtain ⟨an, rfl⟩ := Int.eq_ofNat_of_zero_le (show 0 ≤ qw by omega)
      obtain ⟨bn, rfl⟩ := Int.eq_ofNat_of_zero_le (show 0 ≤ qh by omega)
      have hl := pasteLL_length pp qp Wn xn yn an bn pp.length
      refine ⟨⟨(Wn : Int), (Hn : Int), pd, pasteLL pp qp Wn xn yn an bn pp.length⟩, 0, len63 (pasteLL_isB hp1 hq1 hlen hi), fun W hb => ?_, fun W hb => ?_⟩
      · refine (paste_yes (hr.below hb hB) (hr2.below hb hB) (Nat.le_trans hB hb.size) xn yn hp1 hq1 hlen hi).mono fun e w' h => ?_
        obtain ⟨A', c', h1, h2, h3⟩ := h
        exact ⟨A', c', by simp only [hl]; exact h1, ownrd' h2, h3⟩
      · refine (rpaste_yes (hr.below hb hB) (hr2.below hb hB) (Nat.le_trans hB hb.size) xn yn hp1 hq1 hlen hi).mono fun e w' h => ?_
        obtain ⟨A', c', h1, h2, h3⟩ := h
        exact ⟨A', c', by simp only [hl]; exact h1, ownrd' h2, h3⟩

theorem rd_more {w : World} {B B' : Nat} {k : IntKind} {A : Option Addr} {ls : List (List Int)} (h : RdLL w B k A ls) (hB : B ≤ B') : RdLL w B' k A ls := fun j hj => by
  obtain ⟨ad, Aj, cj, e, h1, h2, h3, h4⟩ := h j hj
  exact ⟨ad, Aj, cj, e, by omega, h2, h3, h4.more hB⟩
theorem sameB_refl (Q : Pc) : sameB Q Q = true := by simp [sameB]

set_option maxHeartbeats 4000000 in
theorem cuts_any {w : World} {B : Nat} {q : Pc} {A : Option Addr} {c : Nat} (hr : RdLL w B .i64 A q.p) (hB : B ≤ w.heap.size) (h63 : Len63 q.p) (x y a b : Int) (hx : x ≤ 9223372036854775807) (hy : y ≤ 9223372036854775807) (ha : a ≤ 9223372036854775807) (hb : b ≤ 9223372036854775807) :
    Calls Try.prog 21 #[.agg #[.int .i64 q.w, .int .i64 q.h, .int .i64 q.d, .slice A q.p.length c], .int .i64 x, .int .i64 y, .int .i64 a, .int .i64 b] w fun e w' => e = .returned (.bool true) ∧ Below w.heap.size w w' := by
  obtain ⟨Q, en, hQ, HC, HR⟩ := cut_both (c := c) hr hB h63 x y a b hx hy ha hb
  obtain ⟨qw, qh, qd, qp⟩ := q
  simp only at *
  clear hr h63 hx hy ha hb
  replace HC := Lib.hid HC
  replace HR := Lib.hid HR
  replace hQ := Lib.hid hQ
  obtain ⟨Qw, Qh, Qd, Qp⟩ := Q
  simp only at *
  go_enter Try.func21, Try.ntmps21
  go_wp2_with (first
    | (go_at_call 23; go_must (refine (HC.out _ (by repeat (first | exact Below.refl _ _ | assumption | refine Below.drew ?_ | refine below_drewN ?_ _ | refine below_alloc ?_ _))).mono ?_); rintro e w1 ⟨A1, c1, rfl, hr1, hb1⟩; have kx := (Blk.new w 28 #[.int .i64 qw, .int .i64 qh, .int .i64 qd, .slice A qp.length c]).below hb1 (by simp); have bb1 := below_then (below_alloc (Below.refl w.heap.size w) _) hb1; have k1 := Blk.new w1 28 #[.int .i64 Qw, .int .i64 Qh, .int .i64 Qd, .slice A1 Qp.length c1]; obtain ⟨x0, x1, x2, x3, _⟩ := (kx.alloc (.cells #[.int .i64 Qw, .int .i64 Qh, .int .i64 Qd, .slice A1 Qp.length c1] 28)).four)
    | (go_at_call 37; go_must (refine (HR.out _ (by repeat (first | exact Below.refl _ _ | assumption | refine Below.drew ?_ | refine below_drewN ?_ _ | refine below_alloc ?_ _))).mono ?_); rintro e w2 ⟨A2, c2, rfl, hr2, hb2⟩; clear x0 x1 x2 x3; have z1 := below_then (below_alloc (Below.refl w1.heap.size w1) _) hb2; have bb2 := below_then bb1 z1; obtain ⟨x0, x1, x2, x3, _⟩ := ((k1.below hb2 (by simp)).alloc (.cells #[.int .i64 Qw, .int .i64 Qh, .int .i64 Qd, .slice A2 Qp.length c2] 28)).four; have k2 := Blk.new w2 28 #[.int .i64 Qw, .int .i64 Qh, .int .i64 Qd, .slice A2 Qp.length c2]; obtain ⟨y0, y1, y2, y3, _⟩ := k2.four; have HS := fun W' (hb : Below w2.heap.size w2 W') => same_any (a := ⟨Qw, Qh, Qd, Qp⟩) (b := ⟨Qw, Qh, Qd, Qp⟩) (c := c1) (c2 := c2) (RdLL.below (rd_more (RdLL.below hr1 z1 (Nat.le_refl _)) z1.size) hb (Nat.le_refl _)) (RdLL.below hr2 hb (Nat.le_refl _)) hb.size hQ.out; simp only [sameB_refl] at HS; replace HS := Lib.hid HS)
    | (go_at_call 25; go_must (refine (HS.out _ (by repeat (first | exact Below.refl _ _ | assumption | refine Below.drew ?_ | refine below_drewN ?_ _ | refine below_alloc ?_ _))).mono ?_); rintro e w3 ⟨rfl, hb3⟩))
  go_ret
  exact ⟨rfl, below_then bb2 (below_then (below_alloc (Below.refl _ _) _) hb3)⟩
end Go.Proofs.Ytbmgnclfecejeaa
