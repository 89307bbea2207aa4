/- PicOwn: the walk. -/
import Derived.Test.YtbmgnclfecejeaaPicPic
import Derived.Test.YtbmgnclfecejeaaPicRCopy
import Derived.Test.YtbmgnclfecejeaaPicPlain
namespace Go.Proofs.Ytbmgnclfecejeaa.picOwn
open Go.RowKit

def pv (W H d : Nat) (A : Option Addr) (n c : Nat) : Value := .agg #[.int .i64 (W : Int), .int .i64 (H : Int), .int .i64 (d : Int), .slice A n c]

/-- What the calls give, for one picture. -/
structure Gives (w2 : World) (W H d : Nat) (A : Option Addr) (p : List (List Int)) (c : Nat) : Prop where
  rcopy : ∀ W', Below w2.heap.size w2 W' → Calls Try.prog 16 #[.agg #[.int .i64 (W : Int), .int .i64 (H : Int), .int .i64 (d : Int), .slice A p.length c]] W' fun e w' => ∃ A' c', e = .returned (.agg #[.int .i64 (W : Int), .int .i64 (H : Int), .int .i64 (d : Int), .slice A' p.length c']) ∧
      OwnLL w' W'.heap.size 25 3 .i64 (.slice A' p.length c') p ∧ Below W'.heap.size W' w'
  copy : ∀ W', Below w2.heap.size w2 W' → Calls Try.prog 26 #[.agg #[.int .i64 (W : Int), .int .i64 (H : Int), .int .i64 (d : Int), .slice A p.length c]] W' fun e w' => ∃ A' c', e = .returned (.agg #[.int .i64 (W : Int), .int .i64 (H : Int), .int .i64 (d : Int), .slice A' p.length c']) ∧
      OwnLL w' W'.heap.size 25 3 .i64 (.slice A' p.length c') p ∧ Below W'.heap.size W' w'
  cut : ∀ W', Below w2.heap.size w2 W' → Calls Try.prog 23 #[.agg #[.int .i64 (W : Int), .int .i64 (H : Int), .int .i64 (d : Int), .slice A p.length c], .int .i64 0, .int .i64 0, .int .i64 (W : Int), .int .i64 (H : Int)] W' fun e w' => ∃ A' c', e = .returned (.tuple #[.agg #[.int .i64 (W : Int), .int .i64 (H : Int), .int .i64 (d : Int), .slice A' p.length c'], .int .i64 0]) ∧
      OwnLL w' W'.heap.size 25 3 .i64 (.slice A' p.length c') p ∧ Below W'.heap.size W' w'
  paste : ∀ W', Below w2.heap.size w2 W' → Calls Try.prog 24 #[.agg #[.int .i64 (W : Int), .int .i64 (H : Int), .int .i64 (d : Int), .slice A p.length c], .agg #[.int .i64 (W : Int), .int .i64 (H : Int), .int .i64 (d : Int), .slice A p.length c], .int .i64 0, .int .i64 0] W' fun e w' => ∃ A' c', e = .returned (.tuple #[.agg #[.int .i64 (W : Int), .int .i64 (H : Int), .int .i64 (d : Int), .slice A' p.length c'], .int .i64 0]) ∧
      OwnLL w' W'.heap.size 25 3 .i64 (.slice A' p.length c') p ∧ Below W'.heap.size W' w'

theorem isB_facts {W H : Nat} {d : Int} {p : List (List Int)} (h : isB ⟨W, H, d, p⟩ = true) : 1 ≤ W ∧ W ≤ 64 ∧ 1 ≤ H ∧ H ≤ 64 ∧ 1 ≤ p.length ∧ p.length ≤ 4 ∧ ∀ l ∈ p, l.length = W * H := by
  have hp : possB W H d p.length = true := by rw [isB, Bool.and_eq_true] at h; exact h.1
  simp only [possB, decide_eq_true_eq] at hp
  refine ⟨by omega, by omega, by omega, by omega, by omega, by omega, fun l hl => ?_⟩
  have := plane_len h l hl
  rw [← Int.natCast_mul] at this
  omega

theorem gives {w2 : World} {W H d : Nat} {A : Option Addr} {p : List (List Int)} {c : Nat} (hB : isB ⟨W, H, d, p⟩ = true) (hr : RdLL w2 w2.heap.size .i64 A p) : Gives w2 W H d A p c := by
  obtain ⟨b1, b2, b3, b4, b5, b6, b7⟩ := isB_facts hB
  refine ⟨fun W' hb => rcopy_any (q := ⟨W, H, d, p⟩) (hr.below hb (Nat.le_refl _)) hb.size (isB_small hB), fun W' hb => copy_any (q := ⟨W, H, d, p⟩) (hr.below hb (Nat.le_refl _)) hb.size (isB_small hB), fun W' hb => ?_, fun W' hb => ?_⟩
  · have h := cut_yes (c := c) (hr.below hb (Nat.le_refl _)) hb.size 0 0 W H hB (by simp [insB]; omega)
    rw [cutLL_all b7 b1] at h
    exact h
  · have h := paste_yes (c := c) (c2 := c) (hr.below hb (Nat.le_refl _)) (hr.below hb (Nat.le_refl _)) hb.size 0 0 hB hB rfl (by simp [insB]; omega)
    rw [pasteLL_all b7 b1] at h
    exact h

theorem RdLL_more {w : World} {B B' : Nat} {k : IntKind} {A : Option Addr} {ls : List (List Int)} (h : RdLL w B k A ls) (hB : B ≤ B') : RdLL w B' k A ls := fun j hj => by
  obtain ⟨ad, Aj, cj, e, h1, h2, h3, h4⟩ := h j hj
  exact ⟨ad, Aj, cj, e, by omega, h2, h3, h4.more hB⟩
/-- Planes that may be written into: where they lie. -/
def Wr (w : World) (A : Option Addr) (n lo hi : Nat) : Prop :=
  ∀ j, j < n → ∃ (G g c len : Nat) (cur cs : Array Value), A = some ⟨G, 0, none⟩ ∧ w.cell? ⟨G, j, none⟩ = some (.slice (some ⟨g, 0, none⟩) len c) ∧ 0 < len ∧ lo ≤ g ∧ g < hi ∧ G < hi ∧ Blk w g 3 cur ∧ 0 < cur.size ∧ Blk w G 25 cs
theorem Wr.below {w w' : World} {A : Option Addr} {n lo hi C : Nat} (h : Wr w A n lo hi) (hb : Below C w w') (hC : hi ≤ C) : Wr w' A n lo hi := fun j hj => by
  obtain ⟨G, g, c, len, cur, cs, h1, h2, h3, h4, h5, h6, h7, h8, h9⟩ := h j hj
  exact ⟨G, g, c, len, cur, cs, h1, (hb.cell (p := ⟨G, j, none⟩) (show G < C by omega)).trans h2, h3, h4, h5, h6, h7.below hb (by omega), h8, h9.below hb (by omega)⟩
theorem Wr.store {w : World} {A : Option Addr} {n lo hi : Nat} (h : Wr w A n lo hi) {g' : Nat} {cur' : Array Value} (hg : Blk w g' 3 cur') (i : Nat) (u : Value) : Wr (w.setCell ⟨g', i, none⟩ u) A n lo hi := fun j hj => by
  obtain ⟨G, g, c, len, cur, cs, h1, h2, h3, h4, h5, h6, h7, h8, h9⟩ := h j hj
  have hG : G ≠ g' := fun e => by
    subst e
    have := h9.symm.trans hg
    simp at this
  have h9' := h9.far (p := ⟨g', i, none⟩) hG u
  have h2' : (w.setCell ⟨g', i, none⟩ u).cell? ⟨G, j, none⟩ = some (.slice (some ⟨g, 0, none⟩) len c) := by
    rw [h9'.cell j, ← h9.cell j]
    exact h2
  by_cases hgg : g = g'
  · subst hgg
    exact ⟨G, g, c, len, _, cs, h1, h2', h3, h4, h5, h6, h7.set_ i u, by simpa using h8, h9'⟩
  · exact ⟨G, g, c, len, cur, cs, h1, h2', h3, h4, h5, h6, h7.far (by simpa using hgg) u, h8, h9'⟩
theorem blk_store {w : World} {g g' : Nat} {t : TypeId} {cs cur' : Array Value} (h : Blk w g t cs) (ht : t ≠ 3) (hg : Blk w g' 3 cur') (i : Nat) (u : Value) : Blk (w.setCell ⟨g', i, none⟩ u) g t cs := h.far (fun e => by
  subst e
  have := h.symm.trans hg
  simp only [Option.some.injEq, Obj.cells.injEq] at this
  exact ht this.2.1) u
theorem OwnLL.wr {w : World} {base : Nat} {A : Option Addr} {n c : Nat} {ls : List (List Int)} (h : OwnLL w base 25 3 .i64 (.slice A n c) ls) (hpos : ∀ l ∈ ls, 0 < l.length) : Wr w A ls.length base w.heap.size := fun j hj => by
  have hl : 0 < (ls.getD j []).length := hpos _ (getDD_mem hj)
  obtain ⟨G, C, g, c', hv, _, h2, h3, h4, ⟨cur, h5⟩, h6, _⟩ := OwnLL.at_ h (by decide) hj hl
  obtain ⟨g', c9, hv', _, hg9, _, h8, _⟩ := h6.row hl
  simp only [Value.slice.injEq, Option.some.injEq, Addr.mk.injEq] at hv hv'
  obtain ⟨rfl, _, rfl⟩ := hv
  obtain ⟨⟨rfl, _⟩, _⟩ := hv'
  obtain ⟨hs, ho, _⟩ := h
  rcases ho.2 with ⟨hh, _⟩ | ⟨G', _, cs, hv, _, hcs, _⟩
  · simp at hh
  · simp only [Value.slice.injEq, Option.some.injEq, Addr.mk.injEq, and_true, true_and] at hv
    obtain ⟨rfl, _⟩ := hv
    have h0 := h8 0 hl
    rw [h5.cell 0] at h0
    exact ⟨_, g, c', _, cur, cs, rfl, h2, hl, h3, hg9, (Array.getElem?_eq_some_iff.1 hcs).1, h5, (Array.getElem?_eq_some_iff.1 h0).1, hcs⟩

set_option maxHeartbeats 8000000 in
set_option maxRecDepth 100000 in
theorem walk (w : World) (A0 : Option Addr) (c0 : Nat) (t : List Int) (ht : ∀ x ∈ t, -9223372036854775808 ≤ x ∧ x ≤ 9223372036854775807) (hc : t.length ≤ c0) (h63 : c0 ≤ 9223372036854775807) (hrt : RdI w w.heap.size .i64 A0 t) (n : Int) (n0 : -9223372036854775808 ≤ n) (n1 : n ≤ 9223372036854775807) :
    Calls Try.prog 7 #[.slice A0 t.length c0, .int .i64 n] w fun e w' => e = .returned (.bool true) ∧ Below w.heap.size w w' := by
  have HK := Lib.hid (fun W => known_any W)
  have HT := Lib.hid (newtape_any A0 t c0 ht hc (by omega) w hrt (Nat.le_refl _))
  have HPic := Lib.hid (fun W (hW : TapeB W w.heap.size w.heap.size) => tapepic_any hW 12 (by omega) (by omega))
  clear ht hrt
  go_enter Try.func7, Try.ntmps7
  go_wp2_with (first
    | (go_at_call 14; go_must (refine HT.out.mono ?_); rintro e w1 ⟨rfl, hT1, hb1⟩)
    | (go_at_call 15; go_must (refine (HPic.out _ hT1).mono ?_); rintro e w2 ⟨W, H, d, p, A, c, rfl, hB, _, _, ho2, _, hg2⟩; have hR2 : RdLL w2 w2.heap.size .i64 A p := by { obtain ⟨A', c', hv, _, h, _⟩ := ho2.form; simp only [Value.slice.injEq] at hv; obtain ⟨rfl, _, rfl⟩ := hv; exact h }; have HG := Lib.hid (gives (c := c) hB hR2); have bb2 : Below w.heap.size w w2 := below_only hb1 hg2 hb1.size (Nat.le_refl _); have y2 := Below.refl w2.heap.size w2; have k5 := Blk.new w2 28 #[.int .i64 (W : Int), .int .i64 (H : Int), .int .i64 (d : Int), .slice A p.length c]; have hsz2 := bb2.size)
    | (go_at_call 16; go_must (refine (HG.out.rcopy _ (by repeat (first | exact Below.refl _ _ | assumption | refine Below.drew ?_ | refine below_drewN ?_ _ | refine below_alloc ?_ _))).mono ?_); rintro e w3 ⟨A3, c3, rfl, ho3, hb3⟩; have y3 := below_then (below_alloc (Below.refl w2.heap.size w2) _) hb3; have k5 := k5.below hb3 k5.lt; have k53 := k5.alloc (.cells #[.int .i64 (W : Int), .int .i64 (H : Int), .int .i64 (d : Int), .slice A3 p.length c3] 28); obtain ⟨x0, x1, x2, x3, _⟩ := k53.four; have k6 := Blk.new w3 28 #[.int .i64 (W : Int), .int .i64 (H : Int), .int .i64 (d : Int), .slice A3 p.length c3])
    | (go_at_call 26; go_must (refine (HG.out.copy _ (by repeat (first | exact Below.refl _ _ | assumption | refine Below.drew ?_ | refine below_drewN ?_ _ | refine below_alloc ?_ _))).mono ?_); rintro e w4 ⟨A4, c4, rfl, ho4, hb4⟩; clear x0 x1 x2 x3; have z3 := below_then (below_alloc (Below.refl w3.heap.size w3) _) hb4; have y4 := below_then y3 z3; have k5 := k5.below z3 k5.lt; have k6 := k6.below hb4 k6.lt; have k54 := k5.alloc (.cells #[.int .i64 (W : Int), .int .i64 (H : Int), .int .i64 (d : Int), .slice A4 p.length c4] 28); obtain ⟨x0, x1, x2, x3, _⟩ := k54.four; have k7 := Blk.new w4 28 #[.int .i64 (W : Int), .int .i64 (H : Int), .int .i64 (d : Int), .slice A4 p.length c4])
    | (go_at_call 23; go_must (refine (HG.out.cut _ (by repeat (first | exact Below.refl _ _ | assumption | refine Below.drew ?_ | refine below_drewN ?_ _ | refine below_alloc ?_ _))).mono ?_); rintro e w5 ⟨A5, c5, rfl, ho5, hb5⟩; clear x0 x1 x2 x3; have z4 := below_then (below_alloc (Below.refl w4.heap.size w4) _) hb5; have y5 := below_then y4 z4; have k5 := k5.below z4 k5.lt; have k6 := k6.below z4 k6.lt; have k7 := k7.below hb5 k7.lt; have k55 := k5.alloc (.cells #[.int .i64 (W : Int), .int .i64 (H : Int), .int .i64 (d : Int), .slice A5 p.length c5] 28); obtain ⟨x0, x1, x2, x3, _⟩ := k55.four; have k8 := Blk.new w5 28 #[.int .i64 (W : Int), .int .i64 (H : Int), .int .i64 (d : Int), .slice A5 p.length c5])
    | (go_at_call 24; go_must (refine (HG.out.paste _ (by repeat (first | exact Below.refl _ _ | assumption | refine Below.drew ?_ | refine below_drewN ?_ _ | refine below_alloc ?_ _))).mono ?_); rintro e w6 ⟨A6, c6, rfl, ho6, hb6⟩; clear x0 x1 x2 x3; have z5 := below_then (below_alloc (Below.refl w5.heap.size w5) _) hb6; have y6 := below_then y5 z5; have k5 := k5.below z5 k5.lt; have k6 := k6.below z5 k6.lt; have k7 := k7.below z5 k7.lt; have k8 := k8.below hb6 k8.lt; have k56 := k5.alloc (.cells #[.int .i64 (W : Int), .int .i64 (H : Int), .int .i64 (d : Int), .slice A6 p.length c6] 28); have k76 := k7.alloc (.cells #[.int .i64 (W : Int), .int .i64 (H : Int), .int .i64 (d : Int), .slice A6 p.length c6] 28); have k86 := k8.alloc (.cells #[.int .i64 (W : Int), .int .i64 (H : Int), .int .i64 (d : Int), .slice A6 p.length c6] 28); have k10 := Blk.new w6 28 #[.int .i64 (W : Int), .int .i64 (H : Int), .int .i64 (d : Int), .slice A6 p.length c6]; have x3 := k56.cell 3; have x7 := k76.cell 3; have x8 := k86.cell 3; have x10 := k10.cell 3))
  obtain ⟨b1, b2, b3, b4, b5, b6, b7⟩ := isB_facts hB
  have hpos : ∀ l ∈ p, 0 < l.length := fun l hl => by
    rw [b7 l hl]
    exact Nat.mul_pos (by omega) (by omega)
  have W4 := (OwnLL.wr ho4 hpos).below (below_then z4 (below_then z5 (below_alloc (Below.refl w6.heap.size w6) (.cells #[.int .i64 (W : Int), .int .i64 (H : Int), .int .i64 (d : Int), .slice A6 p.length c6] 28)))) (Nat.le_refl _)
  have W5 := (OwnLL.wr ho5 hpos).below (below_then z5 (below_alloc (Below.refl w6.heap.size w6) (.cells #[.int .i64 (W : Int), .int .i64 (H : Int), .int .i64 (d : Int), .slice A6 p.length c6] 28))) (Nat.le_refl _)
  have O6 := ho6.below (below_alloc (Below.refl w6.heap.size w6) (.cells #[.int .i64 (W : Int), .int .i64 (H : Int), .int .i64 (d : Int), .slice A6 p.length c6] 28))
  have k66 := k6.alloc (.cells #[.int .i64 (W : Int), .int .i64 (H : Int), .int .i64 (d : Int), .slice A6 p.length c6] 28)
  have bz := below_then y6 (below_alloc (Below.refl w6.heap.size w6) (.cells #[.int .i64 (W : Int), .int .i64 (H : Int), .int .i64 (d : Int), .slice A6 p.length c6] 28))
  have r3 : RdLL (w6.alloc (.cells #[.int .i64 (W : Int), .int .i64 (H : Int), .int .i64 (d : Int), .slice A6 p.length c6] 28)) w3.heap.size .i64 A3 p := by
    obtain ⟨A', c', hv, _, h, _⟩ := ho3.form
    simp only [Value.slice.injEq] at hv
    obtain ⟨rfl, _, rfl⟩ := hv
    exact h.below (below_then z3 (below_then z4 (below_then z5 (below_alloc (Below.refl w6.heap.size w6) (.cells #[.int .i64 (W : Int), .int .i64 (H : Int), .int .i64 (d : Int), .slice A6 p.length c6] 28))))) (Nat.le_refl _)
  have r2 := hR2.below bz (Nat.le_refl _)
  have q3 := k6.lt
  have q4 := k7.lt
  have q5 := k8.lt
  have s32 : w2.heap.size < w3.heap.size := Nat.lt_of_lt_of_le (by simp) hb3.size
  have s43 : w3.heap.size < w4.heap.size := Nat.lt_of_lt_of_le (by simp) hb4.size
  have s54 : w4.heap.size < w5.heap.size := Nat.lt_of_lt_of_le (by simp) hb5.size
  have s65 : w5.heap.size < w6.heap.size := Nat.lt_of_lt_of_le (by simp) hb6.size
  have bb := bb2.trans (bz.mono hsz2)
  rw [World.size_alloc] at W4 W5 O6
  have hs6 := World.size_alloc w6 (.cells #[.int .i64 (W : Int), .int .i64 (H : Int), .int .i64 (d : Int), .slice A6 p.length c6] 28)
  generalize w6.alloc (.cells #[.int .i64 (W : Int), .int .i64 (H : Int), .int .i64 (d : Int), .slice A6 p.length c6] 28) = wa at *
  obtain ⟨s3, e3⟩ : ∃ x, x = w3.heap.size := ⟨_, rfl⟩
  obtain ⟨s4, e4⟩ : ∃ x, x = w4.heap.size := ⟨_, rfl⟩
  obtain ⟨s5, e5⟩ : ∃ x, x = w5.heap.size := ⟨_, rfl⟩
  obtain ⟨s6, e6⟩ : ∃ x, x = w6.heap.size := ⟨_, rfl⟩
  obtain ⟨s2, e2⟩ : ∃ x, x = w2.heap.size := ⟨_, rfl⟩
  rw [← e2, ← e3, ← e4, ← e5, ← e6]
  rw [← e2] at k56 r2 s32 hsz2
  rw [← e3] at k66 W4 r3 s32 s43
  rw [← e4] at k76 W4 W5 s43 s54
  rw [← e5] at k86 W5 O6 s54 s65
  rw [← e6] at k10 s65 hs6
  clear x3 x7 x8 x10 k5 k6 k7 k8 y2 y3 y4 y5 y6 z3 z4 z5 ho2 ho3 ho4 ho5 ho6 hb3 hb4 hb5 hb6 hR2 HG bb2 bz q3 q4 q5 e2 e3 e4 e5 e6 hT1 hg2 HPic HT hb1 k53 k54 k55
  replace b7 := Lib.hid b7
  replace hB := Lib.hid hB
  go_loopw [12] (fun i wr => ∃ (j : Nat), j ≤ p.length ∧ i = .int .i64 j ∧ Below (s3 + 1) wa wr ∧ Blk wr s4 28 #[.int .i64 (W : Int), .int .i64 (H : Int), .int .i64 (d : Int), .slice A4 p.length c4] ∧ Blk wr s5 28 #[.int .i64 (W : Int), .int .i64 (H : Int), .int .i64 (d : Int), .slice A5 p.length c5] ∧ Blk wr s6 28 #[.int .i64 (W : Int), .int .i64 (H : Int), .int .i64 (d : Int), .slice A6 p.length c6] ∧ Wr wr A4 p.length (s3 + 1) s4 ∧ Wr wr A5 p.length (s4 + 1) s5 ∧ OwnLL wr (s5 + 1) 25 3 .i64 (.slice A6 p.length c6) p) (fun i _ => p.length - (intOf i).toNat)
  case atStart => exact ⟨0, Nat.zero_le _, rfl, Below.refl _ _, k76, k86, k10, W4, W5, O6⟩
  case round =>
    obtain ⟨j, hj, rfl, hbw, m7, m8, m10, V4, V5, U6⟩ := hrel
    have m5 := k56.below hbw (by omega)
    have m6 := k66.below hbw (by omega)
    by_cases hlt : j < p.length
    · obtain ⟨G, g, c7, len, cur, cs, rfl, v2, v3, v4, v5, v6, v7, v8, v9⟩ := V4 j hlt
      obtain ⟨G', g', c7', len', cur', cs', rfl, u2, u3, u4, u5, u6, u7, u8, u9⟩ := V5 j hlt
      have x5 := m5.cell 3
      have x7 := m7.cell 3
      have x8 := m8.cell 3
      have f0 := v7.frozen 0
      have f1 := u7.frozen 0
      have l0 : ((len : Int) == 0) = false := by rw [beq_eq_false_iff_ne]; omega
      have l1 : ((len' : Int) == 0) = false := by rw [beq_eq_false_iff_ne]; omega
      obtain ⟨z0, t0⟩ : ∃ z, wr.cell? ⟨g, 0, none⟩ = some z := ⟨cur[0], by rw [v7.cell 0]; simp [v8]⟩
      obtain ⟨z1, t1⟩ : ∃ z, wr.cell? ⟨g', 0, none⟩ = some z := ⟨cur'[0], by rw [u7.cell 0]; simp [u8]⟩
      have hgg : g ≠ g' := by omega
      have hgg' : g' ≠ g := by omega
      go_wp2
      go_region
      go_wp2
      go_roundw
      case rel =>
        have v7' := v7.far (p := ⟨g', 0, none⟩) hgg (.int .i64 n)
        have u7' := u7.far (p := ⟨g, 0, none⟩) hgg' (.int .i64 n)
        refine ⟨j + 1, by omega, by go_num, ((hbw.setCell (by simp; omega) _).setCell (by simp; omega) _).drew, ?_, ?_, ?_, ?_, ?_, ?_⟩
        · exact Blk.drew (blk_store (blk_store m7 (by decide) v7 0 _) (by decide) u7' 0 _)
        · exact Blk.drew (blk_store (blk_store m8 (by decide) v7 0 _) (by decide) u7' 0 _)
        · exact Blk.drew (blk_store (blk_store m10 (by decide) v7 0 _) (by decide) u7' 0 _)
        · exact Wr.store (Wr.store V4 v7 0 _) u7' 0 _
        · exact Wr.store (Wr.store V5 v7 0 _) u7' 0 _
        · exact (U6.far (by simp; omega) _).far (by simp; omega) _
      case measure => simp [intOf]; omega
    · have hjl : j = p.length := by omega
      have hjn : ¬ (j : Int) < (p.length : Int) := by omega
      obtain ⟨A7, c7, hv, _, r6, _⟩ := U6.form
      simp only [Value.slice.injEq] at hv
      obtain ⟨rfl, _, rfl⟩ := hv
      have hsm := isB_small hB.out
      have h63p : Len63 p := ⟨by have := hsm.1; simp at this; omega, fun l hl => by have := hsm.2 l hl; omega⟩
      have hsB : sameB ⟨W, H, d, p⟩ ⟨W, H, d, p⟩ = true := by simp [sameB]
      have hszr := hbw.size
      have R2 := RdLL_more (RdLL.below r2 hbw (by omega)) (B' := wr.heap.size) (by omega)
      have R3 := RdLL_more (RdLL.below r3 hbw (by omega)) (B' := wr.heap.size) (by omega)
      have S1 := fun W' (hb : Below wr.heap.size wr W') => same_any (a := ⟨W, H, d, p⟩) (b := ⟨W, H, d, p⟩) (c := c) (c2 := c3) (RdLL.below R2 hb (Nat.le_refl _)) (RdLL.below R3 hb (Nat.le_refl _)) hb.size h63p
      have S2 := fun W' (hb : Below wr.heap.size wr W') => same_any (a := ⟨W, H, d, p⟩) (b := ⟨W, H, d, p⟩) (c := c6) (c2 := c3) (RdLL.below r6 hb (Nat.le_refl _)) (RdLL.below R3 hb (Nat.le_refl _)) hb.size h63p
      simp only [hsB] at S1 S2
      replace S1 := Lib.hid S1
      replace S2 := Lib.hid S2
      obtain ⟨x0, x1, x2, x3, _⟩ := m5.four
      obtain ⟨y0, y1, y2, y3, _⟩ := m6.four
      clear R2 R3 r6 r2 r3 h63p hsB hsm V4 V5 U6
      go_wp2_with (first
        | (go_at_call 25; (with_reducible refine (S1.out wr (Below.refl _ _)).mono ?_); rintro e w8 ⟨rfl, hb8⟩; clear x0 x1 x2 x3 y0 y1 y2 y3; obtain ⟨y0, y1, y2, y3, _⟩ := (m6.below hb8 m6.lt).four; obtain ⟨x0, x1, x2, x3, _⟩ := (m10.below hb8 m10.lt).four)
        | (go_at_call 25; (with_reducible refine (S2.out w8 hb8).mono ?_); rintro e w9 ⟨rfl, hb9⟩)
        | (go_at_call 13; go_must (refine (HK.out _).mono ?_); rintro e w10 ⟨rfl, hb10⟩))
      go_ret
      exact ⟨rfl, below_then (below_then (below_then (bb.trans (hbw.mono (by omega))) hb8) hb9) hb10⟩
end Go.Proofs.Ytbmgnclfecejeaa.picOwn
