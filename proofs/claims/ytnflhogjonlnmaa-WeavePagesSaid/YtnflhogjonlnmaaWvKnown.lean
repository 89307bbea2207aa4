/- known() of chapter 33. -/
import Derived.Test.YtnflhogjonlnmaaWvN
import Derived.Test.YtnflhogjonlnmaaSched
set_option linter.unusedSimpArgs false
set_option linter.unusedVariables false
namespace Go.Proofs.Ytnflhogjonlnmaa
open Go.RowKit

theorem wvn_put_is {w0 w : World} {X : Nat → Prop} {g : Nat} {s s' : Wv} {p : Pk} {E : Int} (h : WvN w0 X w g s) (hE : s.putE p = E) (hs : s.put p = s') (hw : p.wf) (hd : p.data = []) :
    Calls Try.prog 18 #[.pointer (some ⟨g, 0, none⟩), .agg #[.int .i64 p.st, .int .i64 p.at_, .int .i64 p.ln, .bool p.key, .bool p.hid, .slice none 0 0]] w fun e w' => e = .returned (.int .i64 E) ∧ WvN w0 X w' g s' ∧ Mod (Free w0 X) w w' := by
  have h1 := wvn_put h p none 0 hw (by rw [hd]; exact RdI.nil_)
  rw [hE, hs] at h1
  simp only [Pk.val, hd, List.length_nil] at h1
  exact h1
theorem wvn_take_is {w0 w : World} {X : Nat → Prop} {g : Nat} {s s' : Wv} {o : Option Pk} (h : WvN w0 X w g s) (ht : s.take = (o, s')) (hl0 : 0 ≤ s.late) (hl1 : s.late ≤ 4611686018427387904) :
    Calls Try.prog 20 #[.pointer (some ⟨g, 0, none⟩)] w fun e w' => ∃ A c, e = .returned (.tuple #[(o.getD pz).val A c, .bool o.isSome]) ∧ WvN w0 X w' g s' ∧ Mod (Free w0 X) w w' := by
  have h1 := wvn_take h hl0 hl1
  rw [ht] at h1
  exact h1
theorem wvn_end_is {w0 w : World} {X : Nat → Prop} {g : Nat} {s s' : Wv} {n : Int} (h : WvN w0 X w g s) (ht : s.stop n = s') :
    Calls Try.prog 26 #[.pointer (some ⟨g, 0, none⟩), .int .i64 n] w fun e w' => e = .returned (.tuple #[]) ∧ WvN w0 X w' g s' ∧ Mod (Free w0 X) w w' := by
  have h1 := wvn_end h n
  rw [ht] at h1
  exact h1

def wp1 : Pk := ⟨1, 5, 0, false, false, []⟩
def wp0 : Pk := ⟨0, 5, 0, false, false, []⟩
def wp9 : Pk := ⟨0, 9, 0, false, false, []⟩
def ws0 : Wv := ⟨100, List.replicate 2 ⟨[], 0, false⟩, 0, 0⟩
def ws1 : Wv := ws0.put wp1
def ws2 : Wv := ws1.put wp0
def ws3 : Wv := ws2.take.2
def ws4 : Wv := ws3.stop 0
def ws5 : Wv := ws4.take.2
theorem wk_wf {p : Pk} (h : p = wp1 ∨ p = wp0 ∨ p = wp9) : p.wf := by
  rcases h with rfl | rfl | rfl
  · exact ⟨by simp [wp1, i64B], by simp [wp1, i64B], by simp [wp1, i64B], by simp [wp1], fun x hx => by simp [wp1] at hx⟩
  · exact ⟨by simp [wp0, i64B], by simp [wp0, i64B], by simp [wp0, i64B], by simp [wp0], fun x hx => by simp [wp0] at hx⟩
  · exact ⟨by simp [wp9, i64B], by simp [wp9, i64B], by simp [wp9, i64B], by simp [wp9], fun x hx => by simp [wp9] at hx⟩
theorem wk1 : ws0.putE wp1 = 0 := by decide +kernel
theorem wk2 : ws1.take = (none, ws1) := by decide +kernel
theorem wk3 : ws1.putE wp0 = 0 := by decide +kernel
theorem wk4 : ws2.take = (some wp0, ws3) := by decide +kernel
theorem wk5 : ws3.take = (none, ws3) := by decide +kernel
theorem wk6 : ws4.take = (some wp1, ws5) := by decide +kernel
theorem wk7 : ws5.putE wp9 = 11 := by decide +kernel
theorem wk8 : ws5.put wp9 = ws5 := by decide +kernel
theorem wk9 : ws5.late = 0 ∧ ws1.late = 0 ∧ ws2.late = 0 ∧ ws3.late = 0 ∧ ws4.late = 0 ∧ ws5.waits 1 = 0 := by decide +kernel

set_option maxHeartbeats 8000000 in
set_option maxRecDepth 100000 in
theorem known_any (w : World) : Calls Try.prog 15 #[] w fun e w' => e = .returned (.bool true) ∧ Below w.heap.size w w' := by
  have HN := Lib.hid (wvn_new (N := 2) (n := 2) (most := 100) rfl (by omega) (by omega) (by omega) (by omega) (w0 := w) (X := fun _ => False) w (Nat.le_refl _) (fun b hb => hb.elim))
  have HP1 := Lib.hid (fun W (h : WvN w (fun _ => False) W (w.heap.size + 1) ws0) => wvn_put_is h wk1 (s' := ws1) rfl (wk_wf (.inl rfl)) rfl)
  have HT1 := Lib.hid (fun W (h : WvN w (fun _ => False) W (w.heap.size + 1) ws1) => wvn_take_is h wk2 (by rw [wk9.2.1]; omega) (by rw [wk9.2.1]; omega))
  have HP2 := Lib.hid (fun W (h : WvN w (fun _ => False) W (w.heap.size + 1) ws1) => wvn_put_is h wk3 (s' := ws2) rfl (wk_wf (.inr (.inl rfl))) rfl)
  have HT2 := Lib.hid (fun W (h : WvN w (fun _ => False) W (w.heap.size + 1) ws2) => wvn_take_is h wk4 (by rw [wk9.2.2.1]; omega) (by rw [wk9.2.2.1]; omega))
  have HT3 := Lib.hid (fun W X (h : WvN w X W (w.heap.size + 1) ws3) => wvn_take_is h wk5 (by rw [wk9.2.2.2.1]; omega) (by rw [wk9.2.2.2.1]; omega))
  have HEn := Lib.hid (fun W X (h : WvN w X W (w.heap.size + 1) ws3) => wvn_end_is h (n := 0) (s' := ws4) rfl)
  have HT4 := Lib.hid (fun W X (h : WvN w X W (w.heap.size + 1) ws4) => wvn_take_is h wk6 (by rw [wk9.2.2.2.2.1]; omega) (by rw [wk9.2.2.2.2.1]; omega))
  have HP3 := Lib.hid (fun W X (h : WvN w X W (w.heap.size + 1) ws5) => wvn_put_is h wk7 wk8 (wk_wf (.inr (.inr rfl))) rfl)
  have HLt := Lib.hid (fun W X (h : WvN w X W (w.heap.size + 1) ws5) => by have h1 := wvn_late h; rw [wk9.1] at h1; exact h1)
  have HWt := Lib.hid (fun W X (h : WvN w X W (w.heap.size + 1) ws5) => by have h1 := wvn_waits h 1; rw [wk9.2.2.2.2.2] at h1; exact h1)
  simp only [wp1, wp0, wp9] at HP1 HP2 HP3
  simp only [wp1, wp0, Option.getD_some, Option.getD_none, Option.isSome_some, Option.isSome_none, pz, Pk.val, List.length_nil] at HT1 HT2 HT3 HT4
  go_enter Try.func15, Try.ntmps15
  go_upto_region 8 with (first
    | (go_at_call 17; (with_reducible refine HN.out.mono ?_); rintro e w1 ⟨rfl, hw1, hb1⟩; have m1 := Mod.of_fresh (M := fun b => w.heap.size ≤ b) hb1)
    | (go_at_call 18; (with_reducible refine (HP1.out _ hw1).mono ?_); rintro e w2 ⟨rfl, hw2, hm2⟩)
    | (go_at_call 20; (with_reducible refine (HT1.out _ hw2).mono ?_); rintro e w3 ⟨A3, c3, rfl, hw3, hm3⟩; have hw3' := hw3.below (below_alloc (Below.refl _ _) (.cells #[.int .i64 0, .int .i64 0, .int .i64 0, .bool false, .bool false, .slice A3 0 c3] 40)))
    | (go_at_call 18; (with_reducible refine (HP2.out _ hw3').mono ?_); rintro e w4 ⟨rfl, hw4, hm4⟩)
    | (go_at_call 20; (with_reducible refine (HT2.out _ hw4).mono ?_); rintro e w5 ⟨A5, c5, rfl, hw5, hm5⟩))
  have low : ∀ {X : Nat → Prop} {a b : World}, Mod (Free w X) a b → Mod (fun b => w.heap.size ≤ b) a b := fun h => h.mono (fun b hb _ => hb.1)
  have HLow := Lib.hid (fun (X : Nat → Prop) (a b : World) (h : Mod (Free w X) a b) => h.mono (M' := fun b => w.heap.size ≤ b) (fun b hb _ => hb.1))
  clear low
  have b3a := below_alloc (Below.refl w3.heap.size w3) (.cells #[.int .i64 0, .int .i64 0, .int .i64 0, .bool false, .bool false, .slice A3 0 c3] 40)
  have q5 := ((((m1.then_ (HLow.out _ _ _ hm2)).then_ (HLow.out _ _ _ hm3)).then_ (Mod.of_fresh b3a)).then_ (HLow.out _ _ _ hm4)).then_ (HLow.out _ _ _ hm5)
  have kb5 := Blk.new w5 40 #[.int .i64 0, .int .i64 5, .int .i64 0, .bool false, .bool false, .slice A5 0 c5]
  have b5 := below_alloc (Below.refl w5.heap.size w5) (.cells #[.int .i64 0, .int .i64 5, .int .i64 0, .bool false, .bool false, .slice A5 0 c5] 40)
  have hw5' := hw5.protect b5
  generalize w5.alloc (.cells #[.int .i64 0, .int .i64 5, .int .i64 0, .bool false, .bool false, .slice A5 0 c5] 40) = w5a at *
  have hl5 := kb5.lt
  have q5a := q5.then_ (Mod.of_fresh b5)
  clear hw1 hw2 hw3 hw3' hw4 hw5 hm2 hm3 hm4 hm5 m1 b3a hb1 q5
  go_upto_region 9 with (first
    | (go_at_call 20; (with_reducible refine (HT3.out _ _ hw5').mono ?_); rintro e w6 ⟨A6, c6, rfl, hw6, hm6⟩))
  have kb56 := kb5.mod hm6 (fun h => h.2 (.inr ⟨Nat.le_refl _, hl5⟩))
  have kb6 := Blk.new w6 40 #[.int .i64 0, .int .i64 0, .int .i64 0, .bool false, .bool false, .slice A6 0 c6]
  have b6 := below_alloc (Below.refl w6.heap.size w6) (.cells #[.int .i64 0, .int .i64 0, .int .i64 0, .bool false, .bool false, .slice A6 0 c6] 40)
  have hw6' := hw6.protect b6
  have kb57 := kb56.below b6 kb56.lt
  generalize w6.alloc (.cells #[.int .i64 0, .int .i64 0, .int .i64 0, .bool false, .bool false, .slice A6 0 c6] 40) = w6a at *
  have hl6 := kb6.lt
  have q6a := (q5a.then_ (HLow.out _ _ _ hm6)).then_ (Mod.of_fresh b6)
  clear hw5' hw6 hm6 kb5 kb56 b6 b5
  go_upto_region 11 with (first
    | (go_at_call 26; (with_reducible refine (HEn.out _ _ hw6').mono ?_); rintro e w7 ⟨rfl, hw7, hm7⟩; have kb58 := kb57.mod hm7 (fun h => h.2 (.inl (.inr ⟨Nat.le_refl _, hl5⟩))); have kb68 := kb6.mod hm7 (fun h => h.2 (.inr ⟨Nat.le_refl _, hl6⟩)))
    | (go_at_call 20; (with_reducible refine (HT4.out _ _ hw7).mono ?_); rintro e w8 ⟨A8, c8, rfl, hw8, hm8⟩; have kb59 := kb58.mod hm8 (fun h => h.2 (.inl (.inr ⟨Nat.le_refl _, hl5⟩))); have kb69 := kb68.mod hm8 (fun h => h.2 (.inr ⟨Nat.le_refl _, hl6⟩))))
  have kb8 := Blk.new w8 40 #[.int .i64 1, .int .i64 5, .int .i64 0, .bool false, .bool false, .slice A8 0 c8]
  have b8 := below_alloc (Below.refl w8.heap.size w8) (.cells #[.int .i64 1, .int .i64 5, .int .i64 0, .bool false, .bool false, .slice A8 0 c8] 40)
  have hw8' := hw8.protect b8
  have kb5a := kb59.below b8 kb59.lt
  have kb6a := kb69.below b8 kb69.lt
  have q8 := ((q6a.then_ (HLow.out _ _ _ hm7)).then_ (HLow.out _ _ _ hm8)).then_ (Mod.of_fresh b8)
  generalize w8.alloc (.cells #[.int .i64 1, .int .i64 5, .int .i64 0, .bool false, .bool false, .slice A8 0 c8] 40) = w8a at *
  have hl8 := kb8.lt
  clear hw6' hw7 hw8 hm7 hm8 kb57 kb58 kb59 kb6 kb68 kb69 b8
  go_upto_region 12 with (first
    | (go_at_call 18; (with_reducible refine (HP3.out _ _ hw8').mono ?_); rintro e w9 ⟨rfl, hw9, hm9⟩))
  have kb5b := kb5a.mod hm9 (fun h => h.2 (.inl (.inl (.inr ⟨Nat.le_refl _, hl5⟩))))
  have kb6b := kb6a.mod hm9 (fun h => h.2 (.inl (.inr ⟨Nat.le_refl _, hl6⟩)))
  have kb8b := kb8.mod hm9 (fun h => h.2 (.inr ⟨Nat.le_refl _, hl8⟩))
  have q9 := q8.then_ (HLow.out _ _ _ hm9)
  have z5 := kb5b.cell 0
  have z6 := kb6b.cell 0
  have z8 := kb8b.cell 0
  go_wp2_with (first
    | (go_at_call 28; (with_reducible refine (HLt.out _ _ hw9).mono ?_); rintro e w10 ⟨rfl, rfl⟩)
    | (go_at_call 19; (with_reducible refine (HWt.out _ _ hw9).mono ?_); rintro e w10 ⟨rfl, rfl⟩))
  go_ret
  exact ⟨rfl, q9.below (Nat.le_refl _) (fun b hb => hb)⟩
end Go.Proofs.Ytnflhogjonlnmaa
