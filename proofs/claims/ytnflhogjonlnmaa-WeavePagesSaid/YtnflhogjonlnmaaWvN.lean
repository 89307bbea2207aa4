/- weave.Weaver as a law uses it: the blocks of X are safe from it, and nothing older than w0 turns. -/
import Derived.Test.YtnflhogjonlnmaaWvPut
import Derived.Test.YtnflhogjonlnmaaWvTake
set_option linter.unusedSimpArgs false
set_option linter.unusedVariables false
namespace Go.Proofs.Ytnflhogjonlnmaa
open Go.RowKit

def WvN (w0 : World) (X : Nat → Prop) (w : World) (g : Nat) (s : Wv) : Prop :=
  ∃ F D, WvR w F D g s ∧ (∀ b, F b → w0.heap.size ≤ b ∧ ¬ X b) ∧ (∀ b, D b → ¬ X b) ∧ (∀ b, X b → b < w.heap.size)
section
variable {w0 w w' : World} {X : Nat → Prop} {g : Nat} {s : Wv}
theorem WvN.ok (h : WvN w0 X w g s) : s.ok 0 := by obtain ⟨_, _, h, _⟩ := h; exact h.ok
theorem WvN.lt (h : WvN w0 X w g s) : g < w.heap.size ∧ w0.heap.size ≤ g ∧ ¬ X g := by
  obtain ⟨F, D, h, hF, _⟩ := h
  obtain ⟨gq, vs, h1, h2, h3⟩ := h
  exact ⟨h1.lt, (hF _ h2.gF.2.1).1, (hF _ h2.gF.2.1).2⟩
theorem WvN.keepX (h : WvN w0 X w g s) (hm : Mod X w w') : WvN w0 X w' g s := by
  obtain ⟨F, D, h, hF, hD, hX⟩ := h
  exact ⟨F, D, h.keep hm (fun b hb => (hF b hb).2) hD, hF, hD, fun b hb => Nat.lt_of_lt_of_le (hX b hb) hm.size⟩
theorem WvN.below (h : WvN w0 X w g s) (hb : Below w.heap.size w w') : WvN w0 X w' g s := h.keepX (Mod.of_fresh hb)
theorem WvN.drewN (h : WvN w0 X w g s) (n : Nat) : WvN w0 X (w.drewN n) g s := h.keepX ((Mod.refl _ _).drewN n)
/-- What is laid beside it is safe too. -/
theorem WvN.protect (h : WvN w0 X w g s) (hb : Below w.heap.size w w') : WvN w0 (fun b => X b ∨ (w.heap.size ≤ b ∧ b < w'.heap.size)) w' g s := by
  have hk := h.below hb
  obtain ⟨F, D, h, hF, hD, hX⟩ := h
  refine ⟨F, D, h.below hb, fun b hb' => ⟨(hF b hb').1, fun hx => ?_⟩, fun b hb' hx => ?_, fun b hb' => ?_⟩
  · rcases hx with hx | hx
    · exact (hF b hb').2 hx
    · have := h.Flt b hb'; omega
  · rcases hx with hx | hx
    · exact hD b hb' hx
    · have := (h.Dlt b hb').1; omega
  · rcases hb' with hb' | hb'
    · exact Nat.lt_of_lt_of_le (hX b hb') hb.size
    · exact hb'.2
theorem WvN.sub (h : WvN w0 X w g s) {Y : Nat → Prop} (hy : ∀ b, Y b → X b) : WvN w0 Y w g s := by
  obtain ⟨F, D, h, hF, hD, hX⟩ := h
  exact ⟨F, D, h, fun b hb => ⟨(hF b hb).1, fun hx => (hF b hb).2 (hy b hx)⟩, fun b hb hx => hD b hb (hy b hx), fun b hb => hX b (hy b hb)⟩
end
/-- what its calls may turn -/
def Free (w0 : World) (X : Nat → Prop) (b : Nat) : Prop := w0.heap.size ≤ b ∧ ¬ X b
theorem wvn_new {n most : Int} {N : Nat} (hn : n = (N : Int)) (h1 : 1 ≤ N) (h4 : N ≤ 4) (m0 : 0 ≤ most) (m1 : most ≤ 1125899906842624) {w0 : World} {X : Nat → Prop} (w : World) (hw : w0.heap.size ≤ w.heap.size) (hX : ∀ b, X b → b < w.heap.size) :
    Calls Try.prog 17 #[.int .i64 n, .int .i64 most] w fun e w' => e = .returned (.tuple #[.pointer (some ⟨w.heap.size + 1, 0, none⟩), .int .i64 0]) ∧ WvN w0 X w' (w.heap.size + 1) ⟨most, List.replicate N ⟨[], 0, false⟩, 0, 0⟩ ∧ Below w.heap.size w w' := by
  refine (weavenew_ok hn h1 h4 m0 m1 w).mono ?_
  rintro e w' ⟨he, hr, hb⟩
  refine ⟨he, ⟨_, _, hr, fun b hb' => ⟨by omega, fun hx => by have := hX b hx; omega⟩, fun b hb' => hb'.elim, fun b hx => Nat.lt_of_lt_of_le (hX b hx) hb.size⟩, hb⟩
theorem wvn_put {w0 w : World} {X : Nat → Prop} {g : Nat} {s : Wv} (h : WvN w0 X w g s) (p : Pk) (A : Option Addr) (c : Nat) (hw : p.wf) (hr : RdI w w.heap.size .u8 A p.data) :
    Calls Try.prog 18 #[.pointer (some ⟨g, 0, none⟩), p.val A c] w fun e w' => e = .returned (.int .i64 (s.putE p)) ∧ WvN w0 X w' g (s.put p) ∧ Mod (Free w0 X) w w' := by
  have hg := h.lt
  obtain ⟨F, D, h, hF, hD, hX⟩ := h
  have hlow : w0.heap.size ≤ w.heap.size := Nat.le_of_lt (Nat.lt_of_le_of_lt hg.2.1 hg.1)
  refine (wput_any h p A c hw hr).mono ?_
  rintro e w' ⟨F', D', he, hr', _, hF', _, hD', hm⟩
  refine ⟨he, ⟨F', D', hr', fun b hb => ?_, fun b hb hx => ?_, fun b hx => Nat.lt_of_lt_of_le (hX b hx) hm.size⟩, hm.mono (fun b hb _ => hF b hb)⟩
  · rcases hF' b hb with h1 | h1
    · exact hF b h1
    · exact ⟨by omega, fun hx => by have := hX b hx; omega⟩
  · rcases hD' b hb with h1 | h1
    · exact hD b h1 hx
    · have := hX b hx; omega
theorem wvn_take {w0 w : World} {X : Nat → Prop} {g : Nat} {s : Wv} (h : WvN w0 X w g s) (hl0 : 0 ≤ s.late) (hl1 : s.late ≤ 4611686018427387904) :
    Calls Try.prog 20 #[.pointer (some ⟨g, 0, none⟩)] w fun e w' => ∃ A c, e = .returned (.tuple #[(s.take.1.getD pz).val A c, .bool s.take.1.isSome]) ∧ WvN w0 X w' g s.take.2 ∧ Mod (Free w0 X) w w' := by
  have hg := h.lt
  obtain ⟨F, D, h, hF, hD, hX⟩ := h
  have hlow : w0.heap.size ≤ w.heap.size := Nat.le_of_lt (Nat.lt_of_le_of_lt hg.2.1 hg.1)
  refine (wtake_any h hl0 hl1).mono ?_
  rintro e w' ⟨F', A, c, he, hr', _, hF', hm, _⟩
  refine ⟨A, c, he, ⟨F', D, hr', fun b hb => ?_, hD, fun b hx => Nat.lt_of_lt_of_le (hX b hx) hm.size⟩, hm.mono (fun b hb _ => hF b hb)⟩
  rcases hF' b hb with h1 | h1
  · exact hF b h1
  · exact ⟨by omega, fun hx => by have := hX b hx; omega⟩
theorem wvn_end {w0 w : World} {X : Nat → Prop} {g : Nat} {s : Wv} (h : WvN w0 X w g s) (n : Int) :
    Calls Try.prog 26 #[.pointer (some ⟨g, 0, none⟩), .int .i64 n] w fun e w' => e = .returned (.tuple #[]) ∧ WvN w0 X w' g (s.stop n) ∧ Mod (Free w0 X) w w' := by
  obtain ⟨F, D, h, hF, hD, hX⟩ := h
  refine (wend_any h n).mono ?_
  rintro e w' ⟨he, hr', hm⟩
  exact ⟨he, ⟨F, D, hr', hF, hD, fun b hx => Nat.lt_of_lt_of_le (hX b hx) hm.size⟩, hm.mono (fun b hb _ => hF b hb)⟩
theorem wvn_waits {w0 w : World} {X : Nat → Prop} {g : Nat} {s : Wv} (h : WvN w0 X w g s) (n : Int) :
    Calls Try.prog 19 #[.pointer (some ⟨g, 0, none⟩), .int .i64 n] w fun e w' => e = .returned (.int .i64 (s.waits n)) ∧ w = w' := by
  obtain ⟨F, D, h, _⟩ := h
  exact wwaits_any h n
theorem wvn_late {w0 w : World} {X : Nat → Prop} {g : Nat} {s : Wv} (h : WvN w0 X w g s) :
    Calls Try.prog 28 #[.pointer (some ⟨g, 0, none⟩)] w fun e w' => e = .returned (.int .i64 s.late) ∧ w = w' := by
  obtain ⟨F, D, h, _⟩ := h
  exact wlate_any h
end Go.Proofs.Ytnflhogjonlnmaa
