/- Tape.Streams: packets of some streams. -/
import Derived.Test.YtnflhogjonlnmaaTapePk
import Derived.Test.YtnflhogjonlnmaaWvAllL
import Derived.Deep.DeepCutAuto
set_option linter.unusedSimpArgs false
set_option linter.unusedVariables false
namespace Go.Proofs.Ytnflhogjonlnmaa
open Go.RowKit

theorem info_lps : (Try.prog.info? 49).map (fun i => (i.zero, i.size, i.bytes)) = some (some (.slice none 0 0), 1, 24) := by kernel_rfl
/-- What streams of a tape are. -/
structure TapeSts (most : Int) (ls : List (List Pk)) : Prop where
  each : ∀ i, i < ls.length → TapePks (i : Int) (ls.getD i []) ∧ ((ls.getD i []).length : Int) ≤ most
theorem TapeSts.snoc {most : Int} {ls : List (List Pk)} (h : TapeSts most ls) {l : List Pk} (h1 : TapePks (ls.length : Int) l) (h2 : (l.length : Int) ≤ most) : TapeSts most (ls ++ [l]) where
  each i hi := by
    rw [List.length_append, List.length_singleton] at hi
    by_cases hl : i < ls.length
    · rw [List.getD_eq_getElem?_getD, List.getElem?_append_left hl, ← List.getD_eq_getElem?_getD]; exact h.each i hl
    · have : i = ls.length := by omega
      subst this
      rw [List.getD_eq_getElem?_getD, List.getElem?_append_right (Nat.le_refl _), Nat.sub_self]
      exact ⟨h1, h2⟩

set_option maxHeartbeats 8000000 in
set_option maxRecDepth 100000 in
theorem tapests_any {w : World} {B g : Nat} (h : TapeB w B g) (m : Int) (m0 : 0 ≤ m) (m1 : m ≤ 1000) :
    Calls Try.prog 22 #[.pointer (some ⟨g, 0, none⟩), .int .i64 m] w fun e w' => ∃ v ls, e = .returned v ∧ 1 ≤ ls.length ∧ ls.length ≤ 4 ∧ TapeSts m ls ∧
      OwnG LpR 1 49 w' w.heap.size (fun b => w.heap.size ≤ b ∧ b < w'.heap.size) v ls ∧ TapeB w' B g ∧ w.grownBy w' (some g) := by
  have HN0 := Lib.hid (next_any h 4 (by omega) (by omega))
  have HP := Lib.hid (fun W (hW : TapeB W B g) (st : Nat) (hs : st ≤ 4) => tapepks_any hW (st : Int) (by unfold i64B; omega) m m0 m1)
  have hgl := h.lt
  have hBg := h.ge
  clear h
  go_enter Try.func22, Try.ntmps22
  go_wp2_with (first
    | (go_at_call 13; (with_reducible refine HN0.out.mono ?_); rintro e w1 ⟨r1, rfl, hr1, hT1, hg1⟩))
  obtain ⟨N, hN⟩ : ∃ N : Nat, N = 1 + r1 := ⟨_, rfl⟩
  have hNz : 1 + (r1 : Int) = (N : Int) := by omega
  have hN4 : 1 ≤ N ∧ N ≤ 4 := by omega
  rw [hNz]
  clear hN hNz hr1 HN0
  go_loopw [5, 6] (fun v i wr => ∃ ls : List (List Pk), ls.length ≤ N ∧ i = .int .i64 ((N : Int) - (ls.length : Int)) ∧ TapeSts m ls ∧
    OwnG LpR 1 49 wr w.heap.size (fun b => w.heap.size ≤ b ∧ b < wr.heap.size) v ls ∧ TapeB wr B g ∧ w.grownBy wr (some g)) (fun _ i _ => (intOf i).toNat)
  case atStart => exact ⟨[], Nat.zero_le _, by simp, ⟨fun i hi => absurd hi (by simp)⟩, OwnG.nil_ _ _ _ _ _ _, hT1, hg1⟩
  case round =>
    obtain ⟨ls, hl, rfl, hst, hown, hTr, hgw⟩ := hrel
    have HSt := Lib.hid hst
    clear hst hT1 hg1
    have hszr := hgw.size
    by_cases hlt : ls.length < N
    · have hp : decide (0 < (N : Int) - (ls.length : Int)) = true := by simp; omega
      obtain ⟨A0, c0, rfl, hc0, _, hob0⟩ := hown.form LpR.good
      have HPk := Lib.hid (HP.out _ hTr ls.length (by omega))
      go_wp2_with (first
        | (go_at_call 48; (with_reducible refine HPk.out.mono ?_); rintro e w5 ⟨v5, l5, rfl, hl5, hpk5, ho5, hT5, hg5⟩; have hs5 := hg5.size; obtain ⟨A5, c5, rfl, hc5, hr5⟩ := ho5.reads PkR.good (S := fun b => wr.heap.size ≤ b ∧ b < w5.heap.size) (fun b hb hlb => by rcases hb with hb | hb; exact hb; have := ho5.own_ge b hb; exact this); have hown5 := hown.keep LpR.good (Mod.of_only (M := (· = g)) hg5 (fun _ => rfl)) (fun b hb _ e => by have := hb.1; omega) (fun b hb e => by have := (hob0 b hb).1; omega); have hpr : LpR w5 (fun b => wr.heap.size ≤ b ∧ b < w5.heap.size) [.slice A5 l5.length c5] l5 := ⟨A5, c5, rfl, hc5, hr5, by omega⟩)
        | (at_builtin; (refine wpList_push_G (v := .slice A0 ls.length c0) rfl (.tmp 14) (.tmp 20) _ rfl LpR.good w5 (.slice none 0 0) 24 Try.underlying48 info_lps rfl (by omega) rfl hown5 (fun b => wr.heap.size ≤ b ∧ b < w5.heap.size) _ 1 [.slice A5 l5.length c5] l5 rfl rfl hpr (fun b => w.heap.size ≤ b ∧ b ≤ w5.heap.size) (fun b hb _ => ⟨hb.1, by have := hb.2; omega⟩) (fun b hb _ => ⟨by have := hb.1; omega, by have := hb.2; omega⟩) (fun b hb h => by have := (hob0 b hb).2; have := h.1; omega) (fun b hb => hb.2) ⟨by omega, Nat.le_refl _⟩ (by omega) (by omega) ?_); intro v6 w6 ow6 hg6 hv6))
      have hM6 : Mod (fun b => w.heap.size ≤ b) w5 w6 := ((Mod.refl _ _).alloc _).then_ (Mod.of_grown hg6 (fun x hx _ => (hob0 x hx).1))
      have hbe6 : Below w.heap.size w5 w6 := hM6.below (by omega) (fun b hb => hb)
      have hT6 := hT5.below hbe6 hgl
      have hgw6 := only_then_below (only_trans hgw hg5) hbe6 (Nat.le_refl _)
      have hs6 := hg6.size
      simp at hs6
      go_roundw
      case rel =>
        exact ⟨ls ++ [l5], by simp; omega, by simp; omega, HSt.out.snoc hpk5 hl5, ow6.weak LpR.good (fun b hb hl9 => ⟨hb.1, by have := hb.2; omega⟩), hT6, hgw6⟩
      case measure => simp [intOf]; omega
    · have hp : decide (0 < (N : Int) - (ls.length : Int)) = false := by simp; omega
      go_wp2
      go_ret
      exact ⟨_, ls, rfl, by omega, by omega, HSt.out, hown, hTr, hgw⟩
end Go.Proofs.Ytnflhogjonlnmaa
