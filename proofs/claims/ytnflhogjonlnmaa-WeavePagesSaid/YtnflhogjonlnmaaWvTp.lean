/- Streams of a tape weave. -/
import Derived.Test.YtnflhogjonlnmaaTapePk
import Derived.Test.YtnflhogjonlnmaaWvAllL
import Derived.Deep.DeepCutAuto
import Derived.Test.YtnflhogjonlnmaaWvSdL
import Derived.Test.YtnflhogjonlnmaaPicLast
set_option linter.unusedSimpArgs false
set_option linter.unusedVariables false
namespace Go.Proofs.Ytnflhogjonlnmaa
open Go.RowKit

theorem info_lps : (Try.prog.info? 49).map (fun i => (i.zero, i.size, i.bytes)) = some (some (.slice none 0 0), 1, 24) := by kernel_rfl
/-- What streams of a tape are. -/
structure TapeSts (most : Int) (ls : List (List Pk)) : Prop where
  each : ∀ i, i < ls.length → TapePks (i : Int) (ls.getD i []) ∧ ((ls.getD i []).length : Int) ≤ most
theorem TapeSts.snoc {most : Int} {ls : List (List Pk)} (h : TapeSts most ls) {l : List Pk} (h1 : TapePks (ls.length : Int) l) (h2 : (l.length : Int) ≤ most) : TapeSts most (ls ++ [l]) where
  each i hi := by
    rw [List.length_append, List.length_singleton] at hi
    by_cases hl : i < ls.length
    · rw [List.getD_eq_getElem?_getD, List.getElem?_append_left hl, ← List.getD_eq_getElem?_getD]; exact h.each i hl
    · have : i = ls.length := by omega
      subst this
      rw [List.getD_eq_getElem?_getD, List.getElem?_append_right (Nat.le_refl _), Nat.sub_self]
      exact ⟨h1, h2⟩

set_option maxHeartbeats 8000000 in
set_option maxRecDepth 100000 in
theorem tapests_any {w : World} {B g : Nat} (h : TapeB w B g) (m : Int) (m0 : 0 ≤ m) (m1 : m ≤ 1000) :
    Calls Try.prog 22 #[.pointer (some ⟨g, 0, none⟩), .int .i64 m] w fun e w' => ∃ v ls, e = .returned v ∧ 1 ≤ ls.length ∧ ls.length ≤ 4 ∧ TapeSts m ls ∧
      OwnG LpR 1 49 w' w.heap.size (fun b => w.heap.size ≤ b ∧ b < w'.heap.size) v ls ∧ TapeB w' B g ∧ w.grownBy w' (some g) := by
  have HN0 := Lib.hid (next_any h 4 (by omega) (by omega))
  have HP := Lib.hid (fun W (hW : TapeB W B g) (st : Nat) (hs : st ≤ 4) => tapepks_any hW (st : Int) (by unfold i64B; omega) m m0 m1)
  have hgl := h.lt
  have hBg := h.ge
  clear h
  go_enter Try.func22, Try.ntmps22
  go_wp2_with (first
    | (go_at_call 13; (with_reducible refine HN0.out.mono ?_); rintro e w1 ⟨r1, rfl, hr1, hT1, hg1⟩))
  obtain ⟨N, hN⟩ : ∃ N : Nat, N = 1 + r1 := ⟨_, rfl⟩
  have hNz : 1 + (r1 : Int) = (N : Int) := by omega
  have hN4 : 1 ≤ N ∧ N ≤ 4 := by omega
  rw [hNz]
  clear hN hNz hr1 HN0
  go_loopw [5, 6] (fun v i wr => ∃ ls : List (List Pk), ls.length ≤ N ∧ i = .int .i64 ((N : Int) - (ls.length : Int)) ∧ TapeSts m ls ∧
    OwnG LpR 1 49 wr w.heap.size (fun b => w.heap.size ≤ b ∧ b < wr.heap.size) v ls ∧ TapeB wr B g ∧ w.grownBy wr (some g)) (fun _ i _ => (intOf i).toNat)
  case atStart => exact ⟨[], Nat.zero_le _, by simp, ⟨fun i hi => absurd hi (by simp)⟩, OwnG.nil_ _ _ _ _ _ _, hT1, hg1⟩
  case round =>
    obtain ⟨ls, hl, rfl, hst, hown, hTr, hgw⟩ := hrel
    have HSt := Lib.hid hst
    clear hst hT1 hg1
    have hszr := hgw.size
    by_cases hlt : ls.length < N
    · have hp : decide (0 < (N : Int) - (ls.length : Int)) = true := by simp; omega
      obtain ⟨A0, c0, rfl, hc0, _, hob0⟩ := hown.form LpR.good
      have HPk := Lib.hid (HP.out _ hTr ls.length (by omega))
      go_wp2_with (first
        | (go_at_call 48; (with_reducible refine HPk.out.mono ?_); rintro e w5 ⟨v5, l5, rfl, hl5, hpk5, ho5, hT5, hg5⟩; have hs5 := hg5.size; obtain ⟨A5, c5, rfl, hc5, hr5⟩ := ho5.reads PkR.good (S := fun b => wr.heap.size ≤ b ∧ b < w5.heap.size) (fun b hb hlb => by rcases hb with hb | hb; exact hb; have := ho5.own_ge b hb; exact this); have hown5 := hown.keep LpR.good (Mod.of_only (M := (· = g)) hg5 (fun _ => rfl)) (fun b hb _ e => by have := hb.1; omega) (fun b hb e => by have := (hob0 b hb).1; omega); have hpr : LpR w5 (fun b => wr.heap.size ≤ b ∧ b < w5.heap.size) [.slice A5 l5.length c5] l5 := ⟨A5, c5, rfl, hc5, hr5, by omega⟩)
        | (at_builtin; (refine wpList_push_G (v := .slice A0 ls.length c0) rfl (.tmp 14) (.tmp 20) _ rfl LpR.good w5 (.slice none 0 0) 24 Try.underlying48 info_lps rfl (by omega) rfl hown5 (fun b => wr.heap.size ≤ b ∧ b < w5.heap.size) _ 1 [.slice A5 l5.length c5] l5 rfl rfl hpr (fun b => w.heap.size ≤ b ∧ b ≤ w5.heap.size) (fun b hb _ => ⟨hb.1, by have := hb.2; omega⟩) (fun b hb _ => ⟨by have := hb.1; omega, by have := hb.2; omega⟩) (fun b hb h => by have := (hob0 b hb).2; have := h.1; omega) (fun b hb => hb.2) ⟨by omega, Nat.le_refl _⟩ (by omega) (by omega) ?_); intro v6 w6 ow6 hg6 hv6))
      have hM6 : Mod (fun b => w.heap.size ≤ b) w5 w6 := ((Mod.refl _ _).alloc _).then_ (Mod.of_grown hg6 (fun x hx _ => (hob0 x hx).1))
      have hbe6 : Below w.heap.size w5 w6 := hM6.below (by omega) (fun b hb => hb)
      have hT6 := hT5.below hbe6 hgl
      have hgw6 := only_then_below (only_trans hgw hg5) hbe6 (Nat.le_refl _)
      have hs6 := hg6.size
      simp at hs6
      go_roundw
      case rel =>
        exact ⟨ls ++ [l5], by simp; omega, by simp; omega, HSt.out.snoc hpk5 hl5, ow6.weak LpR.good (fun b hb hl9 => ⟨hb.1, by have := hb.2; omega⟩), hT6, hgw6⟩
      case measure => simp [intOf]; omega
    · have hp : decide (0 < (N : Int) - (ls.length : Int)) = false := by simp; omega
      go_wp2
      go_ret
      exact ⟨_, ls, rfl, by omega, by omega, HSt.out, hown, hTr, hgw⟩
end Go.Proofs.Ytnflhogjonlnmaa

namespace Go.Proofs.Ytnflhogjonlnmaa
open Go.RowKit
theorem tape_lay {st : Int} {l : List Pk} (h0 : 0 ≤ st ∧ st < 4) (h : TapePks st l) : ∀ p ∈ l, layE p = 0 := fun p hp => by
  have h1 := h.st p hp
  have h2 := h.time p hp
  have h3 := h.data p hp
  rw [layE, if_pos (by simp [Pk.head]; omega), if_neg (by omega)]
theorem tape_weave {m : Int} {ls : List (List Pk)} (h : TapeSts m ls) (h1 : 1 ≤ ls.length) (h4 : ls.length ≤ 4) : weaveE ls = 0 := by
  rw [weaveE, if_neg, if_neg]
  · intro hn
    refine hn (fun i hi j hj => ?_)
    have hp := ((h.each i hi).1).order
    rw [pk_get (by omega), pk_get (by omega)]
    exact List.pairwise_iff_getElem.1 hp j (j + 1) (by omega) (by omega) (by omega)
  · rintro (h9 | h9 | h9)
    · omega
    · omega
    · refine h9 (fun i hi j hj => ?_)
      have hp := (h.each i hi).1
      rw [pk_get hj]
      exact ⟨tape_lay (by omega) hp _ (List.getElem_mem hj), hp.st _ (List.getElem_mem hj)⟩
theorem total_le_ {B : Nat} : ∀ (ls : List (List Pk)), (∀ x ∈ ls, x.length ≤ B) → total ls ≤ ls.length * B
  | [], _ => by simp [total]
  | x :: ls, h => by
    have h1 := total_le_ ls (fun y hy => h y (List.mem_cons_of_mem _ hy))
    have h2 := h x (List.mem_cons_self ..)
    simp only [total, List.map_cons, List.sum_cons, List.length_cons, Nat.succ_mul] at h1 ⊢
    omega
theorem total_small {m : Nat} {ls : List (List Pk)} (h : TapeSts (m : Int) ls) (h4 : ls.length ≤ 4) : total ls ≤ 4 * m := by
  have h1 := total_le_ (B := m) ls (fun x hx => by
    obtain ⟨j, hj, rfl⟩ := List.mem_iff_getElem.1 hx
    have := (h.each j hj).2
    rw [getD_rs hj] at this
    omega)
  have h2 : ls.length * m ≤ 4 * m := Nat.mul_le_mul_right _ h4
  omega
theorem ic_setA (l : List Int) (j : Nat) (x : Int) : (ic .i64 l).toArray.setIfInBounds j (.int .i64 x) = (ic .i64 (l.set j x)).toArray := by
  simp [ic_set]
theorem info_int : (Try.prog.info? 3).map (fun i => (i.zero, i.size, i.bytes)) = some (some (.int .i64 0), 1, 8) := by kernel_rfl
/-- numbers ks integers -/
def nc (ks : List Nat) : List Int := ks.map fun (n : Nat) => (n : Int)
theorem nc_len (ks : List Nat) : (nc ks).length = ks.length := by simp [nc]
theorem nc_at (ks : List Nat) (j : Nat) : (nc ks).getD j 0 = ((ks.getD j 0 : Nat) : Int) := by
  simp only [nc, List.getD_eq_getElem?_getD, List.getElem?_map]
  cases ks[j]? <;> rfl
theorem nc_set (ks : List Nat) (j k : Nat) : (nc ks).set j (k : Int) = nc (ks.set j k) := by simp [nc, List.map_set]
theorem nc_rep (n : Nat) : Array.replicate n (Value.int .i64 0) = (ic .i64 (nc (List.replicate n 0))).toArray := by simp [ic, nc]
theorem nc_blk {w : World} {g : Nat} {t : TypeId} {ks : List Nat} (h : Blk w g t (ic .i64 (nc ks)).toArray) {j : Nat} (hj : j < ks.length) : w.cell? ⟨g, j, none⟩ = some (.int .i64 ((ks.getD j 0 : Nat) : Int)) := by
  rw [← nc_at]; exact Blk.lit_at h (by rw [nc_len]; exact hj)
/-- a number in a cell -/
def cellN (w : World) (a : Addr) : Nat := match w.cell? a with | some (.int _ n) => n.toNat | _ => 0
theorem cellN_is {w : World} {a : Addr} {n : Nat} (h : w.cell? a = some (.int .i64 (n : Int))) : cellN w a = n := by rw [cellN, h]; rfl
def sliceLen : Value → Nat
  | .slice _ n _ => n
  | _ => 0
end Go.Proofs.Ytnflhogjonlnmaa
