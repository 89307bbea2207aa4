/- drawn of chapter 34: marks of a tape. -/
import Derived.Test.YtaimjlnhdobgeaaMkL
import Derived.Test.YtaimjlnhdobgeaaTapeBy
import Derived.Deep.DeepCutAuto
set_option linter.unusedSimpArgs false
set_option linter.unusedVariables false
namespace Go.Proofs.Ytaimjlnhdobgeaa
open Go.RowKit

theorem shl_bd {a b : Nat} (ha : (a : Int) < 1073741824) (hb : (b : Int) < 21) : 0 ≤ wrap64 ((a : Int) * 2 ^ b) ∧ wrap64 ((a : Int) * 2 ^ b) ≤ 1125899906842624 := by
  have h1 : 2 ^ b ≤ 2 ^ 20 := Nat.pow_le_pow_right (by omega) (by omega)
  have h2 : a * 2 ^ b ≤ 1073741823 * 2 ^ 20 := Nat.mul_le_mul (by omega) h1
  have h3 : (a : Int) * 2 ^ b = ((a * 2 ^ b : Nat) : Int) := by simp
  rw [h3, IntWalk.wrap64_in _ (by omega)]
  omega
theorem mkAll_snoc {l : List Mk} {m : Mk} (h : mkAll l = true) (hm : markOk m = true) : mkAll (l ++ [m]) = true := by
  rw [mkAll, List.all_append]; simp [hm]; simpa [mkAll] using h

set_option maxHeartbeats 4000000 in
set_option maxRecDepth 100000 in
theorem drawn_any {w : World} {B g : Nat} (h : TapeB w B g) :
    Calls Try.prog 6 #[.pointer (some ⟨g, 0, none⟩)] w fun e w' => ∃ v l, e = .returned v ∧ l.length ≤ 19 ∧ mkAll l = true ∧
      OwnG MkR 3 49 w' w.heap.size (fun b => w.heap.size ≤ b ∧ b < w'.heap.size) v l ∧ TapeB w' B g ∧ w.grownBy w' (some g) := by
  have HN := Lib.hid (fun W (hW : TapeB W B g) n n0 n1 => next_any hW n n0 n1)
  have HT := Lib.hid h
  have hgl := h.lt
  have hBg := h.ge
  clear h
  go_enter Try.func6, Try.ntmps6
  go_wp2_with (first
    | (go_at_call 19; (with_reducible refine (HN.out _ HT.out 20 (by omega) (by omega)).mono ?_); rintro e w1 ⟨r1, rfl, hr1, hT1, hg1⟩))
  obtain ⟨N, hN⟩ : ∃ N : Nat, N = r1 := ⟨_, rfl⟩
  rw [← hN]
  have hN19 : N ≤ 19 := by omega
  clear hN hr1
  go_loopw [3, 4] (fun v i wr => ∃ l : List Mk, l.length ≤ N ∧ i = .int .i64 ((N : Int) - (l.length : Int)) ∧ mkAll l = true ∧ OwnG MkR 3 49 wr w.heap.size (fun b => w.heap.size ≤ b ∧ b < wr.heap.size) v l ∧ TapeB wr B g ∧ w.grownBy wr (some g)) (fun _ i _ => (intOf i).toNat)
  case atStart => exact ⟨[], Nat.zero_le _, by simp, rfl, OwnG.nil_ _ _ _ _ _ _, hT1, hg1⟩
  case round =>
    obtain ⟨l, hl, rfl, hall, hown, hTr, hgw⟩ := hrel
    have HAll := Lib.hid hall
    clear hall hT1 hg1
    have hszr := hgw.size
    by_cases hlt : l.length < N
    · have hp : decide (0 < (N : Int) - (l.length : Int)) = true := by simp; omega
      obtain ⟨A0, c0, rfl, hc0, _, hob0⟩ := hown.form MkR.good
      have hown' := hown
      go_wp2_with (first
        | (go_at_call 19; (with_reducible refine (HN.out _ hTr 4 (by omega) (by omega)).mono ?_); rintro e w2 ⟨r2, rfl, hr2, hT2, hg2⟩)
        | (go_at_call 19; (with_reducible refine (HN.out _ hT2 1073741824 (by omega) (by omega)).mono ?_); rintro e w3 ⟨r3, rfl, hr3, hT3, hg3⟩)
        | (go_at_call 19; (with_reducible refine (HN.out _ hT3 21 (by omega) (by omega)).mono ?_); rintro e w4 ⟨r4, rfl, hr4, hT4, hg4⟩)
        | (go_at_call 19; (with_reducible refine (HN.out _ hT4 1073741824 (by omega) (by omega)).mono ?_); rintro e w5 ⟨r5, rfl, hr5, hT5, hg5⟩; have hTb := shl_bd hr3 hr4; generalize wrap64 ((r3 : Int) * 2 ^ r4) = T at *; have hg05 := only_trans (only_trans (only_trans hg2 hg3) hg4) hg5; have hown5 := hown'.keep MkR.good (Mod.of_only (M := (· = g)) hg05 (fun _ => rfl)) (fun b hb _ => (show ¬ b = g by have := hb.1; omega)) (fun b hb => (show ¬ b = g by have := hob0 b hb; omega)); have hs05 := hg05.size)
        | (at_builtin; (refine wpList_push_G (v := .slice A0 l.length c0) rfl (.tmp 11) (.tmp 23) _ rfl MkR.good w5 (.agg #[.int .i64 0, .int .i64 0, .int .i64 0]) 24 Try.underlying23 info_mk rfl (by omega) rfl hown5 (fun _ => False) _ 1 [.int .i64 (r2 : Int), .int .i64 T, .int .i64 (r5 : Int)] ⟨r2, T, r5⟩ rfl rfl ⟨rfl, ⟨⟨by simp only; omega, by simp only; omega⟩, ⟨by simp only; omega, by simp only; omega⟩, ⟨by simp only; omega, by simp only; omega⟩⟩⟩ (fun b => w.heap.size ≤ b ∧ b ≤ w5.heap.size) (fun b hb _ => ⟨hb.1, by have := hb.2; omega⟩) (fun b hb _ => hb.elim) (fun b hb h => h) (fun b hb => hb.2) ⟨by omega, Nat.le_refl _⟩ (by omega) (by omega) ?_); intro v6 w6 ow6 hg6 hv6))
      have hM6 : Mod (fun b => w.heap.size ≤ b) w5 w6 := ((Mod.refl _ _).alloc _).then_ (Mod.of_grown hg6 (fun x hx _ => (hob0 x hx).1))
      have hb6 : Below w.heap.size w5 w6 := hM6.below (by omega) (fun b hb => hb)
      have hT6 := hT5.below hb6 hgl
      have hgw6 := only_then_below (only_trans hgw hg05) hb6 (Nat.le_refl _)
      go_roundw
      case rel => exact ⟨l ++ [⟨r2, T, r5⟩], by simp; omega, by simp; omega, mkAll_snoc HAll.out (by simp [markOk]; omega), ow6.weak MkR.good (fun b hb hl9 => ⟨hb.1, hl9⟩), hT6, hgw6⟩
      case measure => simp [intOf]; omega
    · have hp : decide (0 < (N : Int) - (l.length : Int)) = false := by simp; omega
      go_wp2
      go_ret
      exact ⟨_, l, rfl, by omega, HAll.out, hown, hTr, hgw⟩
end Go.Proofs.Ytaimjlnhdobgeaa
