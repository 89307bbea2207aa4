/- Tape.Pages. -/
import Derived.Test.YtdnkdjaokmibjaaTapePg
import Derived.Test.YtdnkdjaokmibjaaPgGood
set_option linter.unusedSimpArgs false
set_option linter.unusedVariables false
namespace Go.Proofs.Ytdnkdjaokmibjaa
open Go.RowKit

set_option maxHeartbeats 8000000 in
set_option maxRecDepth 100000 in
theorem tapepgs_any {w : World} {B g : Nat} (h : TapeB w B g) (n0 : Nat) (hn0 : n0 ≤ 1000) (m : Nat) (m1 : m ≤ 1000) :
    Calls Try.prog 9 #[.pointer (some ⟨g, 0, none⟩), .int .i64 (n0 : Int), .int .i64 (m : Int)] w fun e w' => ∃ v ps, e = .returned v ∧ ps.length ≤ m ∧ (∀ i (hi : i < ps.length), PgGood ps[i] (n0 + i)) ∧
      OwnG PgR 5 33 w' w.heap.size (fun b => w.heap.size ≤ b ∧ b < w'.heap.size) v ps ∧ TapeB w' B g ∧ w.grownBy w' (some g) := by
  have HNm := Lib.hid (next_any h ((m : Int) + 1) (by omega) (by omega))
  have HPg := Lib.hid (fun W (hW : TapeB W B g) (s : Int) => tapepage_any hW s)
  have hgl := h.lt
  have hBg := h.ge
  clear h
  go_enter Try.func9, Try.ntmps9
  go_wp2_with (first
    | (go_at_call 17; (with_reducible refine HNm.out.mono ?_); rintro e w2 ⟨N, rfl, hr2, hT2, hg2⟩))
  have hNm : N ≤ m := by omega
  clear hr2 HNm
  go_loopw [7, 8] (fun v i wr => ∃ (l : List Pg), l.length ≤ N ∧ i = .int .i64 ((N : Int) - (l.length : Int)) ∧ (∀ i (hi : i < l.length), PgGood l[i] (n0 + i)) ∧
    OwnG PgR 5 33 wr w.heap.size (fun b => w.heap.size ≤ b ∧ b < wr.heap.size) v l ∧ TapeB wr B g ∧ w.grownBy wr (some g)) (fun _ i _ => (intOf i).toNat)
  case atStart => exact ⟨[], Nat.zero_le _, by simp, fun i hi => absurd hi (by simp), OwnG.nil_ _ _ _ _ _ _, hT2, hg2⟩
  case round =>
    obtain ⟨l, hl, rfl, hpk, hown, hTr, hgw⟩ := hrel
    have hpk' := Lib.hid hpk
    clear hpk hT2 hg2
    have hszr := hgw.size
    by_cases hlt : l.length < N
    · have hp : decide (0 < (N : Int) - (l.length : Int)) = true := by simp; omega
      obtain ⟨A0, c0, rfl, hc0, _, hob0⟩ := hown.form PgR.good
      obtain ⟨k, hk⟩ : ∃ k, n0 + l.length = k := ⟨_, rfl⟩
      have q0 : IntKind.i64.wrap ((n0 : Int) + (l.length : Int)) = (k : Int) := by rw [IntWalk.i64_in _ (by omega)]; omega
      have HP := HPg.out _ hTr (k : Int)
      simp only [Pg.val] at HP
      replace HP := Lib.hid HP
      have ho := Lib.hid hown
      clear hown
      have hk' := Lib.hid hk
      clear hk
      go_wp2_with (first
        | (go_at_call 29; (with_reducible refine HP.out.mono ?_); rintro e w6 ⟨f1, f2, pb, A6, c6, rfl, hp1, hp2, hpB, ho6, hT6, hg6⟩; have hs6 := hg6.size; obtain ⟨_, hc6, hr6⟩ := ho6.rds; have hown6 := ho.out.keep PgR.good (M := (· = g)) (Mod.of_only hg6 (fun _ => rfl)) (fun b hb _ => (show ¬ b = g from (by have := hb.1; omega))) (fun b hb => (show ¬ b = g from (by have := hob0 b hb; omega))); have hrx : RdS w6 (fun b => wr.heap.size ≤ b ∧ b < w6.heap.size) .u8 A6 pb := hr6.weak (fun b hb _ => ⟨hb.1, hb.2.1⟩); have hgood := pgGood_of (k := k) (f1 := f1) (f2 := f2) (by have := hk'.out; omega) hp1 hp2 hpB; have hhg := Lib.hid hgood; clear hgood)
        | (at_builtin; (refine wpList_push_G (v := .slice A0 l.length c0) rfl (.tmp 17) (.tmp 24) _ rfl PgR.good w6 (.agg #[.int .i64 0, .bool false, .bool false, .bool false, .slice none 0 0]) 40 Try.underlying23 info_pg rfl (by omega) rfl hown6 (fun b => wr.heap.size ≤ b ∧ b < w6.heap.size) _ 1 [.int .i64 (k : Int), .bool f1, .bool f2, .bool false, .slice A6 pb.length c6] ⟨(k : Int), f1, f2, false, pb⟩ rfl rfl (show PgR _ _ _ _ from ⟨A6, c6, rfl, hc6, hrx, hhg.out.wf⟩) (fun b => w.heap.size ≤ b ∧ b ≤ w6.heap.size) (fun b hb _ => ⟨hb.1, by have := hb.2; omega⟩) (fun b hb _ => ⟨by have := hb.1; omega, by have := hb.2; omega⟩) (fun b hb h => by have := (hob0 b hb).2; have := h.1; omega) (fun b hb => hb.2) ⟨by omega, Nat.le_refl _⟩ (by omega) (by omega) ?_); intro v7 w7 ow7 hg7 hv7))
      have hg7' : w6.grownBy w7 (Value.ownBlock _) := only_trans (only_alloc (only_refl _ _) _) hg7
      have hM7 : Mod (fun b => w.heap.size ≤ b) w6 w7 := Mod.of_grown hg7' (fun x hx _ => (hob0 x hx).1)
      have hbe7 : Below w.heap.size w6 w7 := hM7.below (by omega) (fun b hb => hb)
      have hT7 := hT6.below hbe7 hgl
      have hgw7 := only_then_below (only_trans hgw hg6) hbe7 (Nat.le_refl _)
      have hs7 := hg7.size
      simp at hs7
      go_roundw
      case rel =>
        refine ⟨l ++ [⟨(k : Int), f1, f2, false, pb⟩], by rw [List.length_append]; simp; omega, by first | (rw [List.length_append]; go_num) | (simp; omega), fun i hi => ?_, ow7.weak PgR.good (fun b hb hl9 => ⟨hb.1, hl9⟩), hT7, hgw7⟩
        rw [List.length_append] at hi
        by_cases hil : i < l.length
        · rw [List.getElem_append_left hil]; exact hpk'.out i hil
        · have : i = l.length := by simp at hi; omega
          subst this
          rw [List.getElem_append_right (Nat.le_refl _)]
          simp only [Nat.sub_self, List.getElem_cons_zero, hk'.out]
          exact hhg.out
      case measure => simp [intOf]; omega
    · have hp : decide (0 < (N : Int) - (l.length : Int)) = false := by simp; omega
      go_wp2
      go_ret
      exact ⟨_, l, rfl, by omega, hpk'.out, hown, hTr, hgw⟩
end Go.Proofs.Ytdnkdjaokmibjaa
