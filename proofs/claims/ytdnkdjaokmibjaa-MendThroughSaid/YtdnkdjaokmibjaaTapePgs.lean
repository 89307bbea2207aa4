/- Tape.Pages. -/
import Derived.Test.YtdnkdjaokmibjaaTapeBy
import Derived.Test.YtdnkdjaokmibjaaOwnLit
import Derived.Test.YtdnkdjaokmibjaaPkVal
import Derived.Test.YtdnkdjaokmibjaaPgGood
set_option linter.unusedSimpArgs false
set_option linter.unusedVariables false
namespace Go.Proofs.Ytdnkdjaokmibjaa
open Go.RowKit

set_option maxHeartbeats 4000000 in
set_option maxRecDepth 100000 in
theorem tapepage_any {w : World} {B g : Nat} (h : TapeB w B g) (seq : Int) :
    Calls Try.prog 29 #[.pointer (some ⟨g, 0, none⟩), .int .i64 seq] w fun e w' => ∃ (f l : Bool) (b : List Int) (A : Option Addr) (c : Nat), e = .returned (Pg.val ⟨seq, f, l, false, b⟩ A c) ∧ 1 ≤ b.length ∧ b.length ≤ 252 ∧ byteB b ∧
      OwnI w' w.heap.size 5 .u8 (.slice A b.length c) b ∧ TapeB w' B g ∧ w.grownBy w' (some g) := by
  have HN1 := Lib.hid (fun W (hW : TapeB W B g) => next_any hW 2 (by omega) (by omega))
  have HN2 := Lib.hid (fun W (hW : TapeB W B g) => next_any hW 256 (by omega) (by omega))
  have HN3 := Lib.hid (fun W (hW : TapeB W B g) => next_any hW 3 (by omega) (by omega))
  have HB1 := Lib.hid (fun W (hW : TapeB W B g) m m0 m1 => tapebytes_any hW m m0 m1)
  have HA : Hid (∀ x ∈ ([5, 251, 60] : List Int), 0 ≤ x ∧ x ≤ 251) := by rw [Hid]; decide
  have HT := Lib.hid h
  have hgl := h.lt
  have hBg := h.ge
  clear h
  go_enter Try.func29, Try.ntmps29
  go_wp2_with fail
  have kb := Blk.new w 33 #[.int .i64 0, .bool false, .bool false, .bool false, .slice none 0 0]
  have hT0 := HT.out.alloc (.cells #[.int .i64 0, .bool false, .bool false, .bool false, .slice none 0 0] 33)
  have hga := only_alloc (only_refl w (some g)) (.cells #[.int .i64 0, .bool false, .bool false, .bool false, .slice none 0 0] 33)
  generalize w.alloc (.cells #[.int .i64 0, .bool false, .bool false, .bool false, .slice none 0 0] 33) = wb at *
  have hlb := kb.lt
  go_wp2_with (first
    | (go_at_call 17; (with_reducible refine (HN1.out _ hT0).mono ?_); rintro e w1 ⟨r1, rfl, hr1, hT1, hg1⟩)
    | (go_at_call 17; (with_reducible refine (HN1.out _ hT1).mono ?_); rintro e w2 ⟨r2, rfl, hr2, hT2, hg2⟩)
    | (go_at_call 17; (with_reducible refine (HN2.out _ hT2).mono ?_); rintro e w3 ⟨r3, rfl, hr3, hT3, hg3⟩; have hg03 := only_trans (only_trans hg1 hg2) hg3; have hs3 := hg03.size; have hTa := (hT3.alloc (.cells #[.int .u8 (r3 : Int)] 5)).alloc (.cells #[.int .i64 5, .int .i64 251, .int .i64 60] 3); have ow3 := ((OwnI.lit w3 (w.heap.size + 1) 5 .u8 [(r3 : Int)] #[.int .u8 (r3 : Int)] rfl (by omega) (by simp [maxLen])).alloc (.cells #[.int .i64 5, .int .i64 251, .int .i64 60] 3)))
    | (go_at_call 17; (with_reducible refine (HN3.out _ hTa).mono ?_); rintro e w4 ⟨r4, rfl, hr4, hT4, hg4⟩; have ow4 := ow3.only hg4 (by omega); have hb4 := (Blk.new (w3.alloc (.cells #[.int .u8 (r3 : Int)] 5)) 3 #[.int .i64 5, .int .i64 251, .int .i64 60]).grown hg4 (by simp; omega); have hx := Blk.lit_at (k := .i64) (l := [5, 251, 60]) (by exact hb4) (r := r4) (by simp; omega); have hm := HA.out _ (getD_mem (l := [5, 251, 60]) (r := r4) (by simp; omega)); generalize ([5, 251, 60] : List Int).getD r4 0 = x at *; rw [show (w3.alloc (.cells #[.int .u8 (r3 : Int)] 5)).heap.size = w3.heap.size + 1 by simp] at hx; have hm0 := hm.1; have hm1 := hm.2; have hlt4 := hT4.lt)
    | (go_at_call 44; (with_reducible refine (HB1.out _ hT4 x (by omega) (by omega)).mono ?_); rintro e w5 ⟨v5, l5, rfl, hl5, hby5, ho5, hT5, hg5⟩; have ow5 := ow4.only hg5 (by omega); have hs4 := hg4.size; have hs5 := hg5.size; obtain ⟨A5, c5, rfl, hc5, hr5, _⟩ := ho5.form)
    | (at_builtin; go_must (refine wpList_append_int2 _ rfl (.tmp 15) (.tmp 22) _ rfl w5 (w.heap.size + 1) (w.heap.size + 1) 5 .u8 1 Try.underlying31 info_u8 _ [(r3 : Int)] (by rfl) ow5 _ A5 _ c5 l5 (by rfl) rfl hr5 (by simp; omega) (by omega) (Below.refl _ _) (Nat.le_refl _) (by simp at hs4; omega) ?_); intro v6 w6 ow6 hb6 hg6 hv6; obtain ⟨A6, c6, rfl, hc6, hr6, _⟩ := ow6.form; have hs4' : w3.heap.size + 2 ≤ w4.heap.size := (by simp at hs4; omega); have kr := (((kb.grown hg03 (by simp; omega)).alloc (.cells #[.int .u8 (r3 : Int)] 5)).alloc (.cells #[.int .i64 5, .int .i64 251, .int .i64 60] 3)); have kr6 := ((kr.grown hg4 (by simp; omega)).grown hg5 (by simp; omega)).below hb6 (Nat.lt_succ_self _); have z0 := kr6.cell 0; have z1 := kr6.cell 1; have z2 := kr6.cell 2; have z3 := kr6.cell 3; have z4 := kr6.cell 4; have y0 := kr6.frozen 0; have y1 := kr6.frozen 1; have y2 := kr6.frozen 2; have y3 := kr6.frozen 3; have y4 := kr6.frozen 4))
  have hT6 := hT5.below hb6 (by omega)
  have hgz := only_then_below (only_trans (only_trans (only_alloc (only_alloc (only_trans hga hg03) (.cells #[.int .u8 (r3 : Int)] 5)) (.cells #[.int .i64 5, .int .i64 251, .int .i64 60] 3)) hg4) hg5) hb6 (by omega)
  exact bodyPost_ret (v := Pg.val ⟨seq, (r1 : Int) == 0, (r2 : Int) == 0, false, [(r3 : Int)] ++ l5⟩ A6 c6) (by simp [results, Try.results29, go_sem, z0, z1, z2, z3, z4]) rfl
    ⟨_, _, _, A6, c6, rfl, by simp, by simp; omega, fun y hy => (by rcases List.mem_append.1 hy with hy | hy; · rw [List.mem_singleton] at hy; omega
                                                                    · exact hby5 y hy), OwnI.base_ (base := w.heap.size + 1) (by repeat (first | with_reducible exact ow6 | refine own_put ?_ (Nat.lt_succ_self _))) (by omega), by repeat (first | with_reducible exact hT6 | refine tapeB_put ?_ (by omega) (by omega)), by repeat (first | with_reducible exact hgz | refine only_put ?_ (Nat.le_refl _))⟩
end Go.Proofs.Ytdnkdjaokmibjaa

namespace Go.Proofs.Ytdnkdjaokmibjaa
open Go.RowKit

set_option maxHeartbeats 8000000 in
set_option maxRecDepth 100000 in
theorem tapepgs_any {w : World} {B g : Nat} (h : TapeB w B g) (n0 : Nat) (hn0 : n0 ≤ 1000) (m : Nat) (m1 : m ≤ 1000) :
    Calls Try.prog 9 #[.pointer (some ⟨g, 0, none⟩), .int .i64 (n0 : Int), .int .i64 (m : Int)] w fun e w' => ∃ v ps, e = .returned v ∧ ps.length ≤ m ∧ (∀ i (hi : i < ps.length), PgGood ps[i] (n0 + i)) ∧
      OwnG PgR 5 33 w' w.heap.size (fun b => w.heap.size ≤ b ∧ b < w'.heap.size) v ps ∧ TapeB w' B g ∧ w.grownBy w' (some g) := by
  have HNm := Lib.hid (next_any h ((m : Int) + 1) (by omega) (by omega))
  have HPg := Lib.hid (fun W (hW : TapeB W B g) (s : Int) => tapepage_any hW s)
  have hgl := h.lt
  have hBg := h.ge
  clear h
  go_enter Try.func9, Try.ntmps9
  go_wp2_with (first
    | (go_at_call 17; (with_reducible refine HNm.out.mono ?_); rintro e w2 ⟨N, rfl, hr2, hT2, hg2⟩))
  have hNm : N ≤ m := by omega
  clear hr2 HNm
  go_loopw [7, 8] (fun v i wr => ∃ (l : List Pg), l.length ≤ N ∧ i = .int .i64 ((N : Int) - (l.length : Int)) ∧ (∀ i (hi : i < l.length), PgGood l[i] (n0 + i)) ∧
    OwnG PgR 5 33 wr w.heap.size (fun b => w.heap.size ≤ b ∧ b < wr.heap.size) v l ∧ TapeB wr B g ∧ w.grownBy wr (some g)) (fun _ i _ => (intOf i).toNat)
  case atStart => exact ⟨[], Nat.zero_le _, by simp, fun i hi => absurd hi (by simp), OwnG.nil_ _ _ _ _ _ _, hT2, hg2⟩
  case round =>
    obtain ⟨l, hl, rfl, hpk, hown, hTr, hgw⟩ := hrel
    have hpk' := Lib.hid hpk
    clear hpk hT2 hg2
    have hszr := hgw.size
    by_cases hlt : l.length < N
    · have hp : decide (0 < (N : Int) - (l.length : Int)) = true := by simp; omega
      obtain ⟨A0, c0, rfl, hc0, _, hob0⟩ := hown.form PgR.good
      obtain ⟨k, hk⟩ : ∃ k, n0 + l.length = k := ⟨_, rfl⟩
      have q0 : IntKind.i64.wrap ((n0 : Int) + (l.length : Int)) = (k : Int) := by rw [IntWalk.i64_in _ (by omega)]; omega
      have HP := HPg.out _ hTr (k : Int)
      simp only [Pg.val] at HP
      replace HP := Lib.hid HP
      have ho := Lib.hid hown
      clear hown
      have hk' := Lib.hid hk
      clear hk
      go_wp2_with (first
        | (go_at_call 29; (with_reducible refine HP.out.mono ?_); rintro e w6 ⟨f1, f2, pb, A6, c6, rfl, hp1, hp2, hpB, ho6, hT6, hg6⟩; have hs6 := hg6.size; obtain ⟨_, hc6, hr6⟩ := ho6.rds; have hown6 := ho.out.keep PgR.good (M := (· = g)) (Mod.of_only hg6 (fun _ => rfl)) (fun b hb _ => (show ¬ b = g from (by have := hb.1; omega))) (fun b hb => (show ¬ b = g from (by have := hob0 b hb; omega))); have hrx : RdS w6 (fun b => wr.heap.size ≤ b ∧ b < w6.heap.size) .u8 A6 pb := hr6.weak (fun b hb _ => ⟨hb.1, hb.2.1⟩); have hgood := pgGood_of (k := k) (f1 := f1) (f2 := f2) (by have := hk'.out; omega) hp1 hp2 hpB; have hhg := Lib.hid hgood; clear hgood)
        | (at_builtin; (refine wpList_push_G (v := .slice A0 l.length c0) rfl (.tmp 17) (.tmp 24) _ rfl PgR.good w6 (.agg #[.int .i64 0, .bool false, .bool false, .bool false, .slice none 0 0]) 40 Try.underlying23 info_pg rfl (by omega) rfl hown6 (fun b => wr.heap.size ≤ b ∧ b < w6.heap.size) _ 1 [.int .i64 (k : Int), .bool f1, .bool f2, .bool false, .slice A6 pb.length c6] ⟨(k : Int), f1, f2, false, pb⟩ rfl rfl (show PgR _ _ _ _ from ⟨A6, c6, rfl, hc6, hrx, hhg.out.wf⟩) (fun b => w.heap.size ≤ b ∧ b ≤ w6.heap.size) (fun b hb _ => ⟨hb.1, by have := hb.2; omega⟩) (fun b hb _ => ⟨by have := hb.1; omega, by have := hb.2; omega⟩) (fun b hb h => by have := (hob0 b hb).2; have := h.1; omega) (fun b hb => hb.2) ⟨by omega, Nat.le_refl _⟩ (by omega) (by omega) ?_); intro v7 w7 ow7 hg7 hv7))
      have hg7' : w6.grownBy w7 (Value.ownBlock _) := only_trans (only_alloc (only_refl _ _) _) hg7
      have hM7 : Mod (fun b => w.heap.size ≤ b) w6 w7 := Mod.of_grown hg7' (fun x hx _ => (hob0 x hx).1)
      have hbe7 : Below w.heap.size w6 w7 := hM7.below (by omega) (fun b hb => hb)
      have hT7 := hT6.below hbe7 hgl
      have hgw7 := only_then_below (only_trans hgw hg6) hbe7 (Nat.le_refl _)
      have hs7 := hg7.size
      simp at hs7
      go_roundw
      case rel =>
        refine ⟨l ++ [⟨(k : Int), f1, f2, false, pb⟩], by rw [List.length_append]; simp; omega, by first | (rw [List.length_append]; go_num) | (simp; omega), fun i hi => ?_, ow7.weak PgR.good (fun b hb hl9 => ⟨hb.1, hl9⟩), hT7, hgw7⟩
        rw [List.length_append] at hi
        by_cases hil : i < l.length
        · rw [List.getElem_append_left hil]; exact hpk'.out i hil
        · have : i = l.length := by simp at hi; omega
          subst this
          rw [List.getElem_append_right (Nat.le_refl _)]
          simp only [Nat.sub_self, List.getElem_cons_zero, hk'.out]
          exact hhg.out
      case measure => simp [intOf]; omega
    · have hp : decide (0 < (N : Int) - (l.length : Int)) = false := by simp; omega
      go_wp2
      go_ret
      exact ⟨_, l, rfl, by omega, hpk'.out, hown, hTr, hgw⟩
end Go.Proofs.Ytdnkdjaokmibjaa
