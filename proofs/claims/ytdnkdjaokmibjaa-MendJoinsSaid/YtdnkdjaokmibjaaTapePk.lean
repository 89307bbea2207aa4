/- Tape.Packets: packets of a stream that may be. -/
import Derived.Test.YtdnkdjaokmibjaaTapeBy
import Derived.Test.YtdnkdjaokmibjaaOwnLit
import Derived.Test.YtdnkdjaokmibjaaPkVal
import Derived.Deep.DeepCutAuto
set_option linter.unusedSimpArgs false
set_option linter.unusedVariables false
namespace Go.Proofs.Ytdnkdjaokmibjaa
open Go.RowKit

/-- What packets of a tape are. -/
structure TapePks (st : Int) (l : List Pk) : Prop where
  st : ∀ p ∈ l, p.st = st
  time : ∀ p ∈ l, 0 ≤ p.at_ ∧ p.at_ ≤ 1125899906842624 ∧ 0 ≤ p.ln ∧ p.ln < 50
  data : ∀ p ∈ l, p.data.length ≤ 900 ∧ byteB p.data
  order : l.Pairwise (fun p q => p.at_ ≤ q.at_)
theorem TapePks.snoc {st : Int} {l : List Pk} (h : TapePks st l) {q : Pk} (h1 : q.st = st) (h2 : 0 ≤ q.at_ ∧ q.at_ ≤ 1125899906842624 ∧ 0 ≤ q.ln ∧ q.ln < 50) (h3 : q.data.length ≤ 900 ∧ byteB q.data) (h4 : ∀ p ∈ l, p.at_ ≤ q.at_) : TapePks st (l ++ [q]) := by
  refine ⟨fun p hp => ?_, fun p hp => ?_, fun p hp => ?_, ?_⟩
  · rcases List.mem_append.1 hp with hp | hp
    · exact h.st p hp
    · rw [List.mem_singleton] at hp; subst hp; exact h1
  · rcases List.mem_append.1 hp with hp | hp
    · exact h.time p hp
    · rw [List.mem_singleton] at hp; subst hp; exact h2
  · rcases List.mem_append.1 hp with hp | hp
    · exact h.data p hp
    · rw [List.mem_singleton] at hp; subst hp; exact h3
  · rw [List.pairwise_append]
    exact ⟨h.order, by simp, fun p hp q' hq' => by rw [List.mem_singleton] at hq'; subst hq'; exact h4 p hp⟩

set_option maxHeartbeats 8000000 in
set_option maxRecDepth 100000 in
theorem tapepks_any {w : World} {B g : Nat} (h : TapeB w B g) (st : Int) (s0 : i64B st) (m : Int) (m0 : 0 ≤ m) (m1 : m ≤ 1000) :
    Calls Try.prog 22 #[.pointer (some ⟨g, 0, none⟩), .int .i64 st, .int .i64 m] w fun e w' => ∃ v l, e = .returned v ∧ (l.length : Int) ≤ m ∧ TapePks st l ∧
      OwnG PkR 6 84 w' w.heap.size (fun b => w.heap.size ≤ b ∧ b < w'.heap.size) v l ∧ TapeB w' B g ∧ w.grownBy w' (some g) := by
  have HN0 := Lib.hid (fun W (hW : TapeB W B g) => next_any hW 40 (by omega) (by omega))
  have HNm := Lib.hid (fun W (hW : TapeB W B g) => next_any hW (m + 1) (by omega) (by omega))
  have HN1 := Lib.hid (fun W (hW : TapeB W B g) => next_any hW 50 (by omega) (by omega))
  have HN2 := Lib.hid (fun W (hW : TapeB W B g) => next_any hW 3 (by omega) (by omega))
  have HN3 := Lib.hid (fun W (hW : TapeB W B g) => next_any hW 8 (by omega) (by omega))
  have HN4 := Lib.hid (fun W (hW : TapeB W B g) => next_any hW 60 (by omega) (by omega))
  have HB1 := Lib.hid (fun W (hW : TapeB W B g) m m0 m1 => tapebytes_any hW m m0 m1)
  have HA : Hid (∀ x ∈ ([20, 300, 900] : List Int), 0 ≤ x ∧ x ≤ 900) := by rw [Hid]; decide
  have HT := Lib.hid h
  have HS0 := Lib.hid s0
  have hgl := h.lt
  have hBg := h.ge
  clear h s0
  go_enter Try.func22, Try.ntmps22
  go_wp2_with (first
    | (go_at_call 17; (with_reducible refine (HN0.out _ HT.out).mono ?_); rintro e w1 ⟨r1, rfl, hr1, hT1, hg1⟩)
    | (go_at_call 17; (with_reducible refine (HNm.out _ hT1).mono ?_); rintro e w2 ⟨r2, rfl, hr2, hT2, hg2⟩))
  have hga := only_trans hg1 hg2
  clear hg1 hg2 hT1
  obtain ⟨N, hN⟩ : ∃ N : Nat, N = r2 := ⟨_, rfl⟩
  obtain ⟨T0, hT0⟩ : ∃ T0 : Int, T0 = (r1 : Int) := ⟨_, rfl⟩
  rw [← hN, ← hT0]
  have hNm : (N : Int) ≤ m := by omega
  have hT00 : 0 ≤ T0 ∧ T0 ≤ 40 := by omega
  have HT00 := Lib.hid hT00
  clear hN hT0 hT00 hr1 hr2
  go_loopw [7, 8, 9] (fun a v i wr => ∃ (l : List Pk) (T : Int), l.length ≤ N ∧ 0 ≤ T ∧ T ≤ 40 + 60 * (l.length : Int) ∧ a = .int .i64 T ∧ i = .int .i64 ((N : Int) - (l.length : Int)) ∧ TapePks st l ∧ (∀ p ∈ l, p.at_ ≤ T) ∧
    OwnG PkR 6 84 wr w.heap.size (fun b => w.heap.size ≤ b ∧ b < wr.heap.size) v l ∧ TapeB wr B g ∧ w.grownBy wr (some g)) (fun _ _ i _ => (intOf i).toNat)
  case atStart => exact ⟨[], T0, Nat.zero_le _, HT00.out.1, by have := HT00.out.2; simp; omega, rfl, by simp, ⟨by simp, by simp, by simp, List.Pairwise.nil⟩, by simp, OwnG.nil_ _ _ _ _ _ _, hT2, hga⟩
  case round =>
    obtain ⟨l, T, hl, hT0, hTu, rfl, rfl, hpk, hpt, hown, hTr, hgw⟩ := hrel
    have HPK := Lib.hid hpk
    have HPT := Lib.hid hpt
    clear hpk hpt hT2 hga
    have hszr := hgw.size
    by_cases hlt : l.length < N
    · have hp : decide (0 < (N : Int) - (l.length : Int)) = true := by simp; omega
      obtain ⟨A0, c0, rfl, hc0, _, hob0⟩ := hown.form PkR.good
      go_upto_region 7 with (first
        | (go_at_call 17; (with_reducible refine (HN1.out _ hTr).mono ?_); rintro e w1 ⟨r1, rfl, hr1, hT1, hg1⟩)
        | (go_at_call 17; (with_reducible refine (HN2.out _ hT1).mono ?_); rintro e w2 ⟨r2, rfl, hr2, hT2, hg2⟩; obtain ⟨k2, hk2⟩ : ∃ b, decide (0 < r2) = b := ⟨_, rfl⟩; have hk2' : decide ((0 : Int) < (r2 : Int)) = k2 := (by rw [← hk2]; simp))
        | (go_at_call 17; (with_reducible refine (HN3.out _ hT2).mono ?_); rintro e w3 ⟨r3, rfl, hr3, hT3, hg3⟩; obtain ⟨k3, hk3⟩ : ∃ b, (r3 == 7) = b := ⟨_, rfl⟩; have hk3' : ((r3 : Int) == 7) = k3 := (by rw [← hk3, Bool.eq_iff_iff]; simp; omega); have hg03 := only_trans (only_trans hg1 hg2) hg3; have hs3 := hg03.size; have hTa := (hT3.alloc (.cells #[.int .i64 20, .int .i64 300, .int .i64 900] 3)))
        | (go_at_call 17; (with_reducible refine (HN2.out _ hTa).mono ?_); rintro e w4 ⟨r4, rfl, hr4, hT4, hg4⟩; have hb4 := (Blk.new w3 3 #[.int .i64 20, .int .i64 300, .int .i64 900]).grown hg4 (by simp; omega); have hx := Blk.lit_at (k := .i64) (l := [20, 300, 900]) (by exact hb4) (r := r4) (by simp; omega); have hm := HA.out _ (getD_mem (l := [20, 300, 900]) (r := r4) (by simp; omega)); generalize ([20, 300, 900] : List Int).getD r4 0 = x at *; have hm0 := hm.1; have hm1 := hm.2; have hlt4 := hT4.lt)
        | (go_at_call 44; (with_reducible refine (HB1.out _ hT4 x (by omega) (by omega)).mono ?_); rintro e w5 ⟨v5, l5, rfl, hl5, hby5, ho5, hT5, hg5⟩; obtain ⟨A5, c5, rfl, hc5, hr5, hA5⟩ := ho5.form))
      have hs4 := hg4.size
      have hs5 := hg5.size
      obtain ⟨_, _, hrs5⟩ := ho5.rds
      have hs4' : w3.heap.size + 1 ≤ w4.heap.size := by simp at hs4; omega
      have hg05 := only_trans (only_trans (only_alloc hg03 (.cells #[.int .i64 20, .int .i64 300, .int .i64 900] 3)) hg4) hg5
      have hM5 : Mod (· = g) wr w5 := Mod.of_only hg05 (fun _ => rfl)
      have hown5 := hown.keep PkR.good hM5 (fun b hb _ => (show ¬ b = g by omega)) (fun b hb => (show ¬ b = g by have := hob0 b hb; omega))
      have hs05 := hg05.size
      obtain ⟨ps, hps⟩ : ∃ ps, ps = w5.alloc (.cells #[.int .i64 st, .int .i64 T, .int .i64 (r1 : Int), .bool k2, .bool k3, .slice A5 l5.length c5] 84) := ⟨_, rfl⟩
      have hpz : ps.heap.size = w5.heap.size + 1 := by rw [hps]; simp
      have kbp : Blk ps w5.heap.size 84 #[.int .i64 st, .int .i64 T, .int .i64 (r1 : Int), .bool k2, .bool k3, .slice A5 l5.length c5] := by rw [hps]; exact Blk.new _ _ _
      have x0 := kbp.cell 0
      have x1 := kbp.cell 1
      have x2 := kbp.cell 2
      have x3 := kbp.cell 3
      have x4 := kbp.cell 4
      have x5 := kbp.cell 5
      have hMp : Mod (fun _ => False) w5 ps := by rw [hps]; exact (Mod.refl _ _).alloc _
      have hown6 := hown5.keep PkR.good hMp (fun _ _ _ h => h) (fun _ _ h => h)
      have hpr : PkR ps (fun b => w4.heap.size ≤ b ∧ b < w5.heap.size) [.int .i64 st, .int .i64 T, .int .i64 (r1 : Int), .bool k2, .bool k3, .slice A5 l5.length c5] ⟨st, T, r1, k2, k3, l5⟩ :=
        ⟨A5, c5, rfl, hc5, RdS.keep (hrs5.weak (fun b hb _ => ⟨hb.1, hb.2.1⟩)) hMp (fun _ _ _ h => h), ⟨HS0.out, ⟨(by first | omega | (simp only [List.length_append, List.length_cons, List.length_nil]; omega) | (simp; omega)), (by first | omega | (simp only [List.length_append, List.length_cons, List.length_nil]; omega) | (simp; omega))⟩, ⟨(by first | omega | (simp only [List.length_append, List.length_cons, List.length_nil]; omega) | (simp; omega)), (by first | omega | (simp only [List.length_append, List.length_cons, List.length_nil]; omega) | (simp; omega))⟩, (by first | omega | (simp only [List.length_append, List.length_cons, List.length_nil]; omega) | (simp; omega)), hby5⟩⟩
      rw [← hps]
      have hpt := hT5.below (Mod.below hMp (Nat.le_refl _) (fun _ h => h.elim)) hT5.lt
      have HPS := Lib.hid hps
      clear hps
      have q1 : ∀ b, (fun b => w.heap.size ≤ b ∧ b < wr.heap.size) b → b < ps.heap.size → (fun b => w.heap.size ≤ b ∧ b ≤ ps.heap.size) b := fun b hb _ => ⟨hb.1, by have := hb.2; omega⟩
      have q2 : ∀ b, (fun b => w4.heap.size ≤ b ∧ b < w5.heap.size) b → b < ps.heap.size → (fun b => w.heap.size ≤ b ∧ b ≤ ps.heap.size) b := fun b hb _ => ⟨by have := hb.1; omega, by have := hb.2; omega⟩
      have q3 : ∀ b, (Value.slice A0 l.length c0).ownBlock = some b → ¬ (fun b => w4.heap.size ≤ b ∧ b < w5.heap.size) b := fun b hb hS => by have h1 := (hob0 b hb).2; have h2 := hS.1; omega
      have q4 : w.heap.size ≤ ps.heap.size := by omega
      have q5 : l.length ≤ 3999999999 := by omega
      have q6 : w5.heap.size + 1 = ps.heap.size := hpz.symm
      have HPZ := Lib.hid hpz
      clear hpz
      go_wp2_with (first
        | (at_builtin; go_must (refine wpList_push_G rfl (.tmp 39) (.tmp 41) _ rfl PkR.good ps (.agg #[.int .i64 0, .int .i64 0, .int .i64 0, .bool false, .bool false, .slice none 0 0]) 56 Try.underlying54 info_pk rfl (by omega) rfl hown6 (fun b => w4.heap.size ≤ b ∧ b < w5.heap.size) ps.heap.size 1 [.int .i64 st, .int .i64 T, .int .i64 (r1 : Int), .bool k2, .bool k3, .slice A5 l5.length c5] ⟨st, T, r1, k2, k3, l5⟩ rfl rfl hpr (fun b => w.heap.size ≤ b ∧ b ≤ ps.heap.size) q1 q2 q3 (fun b hb => hb.2) ⟨q4, Nat.le_refl _⟩ q5 q4 ?_); intro v6 w6 ow6 hg6 hv6))
      have hg6' : ps.grownBy w6 (Value.ownBlock _) := only_trans (only_alloc (only_refl _ _) _) hg6
      have hM6 : Mod (fun b => w.heap.size ≤ b) ps w6 := Mod.of_grown hg6' (fun x hx _ => (hob0 x hx).1)
      have hgp : w.grownBy ps (some g) := only_then_below (only_trans hgw hg05) (Mod.below hMp (Nat.le_refl _) (fun _ h => h.elim)) (by omega)
      have hbe6 : Below w.heap.size ps w6 := hM6.below (by omega) (fun b hb => hb)
      have hT6 := hpt.below hbe6 hgl
      have hgw6 := only_then_below hgp hbe6 (Nat.le_refl _)
      have hs6 := hbe6.size
      clear x0 x1 x2 x3 x4 x5
      go_wp2_with (first
        | (go_at_call 17; (with_reducible refine (HN4.out _ hT6).mono ?_); rintro e w7 ⟨r7, rfl, hr7, hT7, hg7⟩))
      have hgw7 := only_trans hgw6 hg7
      have ow7 := ow6.keep PkR.good (Mod.of_only (M := (· = g)) hg7 (fun _ => rfl)) (fun b hb _ => (show ¬ b = g by omega)) (fun b hb => (show ¬ b = g by have := (ow6.own_ge b hb).1; omega))
      have hs7 := hg7.size
      go_roundw
      case rel =>
        refine ⟨l ++ [⟨st, T, r1, k2, k3, l5⟩], T + r7, by simp; omega, by omega, by simp; omega, by go_num, by simp; omega, HPK.out.snoc (q := ⟨st, T, r1, k2, k3, l5⟩) rfl ⟨hT0, by simp; omega, by simp, by simp; omega⟩ ⟨by simp; omega, hby5⟩ HPT.out, fun q hq => ?_, ow7.weak PkR.good (fun b hb hl9 => ⟨hb.1, hl9⟩), hT7, hgw7⟩
        rcases List.mem_append.1 hq with hq | hq
        · have := HPT.out q hq; omega
        · rw [List.mem_singleton] at hq; subst hq; simp; omega
      case measure => simp [intOf]; omega
    · have hp : decide (0 < (N : Int) - (l.length : Int)) = false := by simp; omega
      go_wp2
      go_ret
      exact ⟨_, l, rfl, by omega, HPK.out, hown, hTr, hgw⟩
end Go.Proofs.Ytdnkdjaokmibjaa
