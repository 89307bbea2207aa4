/- weave.Weaver in memory; New, isStream, Waits, Late, End, earliest, isNext, isOverdue. -/
import Derived.Test.YtnflhogjonlnmaaWvM
import Derived.Test.YtnflhogjonlnmaaWvL
import Derived.BigQuiet
import Derived.Deep.QuietTactic
import Derived.Deep.DeepCutAuto
set_option linter.unusedSimpArgs false
set_option linter.unusedVariables false
namespace Go.Proofs.Ytnflhogjonlnmaa
open Go.RowKit

theorem info_queue : (Try.prog.info? 90).map (fun i => (i.zero, i.size, i.bytes)) = some (some (.agg #[.slice none 0 0, .int .i64 0, .bool false]), 3, 40) := by kernel_rfl
def WvR (w : World) (F D : Nat → Prop) (g : Nat) (s : Wv) : Prop :=
  ∃ gq vs, Blk w g 85 #[.int .i64 s.most, .slice (some ⟨gq, 0, none⟩) s.qs.length s.qs.length, .int .i64 s.top, .int .i64 s.late] ∧ QsM w 90 40 F D g gq vs s.qs ∧ s.ok 0
section
variable {w w' : World} {F D M : Nat → Prop} {g : Nat} {s : Wv}
theorem WvR.keep (h : WvR w F D g s) (hm : Mod M w w') (hF : ∀ b, F b → ¬ M b) (hD : ∀ b, D b → ¬ M b) : WvR w' F D g s := by
  obtain ⟨gq, vs, h1, h2, h3⟩ := h
  exact ⟨gq, vs, h1.mod hm (hF _ h2.gF.2.1), h2.keep hm hF hD, h3⟩
theorem WvR.below (h : WvR w F D g s) (hb : Below w.heap.size w w') : WvR w' F D g s := h.keep (M := fun _ => False) (Mod.of_fresh hb) (fun _ _ h => h) (fun _ _ h => h)
theorem WvR.drewN (h : WvR w F D g s) (n : Nat) : WvR (w.drewN n) F D g s := h.keep (M := fun _ => False) ((Mod.refl _ _).drewN n) (fun _ _ h => h) (fun _ _ h => h)
theorem WvR.ok (h : WvR w F D g s) : s.ok 0 := by obtain ⟨_, _, _, _, h⟩ := h; exact h
theorem WvR.Flt (h : WvR w F D g s) : ∀ b, F b → b < w.heap.size := by obtain ⟨_, _, _, h, _⟩ := h; exact h.Flt
theorem WvR.Dlt (h : WvR w F D g s) : ∀ b, D b → b < w.heap.size ∧ ¬ F b := by obtain ⟨_, _, _, h, _⟩ := h; exact h.Dlt
theorem WvR.lt (h : WvR w F D g s) : g < w.heap.size := by obtain ⟨_, _, h, _⟩ := h; exact h.lt
end

set_option maxRecDepth 100000 in
theorem weavenew_ok {n most : Int} {N : Nat} (hn : n = (N : Int)) (h1 : 1 ≤ N) (h4 : N ≤ 4) (m0 : 0 ≤ most) (m1 : most ≤ 1125899906842624) (w : World) :
    Calls Try.prog 17 #[.int .i64 n, .int .i64 most] w fun e w' => e = .returned (.tuple #[.pointer (some ⟨w.heap.size + 1, 0, none⟩), .int .i64 0]) ∧
      WvR w' (fun b => b = w.heap.size ∨ b = w.heap.size + 1) (fun _ => False) (w.heap.size + 1) ⟨most, List.replicate N ⟨[], 0, false⟩, 0, 0⟩ ∧ Below w.heap.size w w' := by
  subst hn
  have hmk := run_make_any (P := Try.prog) w 83 Try.underlying83 info_queue (by omega) .i64 N (by omega)
  have hQ := fun o => QsM.made w 90 40 h4 o
  have HQ := Lib.hid hQ
  have hb0 := below_alloc (Below.refl w.heap.size w) (.cells (madeCells (Value.agg #[.slice none 0 0, .int .i64 0, .bool false]).cells (N * 3)) 90)
  have hs0 : (w.alloc (.cells (madeCells (Value.agg #[.slice none 0 0, .int .i64 0, .bool false]).cells (N * 3)) 90)).heap.size = w.heap.size + 1 := by simp
  generalize w.alloc (.cells (madeCells (Value.agg #[.slice none 0 0, .int .i64 0, .bool false]).cells (N * 3)) 90) = w0 at *
  clear hQ
  have HS := Lib.hid hs0
  clear hs0
  go_enter Try.func17, Try.ntmps17
  go_wp2
  go_ret2
  have hk := Blk.new w0 85 #[.int .i64 most, .slice (some ⟨w.heap.size, 0, none⟩) N N, .int .i64 0, .int .i64 0]
  rw [HS.out] at hk ⊢
  refine ⟨rfl, ⟨w.heap.size, _, by simpa using hk, HQ.out _, m0, m1, by simpa using h4, fun q hq => ?_, by simp, by simp⟩, below_alloc hb0 _⟩
  rw [(List.mem_replicate.1 hq).2]
  exact ⟨by simp, by simp, by simp, fun p hp => by cases hp⟩
theorem weavenew_no {n most : Int} (h : n < 1 ∨ 4 < n ∨ most < 0 ∨ 1125899906842624 < most) (w : World) :
    Calls Try.prog 17 #[.int .i64 n, .int .i64 most] w fun e w' => e = .returned (.tuple #[.pointer none, .int .i64 1]) ∧ w = w' := by
  by_cases h1 : n < 1
  · clear h
    go_enter Try.func17, Try.ntmps17
    go_wp2
    go_ret2
    exact ⟨rfl, rfl⟩
  · have h1' : decide (n < 1) = false := decide_eq_false h1
    by_cases h2 : 4 < n
    · clear h h1
      go_enter Try.func17, Try.ntmps17
      go_wp2
      go_ret2
      exact ⟨rfl, rfl⟩
    · have h2' : decide (4 < n) = false := decide_eq_false h2
      by_cases h3 : most < 0
      · clear h h1 h2
        go_enter Try.func17, Try.ntmps17
        go_wp2
        go_ret2
        exact ⟨rfl, rfl⟩
      · have h3' : decide (most < 0) = false := decide_eq_false h3
        have h4 : 1125899906842624 < most := by omega
        clear h h1 h2 h3
        go_enter Try.func17, Try.ntmps17
        go_wp2
        go_ret2
        exact ⟨rfl, rfl⟩
theorem isstream_any {w : World} {F D : Nat → Prop} {g : Nat} {s : Wv} (h : WvR w F D g s) (n : Int) :
    Calls Try.prog 43 #[.pointer (some ⟨g, 0, none⟩), .int .i64 n] w fun e w' => e = .returned (.bool (inB n s.qs.length)) ∧ w = w' := by
  obtain ⟨gq, vs, hb, _⟩ := h
  have c1 := hb.cell 1
  clear hb
  by_cases h0 : 0 ≤ n
  · by_cases h1 : n < (s.qs.length : Int)
    · have HB := Lib.hid (show inB n s.qs.length = true by simp [inB, h0, h1])
      go_enter Try.func43, Try.ntmps43
      go_wp2
      go_ret
      exact ⟨by rw [HB.out]; rfl, rfl⟩
    · have HB := Lib.hid (show inB n s.qs.length = false by simp [inB]; omega)
      have h1' : decide (n < (s.qs.length : Int)) = false := decide_eq_false h1
      go_enter Try.func43, Try.ntmps43
      go_wp2
      go_ret
      exact ⟨by rw [HB.out]; rfl, rfl⟩
  · have HB := Lib.hid (show inB n s.qs.length = false by simp [inB]; omega)
    have h0' : decide (0 ≤ n) = false := decide_eq_false h0
    go_enter Try.func43, Try.ntmps43
    go_wp2
    go_ret
    exact ⟨by rw [HB.out]; rfl, rfl⟩
theorem wlate_any {w : World} {F D : Nat → Prop} {g : Nat} {s : Wv} (h : WvR w F D g s) :
    Calls Try.prog 28 #[.pointer (some ⟨g, 0, none⟩)] w fun e w' => e = .returned (.int .i64 s.late) ∧ w = w' := by
  obtain ⟨gq, vs, hb, _⟩ := h
  have c3 := hb.cell 3
  clear hb
  go_enter Try.func28, Try.ntmps28
  go_wp2
  go_ret
  exact ⟨rfl, rfl⟩
theorem wwaits_any {w : World} {F D : Nat → Prop} {g : Nat} {s : Wv} (h : WvR w F D g s) (n : Int) :
    Calls Try.prog 19 #[.pointer (some ⟨g, 0, none⟩), .int .i64 n] w fun e w' => e = .returned (.int .i64 (s.waits n)) ∧ w = w' := by
  have HI := Lib.hid (fun W (hW : WvR W F D g s) => isstream_any hW n)
  have HH := Lib.hid h
  obtain ⟨gq, vs, hb, hq, hok⟩ := h
  have c1 := hb.cell 1
  have n1 := hok.n1
  cases hi : inB n s.qs.length with
  | false =>
    have HW := Lib.hid (show s.waits n = 0 by rw [Wv.waits, hi]; rfl)
    rw [hi] at HI
    clear hi hb hq hok
    go_enter Try.func19, Try.ntmps19
    go_wp2_with (first
      | (go_at_call 43; (with_reducible refine (HI.out _ HH.out).mono ?_); rintro e w1 ⟨rfl, rfl⟩))
    go_ret
    exact ⟨by rw [HW.out]; rfl, rfl⟩
  | true =>
    have hin := hi
    simp only [inB, decide_eq_true_eq] at hin
    obtain ⟨m, rfl⟩ := Int.eq_ofNat_of_zero_le hin.1
    have hm : m < s.qs.length := by omega
    have HW := Lib.hid (show s.waits (m : Int) = (s.qs[m].wait.length : Int) by rw [Wv.waits, hi, Int.toNat_natCast, quAt_get hm]; rfl)
    rw [hi] at HI
    obtain ⟨A, c, _, _, _, c0, _⟩ := hq.q_at hm
    clear hi hb hq hok hin
    go_enter Try.func19, Try.ntmps19
    go_wp2_with (first
      | (go_at_call 43; (with_reducible refine (HI.out _ HH.out).mono ?_); rintro e w1 ⟨rfl, rfl⟩))
    go_ret
    exact ⟨by rw [HW.out]; rfl, rfl⟩
theorem wend_any {w : World} {F D : Nat → Prop} {g : Nat} {s : Wv} (h : WvR w F D g s) (n : Int) :
    Calls Try.prog 26 #[.pointer (some ⟨g, 0, none⟩), .int .i64 n] w fun e w' => e = .returned (.tuple #[]) ∧ WvR w' F D g (s.stop n) ∧ Mod F w w' := by
  have HI := Lib.hid (fun W (hW : WvR W F D g s) => isstream_any hW n)
  have HH := Lib.hid h
  obtain ⟨gq, vs, hb, hq, hok⟩ := h
  have c1 := hb.cell 1
  have n1 := hok.n1
  cases hi : inB n s.qs.length with
  | false =>
    have HW := Lib.hid (show s.stop n = s by rw [Wv.stop, hi]; rfl)
    rw [hi] at HI
    clear hi hb hq hok
    go_enter Try.func26, Try.ntmps26
    go_wp2_with (first
      | (go_at_call 43; (with_reducible refine (HI.out _ HH.out).mono ?_); rintro e w1 ⟨rfl, rfl⟩))
    go_end0
    exact ⟨rfl, by rw [HW.out]; exact HH.out, Mod.refl _ _⟩
  | true =>
    have hin := hi
    simp only [inB, decide_eq_true_eq] at hin
    obtain ⟨m, rfl⟩ := Int.eq_ofNat_of_zero_le hin.1
    have hm : m < s.qs.length := by omega
    have HW := Lib.hid (show s.stop (m : Int) = ⟨s.most, s.qs.set m ⟨s.qs[m].wait, s.qs[m].last, true⟩, s.top, s.late⟩ by rw [Wv.stop, hi, Int.toNat_natCast, quAt_get hm]; rfl)
    have HOk := Lib.hid (stop_ok (n := (m : Int)) hok)
    rw [hi] at HI
    obtain ⟨A, c, _, _, _, _, _, c2, _, _, f2⟩ := hq.q_at hm
    have HQ := Lib.hid (hq.put2 hm true)
    have HK := Lib.hid (hb.far (p := ⟨gq, m * 3 + 2, none⟩) (fun e => hq.gF.2.2 e.symm) (.bool true))
    have HG := Lib.hid hq.gF.1
    clear hi hb hq hok hin
    go_enter Try.func26, Try.ntmps26
    go_wp2_with (first
      | (go_at_call 43; (with_reducible refine (HI.out _ HH.out).mono ?_); rintro e w1 ⟨rfl, rfl⟩))
    go_end0
    refine ⟨rfl, ?_, mod_put (Mod.refl _ _) (fun _ => HG.out)⟩
    have h9 := HOk.out
    rw [HW.out] at h9 ⊢
    exact ⟨gq, vs, by simpa [List.length_set] using HK.out, HQ.out, h9⟩
end Go.Proofs.Ytnflhogjonlnmaa
