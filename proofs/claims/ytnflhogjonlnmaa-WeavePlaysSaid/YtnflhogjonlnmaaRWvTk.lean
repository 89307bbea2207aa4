/- The reference's Weaver in memory; NewWeaver, Waits, Late, End. -/
import Derived.Test.YtnflhogjonlnmaaWvM
import Derived.Test.YtnflhogjonlnmaaWvL
import Derived.Test.YtnflhogjonlnmaaPkRLay
import Derived.Test.YtnflhogjonlnmaaQuFirst
import Derived.BigQuiet
import Derived.Deep.QuietTactic
import Derived.Deep.DeepCutAuto
set_option linter.unusedSimpArgs false
set_option linter.unusedVariables false
namespace Go.Proofs.Ytnflhogjonlnmaa
open Go.RowKit

theorem info_rlane : (Try.prog.info? 119).map (fun i => (i.zero, i.size, i.bytes)) = some (some (.agg #[.slice none 0 0, .int .i64 0, .bool false]), 3, 40) := by kernel_rfl
def RWvR (w : World) (F D : Nat → Prop) (g : Nat) (s : Wv) : Prop :=
  ∃ gq vs, Blk w g 116 #[.slice (some ⟨gq, 0, none⟩) s.qs.length s.qs.length, .int .i64 s.most, .int .i64 s.top, .int .i64 s.late] ∧ QsM w 119 40 F D g gq vs s.qs ∧ s.ok (-1)
section
variable {w w' : World} {F D M : Nat → Prop} {g : Nat} {s : Wv}
theorem RWvR.keep (h : RWvR w F D g s) (hm : Mod M w w') (hF : ∀ b, F b → ¬ M b) (hD : ∀ b, D b → ¬ M b) : RWvR w' F D g s := by
  obtain ⟨gq, vs, h1, h2, h3⟩ := h
  exact ⟨gq, vs, h1.mod hm (hF _ h2.gF.2.1), h2.keep hm hF hD, h3⟩
theorem RWvR.below (h : RWvR w F D g s) (hb : Below w.heap.size w w') : RWvR w' F D g s := h.keep (M := fun _ => False) (Mod.of_fresh hb) (fun _ _ h => h) (fun _ _ h => h)
theorem RWvR.drewN (h : RWvR w F D g s) (n : Nat) : RWvR (w.drewN n) F D g s := h.keep (M := fun _ => False) ((Mod.refl _ _).drewN n) (fun _ _ h => h) (fun _ _ h => h)
theorem RWvR.ok (h : RWvR w F D g s) : s.ok (-1) := by obtain ⟨_, _, _, _, h⟩ := h; exact h
theorem RWvR.Flt (h : RWvR w F D g s) : ∀ b, F b → b < w.heap.size := by obtain ⟨_, _, _, h, _⟩ := h; exact h.Flt
theorem RWvR.Dlt (h : RWvR w F D g s) : ∀ b, D b → b < w.heap.size ∧ ¬ F b := by obtain ⟨_, _, _, h, _⟩ := h; exact h.Dlt
theorem RWvR.lt (h : RWvR w F D g s) : g < w.heap.size := by obtain ⟨_, _, h, _⟩ := h; exact h.lt
end

set_option maxRecDepth 100000 in
theorem rweavernew_ok {n most : Int} {N : Nat} (hn : n = (N : Int)) (h1 : 1 ≤ N) (h4 : N ≤ 4) (m0 : 0 ≤ most) (m1 : most ≤ 1125899906842624) (w : World) :
    Calls Try.prog 35 #[.int .i64 n, .int .i64 most] w fun e w' => e = .returned (.tuple #[.pointer (some ⟨w.heap.size + 1, 0, none⟩), .int .i64 0]) ∧
      RWvR w' (fun b => b = w.heap.size ∨ b = w.heap.size + 1) (fun _ => False) (w.heap.size + 1) ⟨most, List.replicate N ⟨[], 0, false⟩, -1, 0⟩ ∧ Below w.heap.size w w' := by
  subst hn
  have HT := Lib.hid (fun W => timed_any most W)
  rw [show timedB most = true by simp [timedB, m0, m1]] at HT
  have hmk := run_make_any (P := Try.prog) w 114 Try.underlying114 info_rlane (by omega) .i64 N (by omega)
  have hQ := fun o => QsM.made w 119 40 h4 o
  have HQ := Lib.hid hQ
  have hb0 := below_alloc (Below.refl w.heap.size w) (.cells (madeCells (Value.agg #[.slice none 0 0, .int .i64 0, .bool false]).cells (N * 3)) 119)
  have hs0 : (w.alloc (.cells (madeCells (Value.agg #[.slice none 0 0, .int .i64 0, .bool false]).cells (N * 3)) 119)).heap.size = w.heap.size + 1 := by simp
  generalize w.alloc (.cells (madeCells (Value.agg #[.slice none 0 0, .int .i64 0, .bool false]).cells (N * 3)) 119) = w0 at *
  clear hQ
  have HS := Lib.hid hs0
  clear hs0
  go_enter Try.func35, Try.ntmps35
  go_wp2_with (first
    | (go_at_call 60; (with_reducible refine (HT.out _).mono ?_); rintro e w1 ⟨rfl, rfl⟩))
  go_ret2
  have hk := Blk.new w0 116 #[.slice (some ⟨w.heap.size, 0, none⟩) N N, .int .i64 most, .int .i64 (-1), .int .i64 0]
  rw [HS.out] at hk ⊢
  refine ⟨rfl, ⟨w.heap.size, _, by simpa using hk, HQ.out _, m0, m1, by simpa using h4, fun q hq => ?_, by simp, by simp⟩, below_alloc hb0 _⟩
  rw [(List.mem_replicate.1 hq).2]
  exact ⟨by simp, by simp, by simp, fun p hp => by cases hp⟩
theorem rweavernew_no {n most : Int} (h : n < 1 ∨ 4 < n ∨ most < 0 ∨ 1125899906842624 < most) (w : World) :
    Calls Try.prog 35 #[.int .i64 n, .int .i64 most] w fun e w' => e = .returned (.tuple #[.pointer none, .int .i64 1]) ∧ w = w' := by
  have HT := Lib.hid (fun W => timed_any most W)
  by_cases h1 : n < 1
  · clear h
    go_enter Try.func35, Try.ntmps35
    go_wp2
    go_ret2
    exact ⟨rfl, rfl⟩
  · have h1' : decide (n < 1) = false := decide_eq_false h1
    by_cases h2 : 4 < n
    · clear h h1
      go_enter Try.func35, Try.ntmps35
      go_wp2
      go_ret2
      exact ⟨rfl, rfl⟩
    · have h2' : decide (4 < n) = false := decide_eq_false h2
      rw [show timedB most = false by simp [timedB]; omega] at HT
      clear h h1 h2
      go_enter Try.func35, Try.ntmps35
      go_wp2_with (first
        | (go_at_call 60; (with_reducible refine (HT.out _).mono ?_); rintro e w1 ⟨rfl, rfl⟩))
      go_ret2
      exact ⟨rfl, rfl⟩
theorem rwlate_any {w : World} {F D : Nat → Prop} {g : Nat} {s : Wv} (h : RWvR w F D g s) :
    Calls Try.prog 40 #[.pointer (some ⟨g, 0, none⟩)] w fun e w' => e = .returned (.int .i64 s.late) ∧ w = w' := by
  obtain ⟨gq, vs, hb, _⟩ := h
  have c3 := hb.cell 3
  clear hb
  go_enter Try.func40, Try.ntmps40
  go_wp2
  go_ret
  exact ⟨rfl, rfl⟩
theorem rwwaits_any {w : World} {F D : Nat → Prop} {g : Nat} {s : Wv} (h : RWvR w F D g s) (n : Int) :
    Calls Try.prog 39 #[.pointer (some ⟨g, 0, none⟩), .int .i64 n] w fun e w' => e = .returned (.int .i64 (s.waits n)) ∧ w = w' := by
  obtain ⟨gq, vs, hb, hq, hok⟩ := h
  have c0 := hb.cell 0
  have n1 := hok.n1
  by_cases h0 : 0 ≤ n
  · obtain ⟨m, rfl⟩ := Int.eq_ofNat_of_zero_le h0
    by_cases hm : m < s.qs.length
    · have HW := Lib.hid (show s.waits (m : Int) = (s.qs[m].wait.length : Int) by rw [Wv.waits, if_pos (by simp [inB]; omega), Int.toNat_natCast, quAt_get hm])
      obtain ⟨A, c, _, _, _, d0, _⟩ := hq.q_at hm
      have hm' : (m : Int) < (s.qs.length : Int) := by omega
      clear hb hq hok
      go_enter Try.func39, Try.ntmps39
      go_wp2
      go_ret
      exact ⟨by rw [HW.out]; rfl, rfl⟩
    · have HW := Lib.hid (show s.waits (m : Int) = 0 by rw [Wv.waits, if_neg (by simp [inB]; omega)])
      have hm' : (s.qs.length : Int) ≤ (m : Int) := by omega
      clear hb hq hok hm
      go_enter Try.func39, Try.ntmps39
      go_wp2
      go_ret
      exact ⟨by rw [HW.out]; rfl, rfl⟩
  · have HW := Lib.hid (show s.waits n = 0 by rw [Wv.waits, if_neg (by simp [inB]; omega)])
    have h0' : n < 0 := by omega
    clear hb hq hok h0
    go_enter Try.func39, Try.ntmps39
    go_wp2
    go_ret
    exact ⟨by rw [HW.out]; rfl, rfl⟩
theorem rwend_any {w : World} {F D : Nat → Prop} {g : Nat} {s : Wv} (h : RWvR w F D g s) (n : Int) :
    Calls Try.prog 37 #[.pointer (some ⟨g, 0, none⟩), .int .i64 n] w fun e w' => e = .returned (.tuple #[]) ∧ RWvR w' F D g (s.stop n) ∧ Mod F w w' := by
  have HH := Lib.hid h
  obtain ⟨gq, vs, hb, hq, hok⟩ := h
  have c0 := hb.cell 0
  have n1 := hok.n1
  by_cases h0 : 0 ≤ n
  · obtain ⟨m, rfl⟩ := Int.eq_ofNat_of_zero_le h0
    by_cases hm : m < s.qs.length
    · have hin : inB (m : Int) s.qs.length = true := by simp [inB]; omega
      have HW := Lib.hid (show s.stop (m : Int) = ⟨s.most, s.qs.set m ⟨s.qs[m].wait, s.qs[m].last, true⟩, s.top, s.late⟩ by rw [Wv.stop, hin, Int.toNat_natCast, quAt_get hm]; rfl)
      have HOk := Lib.hid (stop_ok (n := (m : Int)) hok)
      obtain ⟨A, c, _, _, _, _, _, d2, _, _, f2⟩ := hq.q_at hm
      have HQ := Lib.hid (hq.put2 hm true)
      have HK := Lib.hid (hb.far (p := ⟨gq, m * 3 + 2, none⟩) (fun e => hq.gF.2.2 e.symm) (.bool true))
      have HG := Lib.hid hq.gF.1
      have hm' : (m : Int) < (s.qs.length : Int) := by omega
      clear hb hq hok hin
      go_enter Try.func37, Try.ntmps37
      go_wp2
      go_end0
      refine ⟨rfl, ?_, mod_put (Mod.refl _ _) (fun _ => HG.out)⟩
      have h9 := HOk.out
      rw [HW.out] at h9 ⊢
      exact ⟨gq, vs, by simpa [List.length_set] using HK.out, HQ.out, h9⟩
    · have HW := Lib.hid (show s.stop (m : Int) = s by rw [Wv.stop, if_neg (by simp [inB]; omega)])
      have hm' : (s.qs.length : Int) ≤ (m : Int) := by omega
      clear hb hq hok hm
      go_enter Try.func37, Try.ntmps37
      go_wp2
      go_end0
      exact ⟨rfl, by rw [HW.out]; exact HH.out, Mod.refl _ _⟩
  · have HW := Lib.hid (show s.stop n = s by rw [Wv.stop, if_neg (by simp [inB]; omega)])
    have h0' : decide (0 ≤ n) = false := decide_eq_false h0
    clear hb hq hok h0
    go_enter Try.func37, Try.ntmps37
    go_wp2
    go_end0
    exact ⟨rfl, by rw [HW.out]; exact HH.out, Mod.refl _ _⟩
end Go.Proofs.Ytnflhogjonlnmaa
