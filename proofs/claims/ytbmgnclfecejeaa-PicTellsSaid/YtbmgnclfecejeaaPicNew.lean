/- pic.New where there is no such picture. -/
import Derived.Test.YtbmgnclfecejeaaPicCopy
set_option linter.unusedSimpArgs false
set_option linter.unusedVariables false
namespace Go.Proofs.Ytbmgnclfecejeaa
open Go.RowKit

theorem new_no (a b c d : Int) (h : possB a b c d = false) (w : World) :
    Calls Try.prog 27 #[.int .i64 a, .int .i64 b, .int .i64 c, .int .i64 d] w fun e w' => e = .returned (.tuple #[.agg #[.int .i64 0, .int .i64 0, .int .i64 0, .slice none 0 0], .int .i64 1]) ∧ Below w.heap.size w w' := by
  have HP := Lib.hid (fun W => possible_any a b c d W)
  rw [h] at HP
  clear h
  go_enter Try.func27, Try.ntmps27
  go_wp2_with (first
    | (go_at_call 42; go_must (refine (HP.out _).mono ?_); rintro e w1 ⟨rfl, rfl⟩))
  exact bodyPost_ret (v := .tuple #[.agg #[.int .i64 0, .int .i64 0, .int .i64 0, .slice none 0 0], .int .i64 1]) (by simp [results, Try.results27, go_sem]) rfl ⟨rfl, below_alloc (Below.refl _ _) _⟩

def zeros (a b : Int) (n : Nat) : List (List Int) := List.replicate n (List.replicate (a * b).toNat 0)

set_option maxHeartbeats 2000000 in
theorem new_yes (a b c d : Int) (hp : possB a b c d = true) (w : World) :
    Calls Try.prog 27 #[.int .i64 a, .int .i64 b, .int .i64 c, .int .i64 d] w fun e w' => ∃ A' c', e = .returned (.tuple #[.agg #[.int .i64 a, .int .i64 b, .int .i64 c, .slice A' d.toNat c'], .int .i64 0]) ∧
      OwnLL w' w.heap.size 25 3 .i64 (.slice A' d.toNat c') (zeros a b d.toNat) ∧ Below w.heap.size w w' := by
  have HP := Lib.hid (fun W => possible_any a b c d W)
  rw [hp] at HP
  simp only [possB, decide_eq_true_eq] at hp
  obtain ⟨b1, b2, b3, b4, b5, b6, b7, b8⟩ := hp
  obtain ⟨m1, m2⟩ := mul_64 ⟨b1, b2⟩ ⟨b3, b4⟩
  obtain ⟨dn, rfl⟩ := Int.eq_ofNat_of_zero_le (show 0 ≤ d by omega)
  rw [Int.toNat_natCast]
  obtain ⟨m, hm⟩ : ∃ m : Nat, a * b = m := ⟨(a * b).toNat, by omega⟩
  have hw := IntWalk.i64_in (m : Int) (by omega)
  have hmk := fun W => run_make_ints (P := Try.prog) W 25 Try.underlying25 info_int (by omega) .i64 m m (Nat.le_refl _) (by omega)
  go_enter Try.func27, Try.ntmps27
  go_wp2_with (first
    | (go_at_call 42; go_must (refine (HP.out _).mono ?_); rintro e w1 ⟨rfl, rfl⟩))
  obtain ⟨wa, hwa⟩ : ∃ wa, wa = (w.alloc (.cells #[.int .i64 0, .int .i64 0, .int .i64 0, .slice none 0 0] 28)).alloc (.cells #[.int .i64 a, .int .i64 b, .int .i64 c, .slice none 0 0] 28) := ⟨_, rfl⟩
  rw [← hwa]
  have bxa : Below w.heap.size w wa := by rw [hwa]; exact below_alloc (below_alloc (Below.refl _ _) _) _
  have b1' : Blk wa w.heap.size 28 #[.int .i64 0, .int .i64 0, .int .i64 0, .slice none 0 0] := by
    rw [hwa]
    exact (Blk.new w _ _).alloc _
  have b2' : Blk wa (w.heap.size + 1) 28 #[.int .i64 a, .int .i64 b, .int .i64 c, .slice none 0 0] := by
    rw [hwa]
    exact Blk.new1 w _ _ _
  clear hwa
  go_loopw [23] (fun i wr => ∃ (j : Nat) (v : Value), j ≤ dn ∧ i = .int .i64 j ∧ Below w.heap.size w wr ∧ Blk wr w.heap.size 28 #[.int .i64 0, .int .i64 0, .int .i64 0, .slice none 0 0] ∧
      Blk wr (w.heap.size + 1) 28 #[.int .i64 a, .int .i64 b, .int .i64 c, v] ∧ OwnLL wr (w.heap.size + 2) 25 3 .i64 v (zeros a b j)) (fun i _ => dn - (intOf i).toNat)
  case atStart => exact ⟨0, _, Nat.zero_le _, rfl, bxa, b1', b2', by simpa [zeros] using OwnLL.nil_ _ _ _ _ _⟩
  case round =>
    obtain ⟨j, v, hj, rfl, hbx, hb1, hb2, hll⟩ := hrel
    by_cases hlt : j < dn
    · have hsz : w.heap.size + 2 ≤ wr.heap.size := hb2.lt
      obtain ⟨k0, k1, k2, k3, f0, f1, f2, f3⟩ := hb2.four
      clear k0 k1 k2 f0 f1 f2
      have w1B := hb2.alloc (.cells (Array.replicate m (.int .i64 0)) 3)
      have k3a := w1B.cell 3
      have k3b := (w1B.alloc (.cells #[.slice (some ⟨wr.heap.size, 0, none⟩) m m] 25)).cell 3
      have HL : Hid (OwnI (wr.drew.alloc (.cells (Array.replicate m (.int .i64 0)) 3)) (w.heap.size + 2) 3 .i64 (.slice (some ⟨wr.heap.size, 0, none⟩) (List.replicate m (0 : Int)).length m) (List.replicate m 0)) := OwnI.made wr.drew (by exact hsz) (by omega)
      have HZ : Hid (zeros a b (j + 1) = zeros a b j ++ [List.replicate m 0] ∧ (zeros a b j).length = j) := by
        refine ⟨?_, by simp [zeros]⟩
        rw [zeros, zeros, List.replicate_succ', hm]
        rfl
      have hbel1 : Below wr.heap.size wr (wr.drew.alloc (.cells (Array.replicate m (.int .i64 0)) 3)) := below_undrew (below_alloc (Below.refl _ _) _)
      go_wp2
      go_region_law (first
        | (refine step_push_ll (by rfl) (.tmp 26) (.tmp 31) _ (by rfl) (wr.drew.alloc (.cells (Array.replicate m (.int .i64 0)) 3)) (w.heap.size + 2) 25 3 .i64 24 Try.underlying26 info_ints (by omega) (by decide) v (by rfl) _ _ hll (by exact hbel1) _ _ (by rfl) (by simp) _ _ _ (List.replicate m 0) (by simp) (by exact HL.out) (by intro ad h; injection h with h; subst h; exact Nat.le_refl _) (by rw [HZ.out.2]; omega) (by simp; omega) ?_; intro v2 w2 hL2 hb2'; have hb2x := (hb2.drew.alloc (.cells (Array.replicate m (.int .i64 0)) 3)).below hb2' (by omega); obtain ⟨_, _, _, k3x, _, _, _, f3x⟩ := hb2x.four; obtain ⟨A2, c2, hv2, hq2⟩ := hL2.form; clear hq2; subst hv2))
      all_goals
        have hL3 : OwnLL w2 (w.heap.size + 2) 25 3 .i64 (.slice A2 (j + 1) c2) (zeros a b (j + 1)) := by
          rw [← HZ.out.1, zeros, List.length_replicate] at hL2
          exact hL2
        have hbw : Below (w.heap.size + 2) wr w2 := (hbel1.mono (by omega)).trans hb2'
        rw [HZ.out.2]
        go_wp2
        go_roundw
        case rel =>
          exact ⟨j + 1, _, by omega, by go_num, (hbx.trans (hbw.mono (by omega))).setCell (by simp) _, (hb1.below hbw (by omega)).far (by simp) _, hb2x.set_ 3 _, hL3.far (by simp) _⟩
        case measure => simp [intOf]; omega
    · have hjl : j = dn := by omega
      subst hjl
      obtain ⟨A', c', hv, hc', _, _⟩ := hll.form
      rw [zeros, List.length_replicate] at hv
      subst hv
      obtain ⟨k0, k1, k2, k3, _⟩ := hb2.four
      obtain ⟨q0, q1, q2, q3, f0, f1, f2, f3⟩ := hb1.four
      go_wp2
      refine bodyPost_ret (v := .tuple #[.agg #[.int .i64 a, .int .i64 b, .int .i64 c, .slice A' j c'], .int .i64 0]) (by simp [results, Try.results27, go_sem, q0, q1, q2, q3]) rfl ⟨A', c', rfl, ?_, ?_⟩
      · exact ((((hll.far (by simp) _).far (by simp) _).far (by simp) _).far (by simp) _).base_ (by omega)
      · exact (((hbx.setCell (by simp) _).setCell (by simp) _).setCell (by simp) _).setCell (by simp) _
end Go.Proofs.Ytbmgnclfecejeaa
