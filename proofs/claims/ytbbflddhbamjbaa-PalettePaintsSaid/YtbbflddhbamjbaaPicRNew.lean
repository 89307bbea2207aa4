/- The reference's PicNew; HeavyPic with what it tells. -/
import Derived.Test.YtbbflddhbamjbaaPicRef
import Derived.Test.YtbbflddhbamjbaaPicClone
import Derived.Test.YtbbflddhbamjbaaPicLast
set_option linter.unusedSimpArgs false
set_option linter.unusedVariables false
namespace Go.Proofs.Ytbbflddhbamjbaa
open Go.RowKit

theorem depth_yes {d : Int} (h : 1 ≤ d ∧ d ≤ 16) (w : World) : Calls Try.prog 55 #[.int .i64 d] w fun e w' => e = .returned (.bool true) ∧ w = w' := by
  have := depth_any d w
  rwa [show (decide (1 ≤ d) && decide (d ≤ 16)) = true by simp [h.1, h.2]] at this
theorem depth_no {d : Int} (h : ¬ (1 ≤ d ∧ d ≤ 16)) (w : World) : Calls Try.prog 55 #[.int .i64 d] w fun e w' => e = .returned (.bool false) ∧ w = w' := by
  have := depth_any d w
  rwa [show (decide (1 ≤ d) && decide (d ≤ 16)) = false by simp; omega] at this
theorem side_yes {d : Int} (h : 1 ≤ d ∧ d ≤ 64) (w : World) : Calls Try.prog 58 #[.int .i64 d] w fun e w' => e = .returned (.bool true) ∧ w = w' := by
  have := side_any d w
  rwa [decide_eq_true h] at this
theorem side_no {d : Int} (h : ¬ (1 ≤ d ∧ d ≤ 64)) (w : World) : Calls Try.prog 58 #[.int .i64 d] w fun e w' => e = .returned (.bool false) ∧ w = w' := by
  have := side_any d w
  rwa [decide_eq_false h] at this

set_option maxHeartbeats 2000000 in
theorem rnew_no (a b c d : Int) (h : possB a b c d = false) (w : World) :
    Calls Try.prog 59 #[.int .i64 a, .int .i64 b, .int .i64 c, .int .i64 d] w fun e w' => e = .returned (.tuple #[.agg #[.int .i64 0, .int .i64 0, .int .i64 0, .slice none 0 0], .int .i64 1]) ∧ Below w.heap.size w w' := by
  simp only [possB, decide_eq_false_iff_not] at h
  by_cases h1 : 1 ≤ a ∧ a ≤ 64
  · have H1 := Lib.hid (side_yes h1)
    by_cases h2 : 1 ≤ b ∧ b ≤ 64
    · have H2 := Lib.hid (side_yes h2)
      by_cases h3 : 1 ≤ c ∧ c ≤ 16
      · have H3 := Lib.hid (depth_yes h3)
        by_cases h4 : d < 1
        · clear h h1 h2 h3
          go_enter Try.func59, Try.ntmps59
          go_wp2_with (first
            | (go_at_call 58; (with_reducible refine (H1.out _).mono ?_); rintro e w1 ⟨rfl, rfl⟩)
            | (go_at_call 58; (with_reducible refine (H2.out _).mono ?_); rintro e w1 ⟨rfl, rfl⟩)
            | (go_at_call 55; (with_reducible refine (H3.out _).mono ?_); rintro e w1 ⟨rfl, rfl⟩))
          exact bodyPost_ret (v := .tuple #[.agg #[.int .i64 0, .int .i64 0, .int .i64 0, .slice none 0 0], .int .i64 1]) (by simp [results, Try.results59, go_sem]) rfl ⟨rfl, below_alloc (Below.refl _ _) _⟩
        · have h5 : 4 < d := by omega
          clear h h1 h2 h3
          go_enter Try.func59, Try.ntmps59
          go_wp2_with (first
            | (go_at_call 58; (with_reducible refine (H1.out _).mono ?_); rintro e w1 ⟨rfl, rfl⟩)
            | (go_at_call 58; (with_reducible refine (H2.out _).mono ?_); rintro e w1 ⟨rfl, rfl⟩)
            | (go_at_call 55; (with_reducible refine (H3.out _).mono ?_); rintro e w1 ⟨rfl, rfl⟩))
          exact bodyPost_ret (v := .tuple #[.agg #[.int .i64 0, .int .i64 0, .int .i64 0, .slice none 0 0], .int .i64 1]) (by simp [results, Try.results59, go_sem]) rfl ⟨rfl, below_alloc (Below.refl _ _) _⟩
      · have H3 := Lib.hid (depth_no h3)
        clear h h1 h2 h3
        go_enter Try.func59, Try.ntmps59
        go_wp2_with (first
          | (go_at_call 58; (with_reducible refine (H1.out _).mono ?_); rintro e w1 ⟨rfl, rfl⟩)
          | (go_at_call 58; (with_reducible refine (H2.out _).mono ?_); rintro e w1 ⟨rfl, rfl⟩)
          | (go_at_call 55; (with_reducible refine (H3.out _).mono ?_); rintro e w1 ⟨rfl, rfl⟩))
        exact bodyPost_ret (v := .tuple #[.agg #[.int .i64 0, .int .i64 0, .int .i64 0, .slice none 0 0], .int .i64 1]) (by simp [results, Try.results59, go_sem]) rfl ⟨rfl, below_alloc (Below.refl _ _) _⟩
    · have H2 := Lib.hid (side_no h2)
      clear h h1 h2
      go_enter Try.func59, Try.ntmps59
      go_wp2_with (first
        | (go_at_call 58; (with_reducible refine (H1.out _).mono ?_); rintro e w1 ⟨rfl, rfl⟩)
        | (go_at_call 58; (with_reducible refine (H2.out _).mono ?_); rintro e w1 ⟨rfl, rfl⟩))
      exact bodyPost_ret (v := .tuple #[.agg #[.int .i64 0, .int .i64 0, .int .i64 0, .slice none 0 0], .int .i64 1]) (by simp [results, Try.results59, go_sem]) rfl ⟨rfl, below_alloc (Below.refl _ _) _⟩
  · have H1 := Lib.hid (side_no h1)
    clear h h1
    go_enter Try.func59, Try.ntmps59
    go_wp2_with (first
      | (go_at_call 58; (with_reducible refine (H1.out _).mono ?_); rintro e w1 ⟨rfl, rfl⟩))
    exact bodyPost_ret (v := .tuple #[.agg #[.int .i64 0, .int .i64 0, .int .i64 0, .slice none 0 0], .int .i64 1]) (by simp [results, Try.results59, go_sem]) rfl ⟨rfl, below_alloc (Below.refl _ _) _⟩

set_option maxHeartbeats 4000000 in
theorem rnew_yes (a b c d : Int) (hp : possB a b c d = true) (w : World) :
    Calls Try.prog 59 #[.int .i64 a, .int .i64 b, .int .i64 c, .int .i64 d] w fun e w' => ∃ A' c', e = .returned (.tuple #[.agg #[.int .i64 a, .int .i64 b, .int .i64 c, .slice A' d.toNat c'], .int .i64 0]) ∧
      OwnLL w' w.heap.size 22 3 .i64 (.slice A' d.toNat c') (zeros a b d.toNat) ∧ Below w.heap.size w w' := by
  simp only [possB, decide_eq_true_eq] at hp
  obtain ⟨b1, b2, b3, b4, b5, b6, b7, b8⟩ := hp
  have H1 := Lib.hid (side_yes ⟨b1, b2⟩)
  have H2 := Lib.hid (side_yes ⟨b3, b4⟩)
  have H3 := Lib.hid (depth_yes ⟨b5, b6⟩)
  obtain ⟨m1, m2⟩ := mul_64 ⟨b1, b2⟩ ⟨b3, b4⟩
  obtain ⟨dn, rfl⟩ := Int.eq_ofNat_of_zero_le (show 0 ≤ d by omega)
  rw [Int.toNat_natCast]
  obtain ⟨m, hm⟩ : ∃ m : Nat, a * b = m := ⟨(a * b).toNat, by omega⟩
  have hw := IntWalk.i64_in (m : Int) (by omega)
  have hmk := fun W => run_make_ints (P := Try.prog) W 22 Try.underlying22 info_int (by omega) .i64 m m (Nat.le_refl _) (by omega)
  go_enter Try.func59, Try.ntmps59
  go_wp2_with (first
    | (go_at_call 58; (with_reducible refine (H1.out _).mono ?_); rintro e w1 ⟨rfl, rfl⟩)
    | (go_at_call 58; (with_reducible refine (H2.out _).mono ?_); rintro e w1 ⟨rfl, rfl⟩)
    | (go_at_call 55; (with_reducible refine (H3.out _).mono ?_); rintro e w1 ⟨rfl, rfl⟩))
  obtain ⟨wa, hwa⟩ : ∃ wa, wa = (w.alloc (.cells #[.int .i64 0, .int .i64 0, .int .i64 0, .slice none 0 0] 30)).alloc (.cells #[.int .i64 a, .int .i64 b, .int .i64 c, .slice none 0 0] 30) := ⟨_, rfl⟩
  rw [← hwa]
  have bxa : Below w.heap.size w wa := by rw [hwa]; exact below_alloc (below_alloc (Below.refl _ _) _) _
  have b1' : Blk wa w.heap.size 30 #[.int .i64 0, .int .i64 0, .int .i64 0, .slice none 0 0] := by
    rw [hwa]
    exact (Blk.new w _ _).alloc _
  have b2' : Blk wa (w.heap.size + 1) 30 #[.int .i64 a, .int .i64 b, .int .i64 c, .slice none 0 0] := by
    rw [hwa]
    exact Blk.new1 w _ _ _
  clear hwa H1 H2 H3
  go_loopw [11] (fun i wr => ∃ (j : Nat) (v : Value), j ≤ dn ∧ i = .int .i64 j ∧ Below w.heap.size w wr ∧ Blk wr w.heap.size 30 #[.int .i64 0, .int .i64 0, .int .i64 0, .slice none 0 0] ∧
      Blk wr (w.heap.size + 1) 30 #[.int .i64 a, .int .i64 b, .int .i64 c, v] ∧ OwnLL wr (w.heap.size + 2) 22 3 .i64 v (zeros a b j)) (fun i _ => dn - (intOf i).toNat)
  case atStart => exact ⟨0, _, Nat.zero_le _, rfl, bxa, b1', b2', by simpa [zeros] using OwnLL.nil_ _ _ _ _ _⟩
  case round =>
    obtain ⟨j, v, hj, rfl, hbx, hb1, hb2, hll⟩ := hrel
    by_cases hlt : j < dn
    · have hsz : w.heap.size + 2 ≤ wr.heap.size := hb2.lt
      obtain ⟨k0, k1, k2, k3, f0, f1, f2, f3⟩ := hb2.four
      clear k0 k1 k2 f0 f1 f2
      have w1B := (hb2.alloc (.cells (Array.replicate m (.int .i64 0)) 3)).drewN 1
      have k3a : (wr.alloc (.cells (Array.replicate m (.int .i64 0)) 3)).drew.cell? ⟨w.heap.size + 1, 3, none⟩ = some v := w1B.cell 3
      have k3b : ((wr.alloc (.cells (Array.replicate m (.int .i64 0)) 3)).alloc (.cells #[.slice (some ⟨wr.heap.size, 0, none⟩) m m] 22)).drew.cell? ⟨w.heap.size + 1, 3, none⟩ = some v := ((hb2.alloc (.cells (Array.replicate m (.int .i64 0)) 3)).alloc (.cells #[.slice (some ⟨wr.heap.size, 0, none⟩) m m] 22)).cell 3
      have HL : Hid (OwnI (wr.alloc (.cells (Array.replicate m (.int .i64 0)) 3)).drew (w.heap.size + 2) 3 .i64 (.slice (some ⟨wr.heap.size, 0, none⟩) (List.replicate m (0 : Int)).length m) (List.replicate m 0)) := OwnI.made wr (by exact hsz) (by omega)
      have HZ : Hid (zeros a b (j + 1) = zeros a b j ++ [List.replicate m 0] ∧ (zeros a b j).length = j) := by
        refine ⟨?_, by simp [zeros]⟩
        rw [zeros, zeros, List.replicate_succ', hm]
        rfl
      have hbel1 : Below wr.heap.size wr (wr.alloc (.cells (Array.replicate m (.int .i64 0)) 3)).drew := Below.drew (below_alloc (Below.refl _ _) _)
      go_wp2
      refine wp_region_last (S := (fun w' => w'.cell? ⟨w.heap.size + 1, 3, none⟩ = some v)) 9 _ (by simp only [List.pop_toArray, List.dropLast_cons_cons, List.dropLast_singleton]; rfl) (by kernel_rfl) (by kernel_rfl) (by kernel_rfl) (by kernel_rfl) (by kernel_rfl) ?_ (fun hHeld => ?_)
      focus exact k3
      refine wpAnyH_take (i := 0) (v := ?_) rfl (by kernel_rfl) (by kernel_rfl) (by kernel_rfl) (fun _ _ _ h => h) (Or.inl ⟨by kernel_rfl, ?_⟩) (by assumption) ?_
      rotate_left
      focus
        intro w9 hSw
        (try dsimp only at hSw)
        go_simp
        (try with_reducible rfl)
      (try simp only [Act.put, List.getElem_toArray, List.getElem_cons_succ, List.getElem_cons_zero, List.setIfInBounds_toArray, List.set_cons_zero, List.set_cons_succ])
      refine wpAnyH_take (i := 1) (v := ?_) rfl (by kernel_rfl) (by kernel_rfl) (by kernel_rfl) (fun _ _ _ h => h) (Or.inl ⟨by kernel_rfl, ?_⟩) (by assumption) ?_
      rotate_left
      focus
        intro w9 hSw
        (try dsimp only at hSw)
        go_simp
        (try with_reducible rfl)
      (try simp only [Act.put, List.getElem_toArray, List.getElem_cons_succ, List.getElem_cons_zero, List.setIfInBounds_toArray, List.set_cons_zero, List.set_cons_succ])
      refine wpAnyH_take (i := 2) (v := ?_) rfl (by kernel_rfl) (by kernel_rfl) (by kernel_rfl) (fun _ _ _ h => h) (Or.inl ⟨by kernel_rfl, ?_⟩) (by assumption) ?_
      rotate_left
      focus
        intro w9 hSw
        (try dsimp only at hSw)
        go_simp
        (try with_reducible rfl)
      (try simp only [Act.put, List.getElem_toArray, List.getElem_cons_succ, List.getElem_cons_zero, List.setIfInBounds_toArray, List.set_cons_zero, List.set_cons_succ])
      refine wpAnyH_take (i := 3) (v := ?_) rfl (by kernel_rfl) (by kernel_rfl) (by kernel_rfl) (fun _ _ _ h => h) (Or.inl ⟨by kernel_rfl, ?_⟩) (by assumption) ?_
      rotate_left
      focus
        intro w9 hSw
        (try dsimp only at hSw)
        go_simp
        (try with_reducible rfl)
      (try simp only [Act.put, List.getElem_toArray, List.getElem_cons_succ, List.getElem_cons_zero, List.setIfInBounds_toArray, List.set_cons_zero, List.set_cons_succ])
      refine wpAnyH_take (i := 4) (v := ?_) rfl (by kernel_rfl) (by kernel_rfl) (by kernel_rfl) (fun _ _ _ h => h) (Or.inl ⟨by kernel_rfl, ?_⟩) (by assumption) ?_
      rotate_left
      focus
        intro w9 hSw
        (try dsimp only at hSw)
        go_simp
        (try with_reducible rfl)
      (try simp only [Act.put, List.getElem_toArray, List.getElem_cons_succ, List.getElem_cons_zero, List.setIfInBounds_toArray, List.set_cons_zero, List.set_cons_succ])
      refine wpAnyH_ready (rs := [5]) (by kernel_rfl) (by simp) (AllReadyH.cons rfl (fun K hK => ?_) AllReadyH.nil)
      go_simp
      refine hK.out _ _ ?_ (fun hHeld => ?_)
      focus
       (try dsimp only)
       first | (simp [*, World.cell?_alloc_some, World.cell?_setCell_far, add_block]; done) | go_keep
      clear hK K
      refine wpAnyH_ready (rs := [6]) (by kernel_rfl) (by simp) (AllReadyH.cons rfl (fun K hK => ?_) AllReadyH.nil)
      go_simp
      refine hK.out _ _ ?_ (fun hHeld => ?_)
      focus
       (try dsimp only)
       first | (simp [*, World.cell?_alloc_some, World.cell?_setCell_far, add_block]; done) | go_keep
      clear hK K
      refine wpAnyH_ready (rs := [7]) (by kernel_rfl) (by simp) (AllReadyH.cons rfl (fun K hK => ?_) AllReadyH.nil)
      refine step_push_ll (by rfl) (.tmp 44) (.tmp 49) _ (by rfl) (wr.alloc (.cells (Array.replicate m (.int .i64 0)) 3)).drew (w.heap.size + 2) 22 3 .i64 24 Try.underlying23 info_ints (by omega) (by decide) v (by rfl) _ _ hll (by exact hbel1) _ _ (by rfl) (by simp) _ _ _ (List.replicate m 0) (by simp) (by exact HL.out) (by intro ad h; injection h with h; subst h; exact Nat.le_refl _) (by rw [HZ.out.2]; omega) (by simp; omega) ?_
      intro v2 w2 hL2 hb2'
      have hb2x := w1B.below hb2' (by omega)
      obtain ⟨_, _, _, k3x, _, _, _, f3x⟩ := hb2x.four
      obtain ⟨A2, c2, hv2, hq2⟩ := hL2.form
      clear hq2
      subst hv2
      refine hK.out _ _ ?_ (fun hHeld => ?_)
      focus
       (try dsimp only)
       first | (simp [*, World.cell?_alloc_some, World.cell?_setCell_far, add_block]; done) | go_keep
      clear hK K
      refine wpAnyH_take (i := 8) (v := ?_) rfl (by kernel_rfl) (by kernel_rfl) (by kernel_rfl) (fun _ _ _ h => h) (Or.inl ⟨by kernel_rfl, ?_⟩) (by assumption) ?_
      rotate_left
      focus
        intro w9 hSw
        (try dsimp only at hSw)
        go_simp
        (try with_reducible rfl)
      (try simp only [Act.put, List.getElem_toArray, List.getElem_cons_succ, List.getElem_cons_zero, List.setIfInBounds_toArray, List.set_cons_zero, List.set_cons_succ])
      refine wpAnyH_done (by kernel_rfl) (lastQ_step rfl (fun K hK => ?_)) _
      go_simp
      refine hK _ _ ?_
      clear hK K
      have hL3 : OwnLL w2 (w.heap.size + 2) 22 3 .i64 (.slice A2 (j + 1) c2) (zeros a b (j + 1)) := by
        rw [← HZ.out.1, zeros, List.length_replicate] at hL2
        exact hL2
      have hbw : Below (w.heap.size + 2) wr w2 := (hbel1.mono (by omega)).trans hb2'
      rw [HZ.out.2]
      go_wp2
      go_roundw
      case rel =>
        exact ⟨j + 1, _, by omega, by go_num, (hbx.trans (hbw.mono (by omega))).setCell (by simp) _, (hb1.below hbw (by omega)).far (by simp) _, hb2x.set_ 3 _, hL3.far (by simp) _⟩
      case measure => simp [intOf]; omega
    · have hjl : j = dn := by omega
      subst hjl
      obtain ⟨A', c', hv, hc', _, _⟩ := hll.form
      rw [zeros, List.length_replicate] at hv
      subst hv
      obtain ⟨k0, k1, k2, k3, _⟩ := hb2.four
      obtain ⟨q0, q1, q2, q3, f0, f1, f2, f3⟩ := hb1.four
      go_wp2
      refine bodyPost_ret (v := .tuple #[.agg #[.int .i64 a, .int .i64 b, .int .i64 c, .slice A' j c'], .int .i64 0]) (by simp [results, Try.results59, go_sem, q0, q1, q2, q3]) rfl ⟨A', c', rfl, ?_, ?_⟩
      · exact ((((hll.far (by simp) _).far (by simp) _).far (by simp) _).far (by simp) _).base_ (by omega)
      · exact (((hbx.setCell (by simp) _).setCell (by simp) _).setCell (by simp) _).setCell (by simp) _

end Go.Proofs.Ytbbflddhbamjbaa
