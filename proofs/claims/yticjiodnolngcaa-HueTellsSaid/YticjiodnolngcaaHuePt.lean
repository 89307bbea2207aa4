/- point: a picture of one place. -/
import Derived.Test.YticjiodnolngcaaPicFacts
import Derived.Test.YticjiodnolngcaaOwnLit
import Derived.Test.YticjiodnolngcaaPicLast
set_option linter.unusedSimpArgs false
set_option linter.unusedVariables false
namespace Go.Proofs.Yticjiodnolngcaa
open Go.RowKit

def ptLL (l : List Int) : List (List Int) := l.map fun v => [v]
theorem ptLL_length (l : List Int) : (ptLL l).length = l.length := by simp [ptLL]
set_option maxHeartbeats 4000000 in
theorem point_any {w : World} {B : Nat} {l : List Int} {A : Option Addr} {c : Nat} (hr : RdI w B .i64 A l) (hB : B ≤ w.heap.size) (hl : l.length ≤ 4) (d : Int) :
    Calls Try.prog 21 #[.int .i64 d, .slice A l.length c] w fun e w' => ∃ A' c', e = .returned (.agg #[.int .i64 1, .int .i64 1, .int .i64 d, .slice A' l.length c']) ∧
      OwnLL w' w.heap.size 22 3 .i64 (.slice A' l.length c') (ptLL l) ∧ Below w.heap.size w w' := by
  go_enter Try.func21, Try.ntmps21
  go_wp2
  obtain ⟨wa, hwa⟩ : ∃ wa, wa = (w.alloc (.cells #[.int .i64 0, .int .i64 0, .int .i64 0, .slice none 0 0] 27)).alloc (.cells #[.int .i64 1, .int .i64 1, .int .i64 d, .slice none 0 0] 27) := ⟨_, rfl⟩
  rw [← hwa]
  have bxa : Below w.heap.size w wa := by rw [hwa]; exact below_alloc (below_alloc (Below.refl _ _) _) _
  have b1' : Blk wa w.heap.size 27 #[.int .i64 0, .int .i64 0, .int .i64 0, .slice none 0 0] := by
    rw [hwa]
    exact (Blk.new w _ _).alloc _
  have b2' : Blk wa (w.heap.size + 1) 27 #[.int .i64 1, .int .i64 1, .int .i64 d, .slice none 0 0] := by
    rw [hwa]
    exact Blk.new1 w _ _ _
  clear hwa
  go_loopw [6] (fun i wr => ∃ (j : Nat) (v : Value), j ≤ l.length ∧ i = .int .i64 j ∧ Below w.heap.size w wr ∧ Blk wr w.heap.size 27 #[.int .i64 0, .int .i64 0, .int .i64 0, .slice none 0 0] ∧
      Blk wr (w.heap.size + 1) 27 #[.int .i64 1, .int .i64 1, .int .i64 d, v] ∧ OwnLL wr (w.heap.size + 2) 22 3 .i64 v (ptLL (l.take j))) (fun i _ => l.length - (intOf i).toNat)
  case atStart => exact ⟨0, _, Nat.zero_le _, rfl, bxa, b1', b2', by simpa [ptLL] using OwnLL.nil_ _ _ _ _ _⟩
  case round =>
    obtain ⟨j, v, hj, rfl, hbx, hb1, hb2, hll⟩ := hrel
    by_cases hlt : j < l.length
    · obtain ⟨ad, rfl, hadB, hel⟩ := (hr.below hbx hB).at_ hlt
      have HZ : Hid (ptLL (l.take (j + 1)) = ptLL (l.take j) ++ [[l.getD j 0]] ∧ (ptLL (l.take j)).length = j) := by
        have e : l.getD j 0 = l[j] := by simp [List.getD, List.getElem?_eq_getElem hlt]
        rw [Hid, List.take_succ_eq_append_getElem hlt, e]
        exact ⟨by rw [ptLL, List.map_append]; rfl, by rw [ptLL_length, List.length_take]; omega⟩
      generalize l.getD j 0 = x at *
      have hsz : w.heap.size + 2 ≤ wr.heap.size := hb2.lt
      obtain ⟨k0, k1, k2, k3, f0, f1, f2, f3⟩ := hb2.four
      clear k0 k1 k2 f0 f1 f2
      have w1B := (hb2.alloc (.cells #[.int .i64 x] 3)).drewN 1
      have hbel1 : Below wr.heap.size wr (wr.alloc (.cells #[.int .i64 x] 3)).drew := Below.drew (below_alloc (Below.refl _ _) _)
      have k3a : (wr.alloc (.cells #[.int .i64 x] 3)).drew.cell? ⟨w.heap.size + 1, 3, none⟩ = some v := w1B.cell 3
      have hela := (hbel1.cell (p := ad.add j) (by rw [add_block]; omega)).trans hel
      have hbel2 : Below wr.heap.size wr ((wr.alloc (.cells #[.int .i64 x] 3)).alloc (.cells #[.slice (some ⟨wr.heap.size, 0, none⟩) 1 1] 22)).drew := Below.drew (below_alloc (below_alloc (Below.refl _ _) _) _)
      have k3b := (hbel2.cell (p := ⟨w.heap.size + 1, 3, none⟩) (by simp; omega)).trans k3
      have helb := (hbel2.cell (p := ad.add j) (by rw [add_block]; omega)).trans hel
      have HL : Hid (OwnI (wr.alloc (.cells #[.int .i64 x] 3)).drew (w.heap.size + 2) 3 .i64 (.slice (some ⟨wr.heap.size, 0, none⟩) [x].length 1) [x]) := (OwnI.lit wr (w.heap.size + 2) 3 .i64 [x] #[.int .i64 x] rfl hsz (by simp [maxLen])).drew
      have h1j : (0 : Int) ≤ (j : Int) := by omega
      go_wp2
      refine wp_region_last (S := (fun w' => w'.cell? ⟨w.heap.size + 1, 3, none⟩ = some v ∧ w'.cell? (ad.add j) = some (.int .i64 x))) 10 _ (by simp only [List.pop_toArray, List.dropLast_cons_cons, List.dropLast_singleton]; rfl) (by kernel_rfl) (by kernel_rfl) (by kernel_rfl) (by kernel_rfl) (by kernel_rfl) ?_ (fun hHeld => ?_)
      focus exact ⟨k3, hel⟩
      refine wpAnyH_take (i := 0) (v := ?_) rfl (by kernel_rfl) (by kernel_rfl) (by kernel_rfl) (fun _ _ _ h => h) (Or.inl ⟨by kernel_rfl, ?_⟩) (by assumption) ?_
      rotate_left
      focus
        intro w9 hSw
        (try dsimp only at hSw)
        go_simp
        (try with_reducible rfl)
      (try simp only [Act.put, List.getElem_toArray, List.getElem_cons_succ, List.getElem_cons_zero, List.setIfInBounds_toArray, List.set_cons_zero, List.set_cons_succ])
      refine wpAnyH_take (i := 1) (v := ?_) rfl (by kernel_rfl) (by kernel_rfl) (by kernel_rfl) (fun _ _ _ h => h) (Or.inl ⟨by kernel_rfl, ?_⟩) (by assumption) ?_
      rotate_left
      focus
        intro w9 hSw
        (try dsimp only at hSw)
        go_simp
        (try with_reducible rfl)
      (try simp only [Act.put, List.getElem_toArray, List.getElem_cons_succ, List.getElem_cons_zero, List.setIfInBounds_toArray, List.set_cons_zero, List.set_cons_succ])
      refine wpAnyH_take (i := 2) (v := ?_) rfl (by kernel_rfl) (by kernel_rfl) (by kernel_rfl) (fun _ _ _ h => h) (Or.inl ⟨by kernel_rfl, ?_⟩) (by assumption) ?_
      rotate_left
      focus
        intro w9 hSw
        (try dsimp only at hSw)
        go_simp
        (try with_reducible rfl)
      (try simp only [Act.put, List.getElem_toArray, List.getElem_cons_succ, List.getElem_cons_zero, List.setIfInBounds_toArray, List.set_cons_zero, List.set_cons_succ])
      refine wpAnyH_take (i := 3) (v := ?_) rfl (by kernel_rfl) (by kernel_rfl) (by kernel_rfl) (fun _ _ _ h => h) (Or.inl ⟨by kernel_rfl, ?_⟩) (by assumption) ?_
      rotate_left
      focus
        intro w9 hSw
        (try dsimp only at hSw)
        go_simp
        (try with_reducible rfl)
      (try simp only [Act.put, List.getElem_toArray, List.getElem_cons_succ, List.getElem_cons_zero, List.setIfInBounds_toArray, List.set_cons_zero, List.set_cons_succ])
      refine wpAnyH_take (i := 4) (v := ?_) rfl (by kernel_rfl) (by kernel_rfl) (by kernel_rfl) (fun _ _ _ h => h) (Or.inl ⟨by kernel_rfl, ?_⟩) (by assumption) ?_
      rotate_left
      focus
        intro w9 hSw
        (try dsimp only at hSw)
        go_simp
        (try with_reducible rfl)
      (try simp only [Act.put, List.getElem_toArray, List.getElem_cons_succ, List.getElem_cons_zero, List.setIfInBounds_toArray, List.set_cons_zero, List.set_cons_succ])
      refine wpAnyH_take (i := 5) (v := ?_) rfl (by kernel_rfl) (by kernel_rfl) (by kernel_rfl) (fun _ _ _ h => h) (Or.inl ⟨by kernel_rfl, ?_⟩) (by assumption) ?_
      rotate_left
      focus
        intro w9 hSw
        (try dsimp only at hSw)
        go_simp
        (try with_reducible rfl)
      (try simp only [Act.put, List.getElem_toArray, List.getElem_cons_succ, List.getElem_cons_zero, List.setIfInBounds_toArray, List.set_cons_zero, List.set_cons_succ])
      refine wpAnyH_ready (rs := [6]) (by kernel_rfl) (by simp) (AllReadyH.cons rfl (fun K hK => ?_) AllReadyH.nil)
      go_simp
      refine hK.out _ _ ?_ (fun hHeld => ?_)
      focus
       (try dsimp only)
       first | (simp [*, World.cell?_alloc_some, World.cell?_setCell_far, add_block]; done) | go_keep
      clear hK K
      refine wpAnyH_ready (rs := [7]) (by kernel_rfl) (by simp) (AllReadyH.cons rfl (fun K hK => ?_) AllReadyH.nil)
      go_simp
      refine hK.out _ _ ?_ (fun hHeld => ?_)
      focus
       (try dsimp only)
       first | (simp [*, World.cell?_alloc_some, World.cell?_setCell_far, add_block]; done) | go_keep
      clear hK K
      refine wpAnyH_ready (rs := [8]) (by kernel_rfl) (by simp) (AllReadyH.cons rfl (fun K hK => ?_) AllReadyH.nil)
      refine step_push_ll (by rfl) (.tmp 16) (.tmp 22) _ (by rfl) (wr.alloc (.cells #[.int .i64 x] 3)).drew (w.heap.size + 2) 22 3 .i64 24 Try.underlying25 info_ints (by omega) (by decide) v (by rfl) _ _ hll (by exact hbel1) _ _ (by rfl) (by simp) _ _ _ [x] (by simp) (by exact HL.out) (by intro ad h; injection h with h; subst h; exact Nat.le_refl _) (by rw [HZ.out.2]; omega) (by simp; omega) ?_
      intro v2 w2 hL2 hb2'
      have hb2x := w1B.below hb2' (by omega)
      obtain ⟨_, _, _, k3x, _, _, _, f3x⟩ := hb2x.four
      have hbw : Below (w.heap.size + 2) wr w2 := (hbel1.mono (by omega)).trans hb2'
      obtain ⟨A2, c2, hv2, hq2⟩ := hL2.form
      clear hq2
      subst hv2
      have helx : w2.cell? (ad.add j) = some (.int .i64 x) := (hbw.cell (p := ad.add j) (by rw [add_block]; omega)).trans hel
      refine hK.out _ _ ?_ (fun hHeld => ?_)
      focus
       (try dsimp only)
       first | (simp [*, World.cell?_alloc_some, World.cell?_setCell_far, add_block]; done) | go_keep
      clear hK K
      refine wpAnyH_take (i := 9) (v := ?_) rfl (by kernel_rfl) (by kernel_rfl) (by kernel_rfl) (fun _ _ _ h => h) (Or.inl ⟨by kernel_rfl, ?_⟩) (by assumption) ?_
      rotate_left
      focus
        intro w9 hSw
        (try dsimp only at hSw)
        go_simp
        (try with_reducible rfl)
      (try simp only [Act.put, List.getElem_toArray, List.getElem_cons_succ, List.getElem_cons_zero, List.setIfInBounds_toArray, List.set_cons_zero, List.set_cons_succ])
      refine wpAnyH_done (by kernel_rfl) (lastQ_step rfl (fun K hK => ?_)) _
      go_simp
      refine hK _ _ ?_
      clear hK K
      have hL3 : OwnLL w2 (w.heap.size + 2) 22 3 .i64 (.slice A2 (j + 1) c2) (ptLL (l.take (j + 1))) := by
        rw [← HZ.out.1, ptLL_length, List.length_take, Nat.min_eq_left (by omega)] at hL2
        exact hL2
      rw [HZ.out.2]
      go_wp2
      go_roundw
      case rel =>
        exact ⟨j + 1, _, by omega, by go_num, (hbx.trans (hbw.mono (by omega))).setCell (by simp) _, (hb1.below hbw (by omega)).far (by simp) _, hb2x.set_ 3 _, hL3.far (by simp) _⟩
      case measure => simp [intOf]; omega
    · have hjl : j = l.length := by omega
      subst hjl
      rw [List.take_length] at hll
      obtain ⟨A', c', hv, hc', _, _⟩ := hll.form
      rw [ptLL_length] at hv
      subst hv
      obtain ⟨k0, k1, k2, k3, _⟩ := hb2.four
      obtain ⟨q0, q1, q2, q3, f0, f1, f2, f3⟩ := hb1.four
      go_wp2
      refine bodyPost_ret (v := .agg #[.int .i64 1, .int .i64 1, .int .i64 d, .slice A' l.length c']) (by simp [results, Try.results21, go_sem, q0, q1, q2, q3]) rfl ⟨A', c', rfl, ?_, ?_⟩
      · exact ((((hll.far (by simp) _).far (by simp) _).far (by simp) _).far (by simp) _).base_ (by omega)
      · exact (((hbx.setCell (by simp) _).setCell (by simp) _).setCell (by simp) _).setCell (by simp) _
end Go.Proofs.Yticjiodnolngcaa
