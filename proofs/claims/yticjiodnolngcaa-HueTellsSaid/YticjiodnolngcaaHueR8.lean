/- The reference's back of a place, kind 4. -/
import Derived.Test.YticjiodnolngcaaHueR3
set_option linter.unusedSimpArgs false
set_option linter.unusedVariables false
namespace Go.Proofs.Yticjiodnolngcaa
open Go.RowKit

/-- The samples as they stand after m rounds. -/
def back4L (l : List Int) (d : Int) : Nat → List Int
  | 0 => l
  | m + 1 => (back4L l d m).set (m + 1) (wrapP (l.getD (m + 1) 0 + (back4L l d m).getD m 0) d)
theorem back4L_length (l : List Int) (d : Int) (m : Nat) : (back4L l d m).length = l.length := by
  induction m with
  | zero => rfl
  | succ m ih => rw [back4L, List.length_set, ih]

set_option maxHeartbeats 4000000 in
set_option maxRecDepth 100000 in
theorem rback_4 {w : World} {B : Nat} {A : Option Addr} {cc : Nat} (l : List Int) (l2 : 2 ≤ l.length) (l4 : l.length ≤ 4) (hr : RdI w B .i64 A l) (hB : B ≤ w.heap.size) (hval : ∀ j, j < l.length → 0 ≤ l.getD j 0 ∧ l.getD j 0 ≤ 65535) (d : Int) (hd : 1 ≤ d ∧ d ≤ 16) :
    Calls Try.prog 52 #[.slice A l.length cc, .int .i64 4, .int .i64 d] w (PtPost w (back4L l d (l.length - 1))) := by
  have HW := Lib.hid (fun v W => wrapref_any v d W)
  obtain ⟨ad, rfl, hadB, _⟩ := hr.at_ (j := 0) (by omega)
  have HE := Lib.hid (fun j (hj : j < l.length) => (show w.cell? (ad.add j) = some (.int .i64 (l.getD j 0)) from by
    obtain ⟨ad', h, _, e⟩ := hr.at_ hj
    injection h with h
    subst h
    exact e))
  have HV := Lib.hid hval
  have HLn := Lib.hid l4
  clear hval
  go_enter Try.func52, Try.ntmps52
  go_wp2_with (first
    | (at_builtin; go_must (refine wpList_append_int _ rfl (.tmp 13) (.tmp 14) _ rfl w w.heap.size w.heap.size 3 .i64 8 Try.underlying22 info_int _ [] rfl (OwnI.empty w _ _ _ (Nat.le_refl _)) B (some ad) l.length cc l rfl rfl (hr.alloc hB _) (by have := HLn.out; simp; omega) (by omega) (by repeat (first | exact Below.refl _ _ | assumption | refine Below.drew ?_ | refine below_drewN ?_ _ | refine below_alloc ?_ _)) (Nat.le_refl _) (by simp) ?_); intro v1 w1 hown1' hb1; have hown1 : OwnI w1 w.heap.size 3 .i64 v1 l := hown1'; clear hown1'; obtain ⟨A1, cx, rfl, hcx, hrx, hbx⟩ := hown1.form; clear hrx hbx))
  obtain ⟨g, cy, hv, hgb, hgl, hcy, hcl, hfr, hst⟩ := hown1.row (by omega)
  simp only [Value.slice.injEq] at hv
  obtain ⟨rfl, _, rfl⟩ := hv
  have h00 := HV.out 0 (by omega)
  clear hcl hfr hst
  go_loopw [12] (fun i wr => ∃ (j m : Nat), j = m + 1 ∧ j ≤ l.length ∧ i = .int .i64 (j : Int) ∧ Below w.heap.size w wr ∧ OwnI wr w.heap.size 3 .i64 (.slice (some ⟨g, 0, none⟩) l.length cx) (back4L l d m) ∧ 0 ≤ (back4L l d m).getD m 0 ∧ (back4L l d m).getD m 0 ≤ 65535) (fun i _ => l.length - (intOf i).toNat)
  case atStart => exact ⟨1, 0, rfl, by omega, rfl, hb1, hown1, h00.1, h00.2⟩
  case round =>
    obtain ⟨j, m, hjm, hjl, rfl, hbr, hor, hx0, hx1⟩ := hrel
    by_cases hlt : j < l.length
    · have hji : (j : Int) < (l.length : Int) := by omega
      have hmi : (m : Int) < (l.length : Int) := by omega
      have hml : m < l.length := by omega
      have hz0 : IntKind.i64.wrap ((j : Int) - 1) = (m : Int) := by
        rw [show (j : Int) - 1 = (m : Int) by omega]
        exact IntWalk.i64_in _ (by omega)
      obtain ⟨g', cz, hv, hq1, hq2, hq3, hcl, hfr, hst⟩ := hor.row (by rw [back4L_length]; omega)
      simp only [Value.slice.injEq, Option.some.injEq, Addr.mk.injEq, and_true, true_and] at hv
      obtain ⟨rfl, hle, rfl⟩ := hv
      clear hle
      have ec := (hbr.cell (p := ad.add j) (by rw [add_block]; omega)).trans (HE.out j hlt)
      have ep := hcl m (by rw [back4L_length]; omega)
      have p1 := hfr j
      have o1 := hcl j (by rw [back4L_length]; omega)
      obtain ⟨y0, y1⟩ := HV.out j hlt
      obtain ⟨t0, t1⟩ := HV.out m hml
      have z1 := IntWalk.i64_in (l.getD j 0 + (back4L l d m).getD m 0) (by omega)
      have W1 := Lib.hid (fun W => HW.out (l.getD j 0 + (back4L l d m).getD m 0) W)
      have hrg := wrapP_range2 hd (l.getD j 0 + (back4L l d m).getD m 0)
      have HS := Lib.hid (show OwnI (wr.setCell ⟨g, j, none⟩ (.int .i64 (wrapP (l.getD j 0 + (back4L l d m).getD m 0) d))) w.heap.size 3 .i64 (.slice (some ⟨g, 0, none⟩) l.length cx) (back4L l d j) from by
        subst hjm
        exact hst (m + 1) _)
      have HN := Lib.hid (show (back4L l d j).getD j 0 = wrapP (l.getD j 0 + (back4L l d m).getD m 0) d from by
        subst hjm
        rw [back4L, List.getD_eq_getElem?_getD, List.getElem?_set_self (by rw [back4L_length]; omega)]
        rfl)
      have HB2 := Lib.hid (fun u => (show Below w.heap.size w (wr.setCell ⟨g, j, none⟩ (.int .i64 u)) from hbr.setCell hgb _))
      generalize wrapP (l.getD j 0 + (back4L l d m).getD m 0) d = u at *
      generalize l.getD j 0 = cj at *
      generalize (back4L l d m).getD m 0 = xm at *
      have hne : ad.block ≠ g := by omega
      replace hjm := Lib.hid hjm
      clear hst hcl hfr hor HW HE HV
      go_wp2
      refine wp_region_held_drew (S := (fun w' => w'.cell? (ad.add j) = some (.int .i64 cj) ∧ w'.cell? ⟨g, m, none⟩ = some (.int .i64 xm))) (by kernel_rfl) ?_ (fun hHeld => ?_)
      focus exact ⟨ec, ep⟩
      refine wpAnyH_take (i := 0) (v := ?_) rfl (by kernel_rfl) (by kernel_rfl) (by kernel_rfl) (fun _ _ _ h => h) (Or.inl ⟨by kernel_rfl, ?_⟩) (by assumption) ?_
      rotate_left
      focus
        intro w9 hSw
        (try dsimp only at hSw)
        go_simp
        (try with_reducible rfl)
      (try simp only [Act.put, List.getElem_toArray, List.getElem_cons_succ, List.getElem_cons_zero, List.setIfInBounds_toArray, List.set_cons_zero, List.set_cons_succ])
      refine wpAnyH_take (i := 1) (v := ?_) rfl (by kernel_rfl) (by kernel_rfl) (by kernel_rfl) (fun _ _ _ h => h) (Or.inl ⟨by kernel_rfl, ?_⟩) (by assumption) ?_
      rotate_left
      focus
        intro w9 hSw
        (try dsimp only at hSw)
        go_simp
        (try with_reducible rfl)
      (try simp only [Act.put, List.getElem_toArray, List.getElem_cons_succ, List.getElem_cons_zero, List.setIfInBounds_toArray, List.set_cons_zero, List.set_cons_succ])
      refine wpAnyH_take (i := 2) (v := ?_) rfl (by kernel_rfl) (by kernel_rfl) (by kernel_rfl) (fun _ _ _ h => h) (Or.inl ⟨by kernel_rfl, ?_⟩) (by assumption) ?_
      rotate_left
      focus
        intro w9 hSw
        (try dsimp only at hSw)
        go_simp
        (try with_reducible rfl)
      (try simp only [Act.put, List.getElem_toArray, List.getElem_cons_succ, List.getElem_cons_zero, List.setIfInBounds_toArray, List.set_cons_zero, List.set_cons_succ])
      refine wpAnyH_take (i := 3) (v := ?_) rfl (by kernel_rfl) (by kernel_rfl) (by kernel_rfl) (fun _ _ _ h => h) (Or.inl ⟨by kernel_rfl, ?_⟩) (by assumption) ?_
      rotate_left
      focus
        intro w9 hSw
        (try dsimp only at hSw)
        go_simp
        (try with_reducible rfl)
      (try simp only [Act.put, List.getElem_toArray, List.getElem_cons_succ, List.getElem_cons_zero, List.setIfInBounds_toArray, List.set_cons_zero, List.set_cons_succ])
      refine wpAnyH_take (i := 4) (v := ?_) rfl (by kernel_rfl) (by kernel_rfl) (by kernel_rfl) (fun _ _ _ h => h) (Or.inl ⟨by kernel_rfl, ?_⟩) (by assumption) ?_
      rotate_left
      focus
        intro w9 hSw
        (try dsimp only at hSw)
        go_simp
        (try with_reducible rfl)
      (try simp only [Act.put, List.getElem_toArray, List.getElem_cons_succ, List.getElem_cons_zero, List.setIfInBounds_toArray, List.set_cons_zero, List.set_cons_succ])
      refine wpAnyH_take (i := 5) (v := ?_) rfl (by kernel_rfl) (by kernel_rfl) (by kernel_rfl) (fun _ _ _ h => h) (Or.inl ⟨by kernel_rfl, ?_⟩) (by assumption) ?_
      rotate_left
      focus
        intro w9 hSw
        (try dsimp only at hSw)
        go_simp
        (try with_reducible rfl)
      (try simp only [Act.put, List.getElem_toArray, List.getElem_cons_succ, List.getElem_cons_zero, List.setIfInBounds_toArray, List.set_cons_zero, List.set_cons_succ])
      refine wpAnyH_take (i := 6) (v := ?_) rfl (by kernel_rfl) (by kernel_rfl) (by kernel_rfl) (fun _ _ _ h => h) (Or.inl ⟨by kernel_rfl, ?_⟩) (by assumption) ?_
      rotate_left
      focus
        intro w9 hSw
        (try dsimp only at hSw)
        go_simp
        (try with_reducible rfl)
      (try simp only [Act.put, List.getElem_toArray, List.getElem_cons_succ, List.getElem_cons_zero, List.setIfInBounds_toArray, List.set_cons_zero, List.set_cons_succ])
      refine wpAnyH_take (i := 7) (v := ?_) rfl (by kernel_rfl) (by kernel_rfl) (by kernel_rfl) (fun _ _ _ h => h) (Or.inl ⟨by kernel_rfl, ?_⟩) (by assumption) ?_
      rotate_left
      focus
        intro w9 hSw
        (try dsimp only at hSw)
        go_simp
        (try with_reducible rfl)
      (try simp only [Act.put, List.getElem_toArray, List.getElem_cons_succ, List.getElem_cons_zero, List.setIfInBounds_toArray, List.set_cons_zero, List.set_cons_succ])
      refine wpAnyH_take (i := 8) (v := ?_) rfl (by kernel_rfl) (by kernel_rfl) (by kernel_rfl) (fun _ _ _ h => h) (Or.inl ⟨by kernel_rfl, ?_⟩) (by assumption) ?_
      rotate_left
      focus
        intro w9 hSw
        (try dsimp only at hSw)
        go_simp
        (try with_reducible rfl)
      (try simp only [Act.put, List.getElem_toArray, List.getElem_cons_succ, List.getElem_cons_zero, List.setIfInBounds_toArray, List.set_cons_zero, List.set_cons_succ])
      refine wpAnyH_take (i := 9) (v := ?_) rfl (by kernel_rfl) (by kernel_rfl) (by kernel_rfl) (fun _ _ _ h => h) (Or.inl ⟨by kernel_rfl, ?_⟩) (by assumption) ?_
      rotate_left
      focus
        intro w9 hSw
        (try dsimp only at hSw)
        go_simp
        (try with_reducible rfl)
      (try simp only [Act.put, List.getElem_toArray, List.getElem_cons_succ, List.getElem_cons_zero, List.setIfInBounds_toArray, List.set_cons_zero, List.set_cons_succ])
      refine wpAnyH_take (i := 10) (v := ?_) rfl (by kernel_rfl) (by kernel_rfl) (by kernel_rfl) (fun _ _ _ h => h) (Or.inl ⟨by kernel_rfl, ?_⟩) (by assumption) ?_
      rotate_left
      focus
        intro w9 hSw
        (try dsimp only at hSw)
        go_simp
        (try with_reducible rfl)
      (try simp only [Act.put, List.getElem_toArray, List.getElem_cons_succ, List.getElem_cons_zero, List.setIfInBounds_toArray, List.set_cons_zero, List.set_cons_succ])
      refine wpAnyH_take (i := 11) (v := ?_) rfl (by kernel_rfl) (by kernel_rfl) (by kernel_rfl) (fun _ _ _ h => h) (Or.inl ⟨by kernel_rfl, ?_⟩) (by assumption) ?_
      rotate_left
      focus
        intro w9 hSw
        (try dsimp only at hSw)
        go_simp
        (try with_reducible rfl)
      (try simp only [Act.put, List.getElem_toArray, List.getElem_cons_succ, List.getElem_cons_zero, List.setIfInBounds_toArray, List.set_cons_zero, List.set_cons_succ])
      refine wpAnyH_take (i := 12) (v := ?_) rfl (by kernel_rfl) (by kernel_rfl) (by kernel_rfl) (fun _ _ _ h => h) (Or.inl ⟨by kernel_rfl, ?_⟩) (by assumption) ?_
      rotate_left
      focus
        intro w9 hSw
        (try dsimp only at hSw)
        go_simp
        (try with_reducible rfl)
      (try simp only [Act.put, List.getElem_toArray, List.getElem_cons_succ, List.getElem_cons_zero, List.setIfInBounds_toArray, List.set_cons_zero, List.set_cons_succ])
      refine wpAnyH_ready (rs := [13]) (by kernel_rfl) (by simp) (AllReadyH.cons rfl (fun K hK => ?_) AllReadyH.nil)
      go_simp
      go_at_call 22
      refine (W1.out _).mono ?_
      rintro e w2 ⟨rfl, rfl⟩
      refine hK.out _ _ ?_ (fun hHeld => ?_)
      focus exact ⟨ec, ep⟩
      clear hK K
      (try simp only [Act.put, List.getElem_toArray, List.getElem_cons_succ, List.getElem_cons_zero, List.setIfInBounds_toArray, List.set_cons_zero, List.set_cons_succ])
      refine wpAnyH_take (i := 14) (v := ?_) rfl (by kernel_rfl) (by kernel_rfl) (by kernel_rfl) (fun _ _ _ h => h) (Or.inl ⟨by kernel_rfl, ?_⟩) (by assumption) ?_
      rotate_left
      focus
        intro w9 hSw
        (try dsimp only at hSw)
        go_simp
        (try with_reducible rfl)
      (try simp only [Act.put, List.getElem_toArray, List.getElem_cons_succ, List.getElem_cons_zero, List.setIfInBounds_toArray, List.set_cons_zero, List.set_cons_succ])
      refine wpAnyH_ready (rs := [15]) (by kernel_rfl) (by simp) (AllReadyH.cons rfl (fun K hK => ?_) AllReadyH.nil)
      go_simp
      have k1 := (World.cell?_setCell_far wr ⟨g, j, none⟩ (ad.add j) (.int .i64 u) (by rw [add_block]; exact fun e9 => hne e9.symm)).trans ec
      have k2 := (World.cell?_setCell_other wr ⟨g, j, none⟩ ⟨g, m, none⟩ (.int .i64 u) (fun e9 => by injection e9 with _ e8; have := hjm.out; omega)).trans ep
      refine hK.out _ _ ?_ (fun hHeld => ?_)
      focus exact ⟨k1, k2⟩
      clear hK K
      (try simp only [Act.put, List.getElem_toArray, List.getElem_cons_succ, List.getElem_cons_zero, List.setIfInBounds_toArray, List.set_cons_zero, List.set_cons_succ])
      refine wpAnyH_done (by kernel_rfl) ?_ _
      (try simp only [Act.put, List.getElem_toArray, List.getElem_cons_succ, List.getElem_cons_zero, List.setIfInBounds_toArray, List.set_cons_zero, List.set_cons_succ])
      go_wp2
      go_roundw
      case rel => exact ⟨j + 1, j, rfl, by omega, by go_num, (HB2.out u).drew, HS.out.drew, (by rw [HN.out]; exact hrg.1), (by rw [HN.out]; exact hrg.2)⟩
      case measure => simp [intOf]; omega
    · have hm := Lib.hid (show m = l.length - 1 by omega)
      have hj : j = l.length := by omega
      clear hjm hlt hjl
      subst hj
      have hji : ¬ (l.length : Int) < (l.length : Int) := by omega
      go_wp2
      go_ret
      refine ⟨some ⟨g, 0, none⟩, cx, by rw [back4L_length]; rfl, ?_, hbr⟩
      rw [back4L_length, ← hm.out]
      exact hor
end Go.Proofs.Yticjiodnolngcaa
