/- The reference's back of a place. -/
import Derived.Test.YticjiodnolngcaaHueR3
set_option linter.unusedSimpArgs false
set_option linter.unusedVariables false
namespace Go.Proofs.Yticjiodnolngcaa
open Go.RowKit

set_option maxHeartbeats 4000000 in
set_option maxRecDepth 100000 in
theorem rback_2 {w : World} {B : Nat} {A : Option Addr} {cc : Nat} (a b c : Int) (tl : List Int) (htl : tl.length ≤ 1) (hr : RdI w B .i64 A (a :: b :: c :: tl)) (hB : B ≤ w.heap.size) (ha : 0 ≤ a ∧ a ≤ 65535) (hb : 0 ≤ b ∧ b ≤ 65535) (hc : 0 ≤ c ∧ c ≤ 65535) (d : Int) (hd : 1 ≤ d ∧ d ≤ 16) :
    Calls Try.prog 52 #[.slice A (a :: b :: c :: tl).length cc, .int .i64 2, .int .i64 d] w (PtPost w (wrapP (b + wrapP (wrapP (a - foldP c d / 2) d - foldP b d / 2) d) d :: wrapP (c + wrapP (a - foldP c d / 2) d) d :: wrapP (wrapP (a - foldP c d / 2) d - foldP b d / 2) d :: tl)) := by
  obtain ⟨a0, a1⟩ := ha
  obtain ⟨b0, b1⟩ := hb
  obtain ⟨c0, c1⟩ := hc
  have HW := Lib.hid (fun v W => wrapref_any v d W)
  have HLn := Lib.hid (show (a :: b :: c :: tl).length ≤ 4 by simp; omega)
  obtain ⟨ad, rfl, hadB, e0⟩ := hr.at_ (j := 0) (by simp)
  obtain ⟨ad', had, _, e1⟩ := hr.at_ (j := 1) (by simp)
  obtain rfl : ad = ad' := by injection had
  obtain ⟨ad', had, _, e2⟩ := hr.at_ (j := 2) (by simp)
  obtain rfl : ad = ad' := by injection had
  have hlen : (3 : Nat) ≤ (a :: b :: c :: tl).length := by simp
  have E0 := Lib.hid (show w.cell? (ad.add 0) = some (.int .i64 a) from e0)
  have E1 := Lib.hid (show w.cell? (ad.add 1) = some (.int .i64 b) from e1)
  have E2 := Lib.hid (show w.cell? (ad.add 2) = some (.int .i64 c) from e2)
  clear e0 e1 e2
  generalize hl : (a :: b :: c :: tl) = l at *
  have HLl := Lib.hid hl
  clear hl
  go_enter Try.func52, Try.ntmps52
  go_wp2_with (first
    | (at_builtin; go_must (refine wpList_append_int _ rfl (.tmp 13) (.tmp 14) _ rfl w w.heap.size w.heap.size 3 .i64 8 Try.underlying22 info_int _ [] rfl (OwnI.empty w _ _ _ (Nat.le_refl _)) B (some ad) l.length cc l rfl rfl (hr.alloc hB _) (by have := HLn.out; simp; omega) (by omega) (by repeat (first | exact Below.refl _ _ | assumption | refine Below.drew ?_ | refine below_drewN ?_ _ | refine below_alloc ?_ _)) (Nat.le_refl _) (by simp) ?_); intro v1 w1 hown1' hb1; have hown1 : OwnI w1 w.heap.size 3 .i64 v1 l := hown1'; clear hown1'; obtain ⟨A1, cx, rfl, hcx, hrx, hbx⟩ := hown1.form; clear hrx hbx))
  obtain ⟨g, cy, hv, hgb, hgl, hcy, hcl, hfr, hst⟩ := hown1.row (by omega)
  simp only [Value.slice.injEq] at hv
  obtain ⟨rfl, _, rfl⟩ := hv
  have e0 : w1.cell? ad = some (.int .i64 a) := by have := (hb1.cell (p := ad.add 0) (by rw [add_block]; omega)).trans E0.out; simpa [Addr.add] using this
  have e1 : w1.cell? ⟨ad.block, ad.off + 1, none⟩ = some (.int .i64 b) := (hb1.cell (p := ad.add 1) (by rw [add_block]; omega)).trans E1.out
  have e2 : w1.cell? ⟨ad.block, ad.off + 2, none⟩ = some (.int .i64 c) := (hb1.cell (p := ad.add 2) (by rw [add_block]; omega)).trans E2.out
  have hne : ad.block ≠ g := by omega
  have hadw : ad.block < w.heap.size := by omega
  have o0 := hcl 0 (by omega)
  have o1 := hcl 1 (by omega)
  have o2 := hcl 2 (by omega)
  have p0 := hfr 0
  have p1 := hfr 1
  have p2 := hfr 2
  have hl3 : (2 : Int) < (l.length : Int) := by omega
  have hn0 : 0 < l.length := by omega
  have hn1 : 1 < l.length := by omega
  have hn2 : 2 < l.length := by omega
  have hl2 : (1 : Int) < (l.length : Int) := by omega
  have hl1 : (0 : Int) < (l.length : Int) := by omega
  have rg := fun v => wrapP_range2 hd v
  have rf := fun v => foldP_range hd v
  have r1 := rf c
  have r2 := rf b
  have F1 := Lib.hid (fun W => foldref_any c d W)
  have F2 := Lib.hid (fun W => foldref_any b d W)
  generalize foldP c d = f1 at *
  generalize foldP b d = f2 at *
  have H1 := Lib.hid (fun W => half_any f1 W)
  have H2 := Lib.hid (fun W => half_any f2 W)
  have q1 := rg (a - f1 / 2)
  have W1 := Lib.hid (fun W => HW.out (a - f1 / 2) W)
  generalize wrapP (a - f1 / 2) d = t at *
  have q2 := rg (c + t)
  have W2 := Lib.hid (fun W => HW.out (c + t) W)
  have q3 := rg (t - f2 / 2)
  have W3 := Lib.hid (fun W => HW.out (t - f2 / 2) W)
  generalize wrapP (c + t) d = u at *
  generalize wrapP (t - f2 / 2) d = v at *
  have W4 := Lib.hid (fun W => HW.out (b + v) W)
  generalize wrapP (b + v) d = u0 at *
  have z1 := IntWalk.i64_in (a - f1 / 2) (by omega)
  have z2 := IntWalk.i64_in (c + t) (by omega)
  have z3 := IntWalk.i64_in (t - f2 / 2) (by omega)
  have z4 := IntWalk.i64_in (b + v) (by omega)
  clear rg rf HW
  refine wp_region_held_drew (S := (fun w' => w'.cell? ad = some (.int .i64 a) ∧ w'.cell? ⟨ad.block, ad.off + 1, none⟩ = some (.int .i64 b) ∧ w'.cell? ⟨ad.block, ad.off + 2, none⟩ = some (.int .i64 c))) (by kernel_rfl) ?_ (fun hHeld => ?_)
  focus exact ⟨e0, e1, e2⟩
  refine wpAnyH_take (i := 0) (v := ?_) rfl (by kernel_rfl) (by kernel_rfl) (by kernel_rfl) (fun _ _ _ h => h) (Or.inl ⟨by kernel_rfl, ?_⟩) (by assumption) ?_
  rotate_left
  focus
    intro w9 hSw
    (try dsimp only at hSw)
    go_simp
    (try with_reducible rfl)
  (try simp only [Act.put, List.getElem_toArray, List.getElem_cons_succ, List.getElem_cons_zero, List.setIfInBounds_toArray, List.set_cons_zero, List.set_cons_succ])
  refine wpAnyH_take (i := 1) (v := ?_) rfl (by kernel_rfl) (by kernel_rfl) (by kernel_rfl) (fun _ _ _ h => h) (Or.inl ⟨by kernel_rfl, ?_⟩) (by assumption) ?_
  rotate_left
  focus
    intro w9 hSw
    (try dsimp only at hSw)
    go_simp
    (try with_reducible rfl)
  (try simp only [Act.put, List.getElem_toArray, List.getElem_cons_succ, List.getElem_cons_zero, List.setIfInBounds_toArray, List.set_cons_zero, List.set_cons_succ])
  refine wpAnyH_take (i := 2) (v := ?_) rfl (by kernel_rfl) (by kernel_rfl) (by kernel_rfl) (fun _ _ _ h => h) (Or.inl ⟨by kernel_rfl, ?_⟩) (by assumption) ?_
  rotate_left
  focus
    intro w9 hSw
    (try dsimp only at hSw)
    go_simp
    (try with_reducible rfl)
  (try simp only [Act.put, List.getElem_toArray, List.getElem_cons_succ, List.getElem_cons_zero, List.setIfInBounds_toArray, List.set_cons_zero, List.set_cons_succ])
  refine wpAnyH_take (i := 3) (v := ?_) rfl (by kernel_rfl) (by kernel_rfl) (by kernel_rfl) (fun _ _ _ h => h) (Or.inl ⟨by kernel_rfl, ?_⟩) (by assumption) ?_
  rotate_left
  focus
    intro w9 hSw
    (try dsimp only at hSw)
    go_simp
    (try with_reducible rfl)
  (try simp only [Act.put, List.getElem_toArray, List.getElem_cons_succ, List.getElem_cons_zero, List.setIfInBounds_toArray, List.set_cons_zero, List.set_cons_succ])
  refine wpAnyH_take (i := 4) (v := ?_) rfl (by kernel_rfl) (by kernel_rfl) (by kernel_rfl) (fun _ _ _ h => h) (Or.inl ⟨by kernel_rfl, ?_⟩) (by assumption) ?_
  rotate_left
  focus
    intro w9 hSw
    (try dsimp only at hSw)
    go_simp
    (try with_reducible rfl)
  (try simp only [Act.put, List.getElem_toArray, List.getElem_cons_succ, List.getElem_cons_zero, List.setIfInBounds_toArray, List.set_cons_zero, List.set_cons_succ])
  refine wpAnyH_take (i := 5) (v := ?_) rfl (by kernel_rfl) (by kernel_rfl) (by kernel_rfl) (fun _ _ _ h => h) (Or.inl ⟨by kernel_rfl, ?_⟩) (by assumption) ?_
  rotate_left
  focus
    intro w9 hSw
    (try dsimp only at hSw)
    go_simp
    (try with_reducible rfl)
  (try simp only [Act.put, List.getElem_toArray, List.getElem_cons_succ, List.getElem_cons_zero, List.setIfInBounds_toArray, List.set_cons_zero, List.set_cons_succ])
  refine wpAnyH_take (i := 6) (v := ?_) rfl (by kernel_rfl) (by kernel_rfl) (by kernel_rfl) (fun _ _ _ h => h) (Or.inl ⟨by kernel_rfl, ?_⟩) (by assumption) ?_
  rotate_left
  focus
    intro w9 hSw
    (try dsimp only at hSw)
    go_simp
    (try with_reducible rfl)
  (try simp only [Act.put, List.getElem_toArray, List.getElem_cons_succ, List.getElem_cons_zero, List.setIfInBounds_toArray, List.set_cons_zero, List.set_cons_succ])
  refine wpAnyH_take (i := 10) (v := ?_) rfl (by kernel_rfl) (by kernel_rfl) (by kernel_rfl) (fun _ _ _ h => h) (Or.inl ⟨by kernel_rfl, ?_⟩) (by assumption) ?_
  rotate_left
  focus
    intro w9 hSw
    (try dsimp only at hSw)
    go_simp
    (try with_reducible rfl)
  (try simp only [Act.put, List.getElem_toArray, List.getElem_cons_succ, List.getElem_cons_zero, List.setIfInBounds_toArray, List.set_cons_zero, List.set_cons_succ])
  refine wpAnyH_ready (rs := [7]) (by kernel_rfl) (by simp) (AllReadyH.cons rfl (fun K hK => ?_) AllReadyH.nil)
  go_simp
  go_at_call 42
  refine (F1.out _).mono ?_
  rintro e w2 ⟨rfl, rfl⟩
  refine hK.out _ _ ?_ (fun hHeld => ?_)
  focus exact ⟨e0, e1, e2⟩
  clear hK K
  (try simp only [Act.put, List.getElem_toArray, List.getElem_cons_succ, List.getElem_cons_zero, List.setIfInBounds_toArray, List.set_cons_zero, List.set_cons_succ])
  refine wpAnyH_ready (rs := [8]) (by kernel_rfl) (by simp) (AllReadyH.cons rfl (fun K hK => ?_) AllReadyH.nil)
  go_simp
  go_at_call 53
  refine (H1.out _).mono ?_
  rintro e w2 ⟨rfl, rfl⟩
  refine hK.out _ _ ?_ (fun hHeld => ?_)
  focus exact ⟨e0, e1, e2⟩
  clear hK K
  (try simp only [Act.put, List.getElem_toArray, List.getElem_cons_succ, List.getElem_cons_zero, List.setIfInBounds_toArray, List.set_cons_zero, List.set_cons_succ])
  refine wpAnyH_take (i := 9) (v := ?_) rfl (by kernel_rfl) (by kernel_rfl) (by kernel_rfl) (fun _ _ _ h => h) (Or.inl ⟨by kernel_rfl, ?_⟩) (by assumption) ?_
  rotate_left
  focus
    intro w9 hSw
    (try dsimp only at hSw)
    go_simp
    (try with_reducible rfl)
  (try simp only [Act.put, List.getElem_toArray, List.getElem_cons_succ, List.getElem_cons_zero, List.setIfInBounds_toArray, List.set_cons_zero, List.set_cons_succ])
  refine wpAnyH_ready (rs := [11]) (by kernel_rfl) (by simp) (AllReadyH.cons rfl (fun K hK => ?_) AllReadyH.nil)
  go_simp
  go_at_call 22
  refine (W1.out _).mono ?_
  rintro e w2 ⟨rfl, rfl⟩
  refine hK.out _ _ ?_ (fun hHeld => ?_)
  focus exact ⟨e0, e1, e2⟩
  clear hK K
  (try simp only [Act.put, List.getElem_toArray, List.getElem_cons_succ, List.getElem_cons_zero, List.setIfInBounds_toArray, List.set_cons_zero, List.set_cons_succ])
  refine wpAnyH_take (i := 12) (v := ?_) rfl (by kernel_rfl) (by kernel_rfl) (by kernel_rfl) (fun _ _ _ h => h) (Or.inl ⟨by kernel_rfl, ?_⟩) (by assumption) ?_
  rotate_left
  focus
    intro w9 hSw
    (try dsimp only at hSw)
    go_simp
    (try with_reducible rfl)
  (try simp only [Act.put, List.getElem_toArray, List.getElem_cons_succ, List.getElem_cons_zero, List.setIfInBounds_toArray, List.set_cons_zero, List.set_cons_succ])
  refine wpAnyH_done (by kernel_rfl) ?_ _
  (try simp only [Act.put, List.getElem_toArray, List.getElem_cons_succ, List.getElem_cons_zero, List.setIfInBounds_toArray, List.set_cons_zero, List.set_cons_succ])
  go_wp2_with (first
    | (go_at_call 42; with_reducible refine (F2.out _).mono ?_; rintro e w2 ⟨rfl, rfl⟩)
    | (go_at_call 53; with_reducible refine (H2.out _).mono ?_; rintro e w2 ⟨rfl, rfl⟩)
    | (go_at_call 22; with_reducible refine (W2.out _).mono ?_; rintro e w2 ⟨rfl, rfl⟩)
    | (go_at_call 22; with_reducible refine (W3.out _).mono ?_; rintro e w2 ⟨rfl, rfl⟩)
    | (go_at_call 22; with_reducible refine (W4.out _).mono ?_; rintro e w2 ⟨rfl, rfl⟩))
  have hs2 := (((hown1.drew).set1 (j := 0) (by omega) u0).set1 (j := 1) (by simp only [List.length_set]; omega) u).set1 (j := 2) (by simp only [List.length_set]; omega) v
  have hL : l.length = (u0 :: u :: v :: tl).length := by rw [← HLl.out]; rfl
  have HF : ((l.set 0 u0).set 1 u).set 2 v = u0 :: u :: v :: tl := by rw [← HLl.out]; rfl
  rw [HF, hL] at hs2
  go_ret
  refine ⟨some ⟨g, 0, none⟩, cx, by rw [← hL]; rfl, hs2, ?_⟩
  repeat refine Below.drew ?_
  exact Below.setCell (p := ⟨g, 2, none⟩) (Below.setCell (p := ⟨g, 1, none⟩) (Below.setCell (p := ⟨g, 0, none⟩) (by first | exact hb1 | exact Below.drew hb1) hgb _) hgb _) hgb _
end Go.Proofs.Yticjiodnolngcaa
