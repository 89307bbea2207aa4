/- The reference's back of a place. -/
import Derived.Test.YticjiodnolngcaaHueR3
set_option linter.unusedSimpArgs false
set_option linter.unusedVariables false
namespace Go.Proofs.Yticjiodnolngcaa
open Go.RowKit

set_option maxHeartbeats 4000000 in
set_option maxRecDepth 100000 in
theorem rback_1 {w : World} {B : Nat} {A : Option Addr} {cc : Nat} (a b c : Int) (tl : List Int) (htl : tl.length ≤ 1) (hr : RdI w B .i64 A (a :: b :: c :: tl)) (hB : B ≤ w.heap.size) (ha : 0 ≤ a ∧ a ≤ 65535) (hb : 0 ≤ b ∧ b ≤ 65535) (hc : 0 ≤ c ∧ c ≤ 65535) (d : Int) (hd : 1 ≤ d ∧ d ≤ 16) :
    Calls Try.prog 52 #[.slice A (a :: b :: c :: tl).length cc, .int .i64 1, .int .i64 d] w (PtPost w (wrapP (a + b) d :: b :: wrapP (c + b) d :: tl)) := by
  obtain ⟨a0, a1⟩ := ha
  obtain ⟨b0, b1⟩ := hb
  obtain ⟨c0, c1⟩ := hc
  have HW := Lib.hid (fun v W => wrapref_any v d W)
  have HLn := Lib.hid (show (a :: b :: c :: tl).length ≤ 4 by simp; omega)
  obtain ⟨ad, rfl, hadB, e0⟩ := hr.at_ (j := 0) (by simp)
  obtain ⟨ad', had, _, e1⟩ := hr.at_ (j := 1) (by simp)
  obtain rfl : ad = ad' := by injection had
  obtain ⟨ad', had, _, e2⟩ := hr.at_ (j := 2) (by simp)
  obtain rfl : ad = ad' := by injection had
  have hlen : (3 : Nat) ≤ (a :: b :: c :: tl).length := by simp
  have E0 := Lib.hid (show w.cell? (ad.add 0) = some (.int .i64 a) from e0)
  have E1 := Lib.hid (show w.cell? (ad.add 1) = some (.int .i64 b) from e1)
  have E2 := Lib.hid (show w.cell? (ad.add 2) = some (.int .i64 c) from e2)
  clear e0 e1 e2
  generalize hl : (a :: b :: c :: tl) = l at *
  have HLl := Lib.hid hl
  clear hl
  go_enter Try.func52, Try.ntmps52
  go_wp2_with (first
    | (at_builtin; go_must (refine wpList_append_int _ rfl (.tmp 13) (.tmp 14) _ rfl w w.heap.size w.heap.size 3 .i64 8 Try.underlying22 info_int _ [] rfl (OwnI.empty w _ _ _ (Nat.le_refl _)) B (some ad) l.length cc l rfl rfl (hr.alloc hB _) (by have := HLn.out; simp; omega) (by omega) (by repeat (first | exact Below.refl _ _ | assumption | refine Below.drew ?_ | refine below_drewN ?_ _ | refine below_alloc ?_ _)) (Nat.le_refl _) (by simp) ?_); intro v1 w1 hown1' hb1; have hown1 : OwnI w1 w.heap.size 3 .i64 v1 l := hown1'; clear hown1'; obtain ⟨A1, cx, rfl, hcx, hrx, hbx⟩ := hown1.form; clear hrx hbx))
  obtain ⟨g, cy, hv, hgb, hgl, hcy, hcl, hfr, hst⟩ := hown1.row (by omega)
  simp only [Value.slice.injEq] at hv
  obtain ⟨rfl, _, rfl⟩ := hv
  have e0 : w1.cell? ad = some (.int .i64 a) := by have := (hb1.cell (p := ad.add 0) (by rw [add_block]; omega)).trans E0.out; simpa [Addr.add] using this
  have e1 : w1.cell? ⟨ad.block, ad.off + 1, none⟩ = some (.int .i64 b) := (hb1.cell (p := ad.add 1) (by rw [add_block]; omega)).trans E1.out
  have e2 : w1.cell? ⟨ad.block, ad.off + 2, none⟩ = some (.int .i64 c) := (hb1.cell (p := ad.add 2) (by rw [add_block]; omega)).trans E2.out
  have hne : ad.block ≠ g := by omega
  have hadw : ad.block < w.heap.size := by omega
  have o0 := hcl 0 (by omega)
  have o1 := hcl 1 (by omega)
  have o2 := hcl 2 (by omega)
  have p0 := hfr 0
  have p1 := hfr 1
  have p2 := hfr 2
  have hl3 : (2 : Int) < (l.length : Int) := by omega
  have hn0 : 0 < l.length := by omega
  have hn1 : 1 < l.length := by omega
  have hn2 : 2 < l.length := by omega
  have hl2 : (1 : Int) < (l.length : Int) := by omega
  have hl1 : (0 : Int) < (l.length : Int) := by omega
  have z1 := IntWalk.i64_in (a + b) (by omega)
  have z2 := IntWalk.i64_in (c + b) (by omega)
  have W1 := Lib.hid (fun W => HW.out (a + b) W)
  have W2 := Lib.hid (fun W => HW.out (c + b) W)
  generalize wrapP (a + b) d = u1 at *
  generalize wrapP (c + b) d = u2 at *
  have hs1 := hst 0 u1
  obtain ⟨g', cz, hv, hq1, hq2, hq3, hcl2, hfr2, hst2⟩ := hs1.row (by rw [List.length_set]; omega)
  simp only [Value.slice.injEq, Option.some.injEq, Addr.mk.injEq, and_true] at hv
  obtain ⟨rfl, hv2, rfl⟩ := hv
  clear hv2
  have hs2 := hst2 2 u2
  have hb2 : Below w.heap.size w ((w1.setCell ⟨g, 0, none⟩ (.int .i64 u1)).setCell ⟨g, 2, none⟩ (.int .i64 u2)) := Below.setCell (p := ⟨g, 2, none⟩) (Below.setCell (p := ⟨g, 0, none⟩) hb1 hgb (.int .i64 u1)) hgb (.int .i64 u2)
  have HF := Lib.hid (show (l.set 0 u1).set 2 u2 = u1 :: b :: u2 :: tl by rw [← HLl.out]; rfl)
  have HS2 := Lib.hid hs2
  have HB2 := Lib.hid hb2
  clear hst hst2 hs1 hs2 hb2 hown1 hcl hfr HW o1 p1 hq1 hq2 hq3 hcl2 hfr2
  refine wp_region_held_drew (S := (fun w' => w'.cell? ad = some (.int .i64 a) ∧ w'.cell? ⟨ad.block, ad.off + 1, none⟩ = some (.int .i64 b) ∧ w'.cell? ⟨ad.block, ad.off + 2, none⟩ = some (.int .i64 c))) (by kernel_rfl) ?_ (fun hHeld => ?_)
  focus exact ⟨e0, e1, e2⟩
  refine wpAnyH_take (i := 0) (v := ?_) rfl (by kernel_rfl) (by kernel_rfl) (by kernel_rfl) (fun _ _ _ h => h) (Or.inl ⟨by kernel_rfl, ?_⟩) (by assumption) ?_
  rotate_left
  focus
    intro w9 hSw
    (try dsimp only at hSw)
    go_simp
    (try with_reducible rfl)
  (try simp only [Act.put, List.getElem_toArray, List.getElem_cons_succ, List.getElem_cons_zero, List.setIfInBounds_toArray, List.set_cons_zero, List.set_cons_succ])
  refine wpAnyH_take (i := 1) (v := ?_) rfl (by kernel_rfl) (by kernel_rfl) (by kernel_rfl) (fun _ _ _ h => h) (Or.inl ⟨by kernel_rfl, ?_⟩) (by assumption) ?_
  rotate_left
  focus
    intro w9 hSw
    (try dsimp only at hSw)
    go_simp
    (try with_reducible rfl)
  (try simp only [Act.put, List.getElem_toArray, List.getElem_cons_succ, List.getElem_cons_zero, List.setIfInBounds_toArray, List.set_cons_zero, List.set_cons_succ])
  refine wpAnyH_take (i := 2) (v := ?_) rfl (by kernel_rfl) (by kernel_rfl) (by kernel_rfl) (fun _ _ _ h => h) (Or.inl ⟨by kernel_rfl, ?_⟩) (by assumption) ?_
  rotate_left
  focus
    intro w9 hSw
    (try dsimp only at hSw)
    go_simp
    (try with_reducible rfl)
  (try simp only [Act.put, List.getElem_toArray, List.getElem_cons_succ, List.getElem_cons_zero, List.setIfInBounds_toArray, List.set_cons_zero, List.set_cons_succ])
  refine wpAnyH_take (i := 3) (v := ?_) rfl (by kernel_rfl) (by kernel_rfl) (by kernel_rfl) (fun _ _ _ h => h) (Or.inl ⟨by kernel_rfl, ?_⟩) (by assumption) ?_
  rotate_left
  focus
    intro w9 hSw
    (try dsimp only at hSw)
    go_simp
    (try with_reducible rfl)
  (try simp only [Act.put, List.getElem_toArray, List.getElem_cons_succ, List.getElem_cons_zero, List.setIfInBounds_toArray, List.set_cons_zero, List.set_cons_succ])
  refine wpAnyH_take (i := 4) (v := ?_) rfl (by kernel_rfl) (by kernel_rfl) (by kernel_rfl) (fun _ _ _ h => h) (Or.inl ⟨by kernel_rfl, ?_⟩) (by assumption) ?_
  rotate_left
  focus
    intro w9 hSw
    (try dsimp only at hSw)
    go_simp
    (try with_reducible rfl)
  (try simp only [Act.put, List.getElem_toArray, List.getElem_cons_succ, List.getElem_cons_zero, List.setIfInBounds_toArray, List.set_cons_zero, List.set_cons_succ])
  refine wpAnyH_take (i := 5) (v := ?_) rfl (by kernel_rfl) (by kernel_rfl) (by kernel_rfl) (fun _ _ _ h => h) (Or.inl ⟨by kernel_rfl, ?_⟩) (by assumption) ?_
  rotate_left
  focus
    intro w9 hSw
    (try dsimp only at hSw)
    go_simp
    (try with_reducible rfl)
  (try simp only [Act.put, List.getElem_toArray, List.getElem_cons_succ, List.getElem_cons_zero, List.setIfInBounds_toArray, List.set_cons_zero, List.set_cons_succ])
  refine wpAnyH_take (i := 6) (v := ?_) rfl (by kernel_rfl) (by kernel_rfl) (by kernel_rfl) (fun _ _ _ h => h) (Or.inl ⟨by kernel_rfl, ?_⟩) (by assumption) ?_
  rotate_left
  focus
    intro w9 hSw
    (try dsimp only at hSw)
    go_simp
    (try with_reducible rfl)
  (try simp only [Act.put, List.getElem_toArray, List.getElem_cons_succ, List.getElem_cons_zero, List.setIfInBounds_toArray, List.set_cons_zero, List.set_cons_succ])
  refine wpAnyH_take (i := 7) (v := ?_) rfl (by kernel_rfl) (by kernel_rfl) (by kernel_rfl) (fun _ _ _ h => h) (Or.inl ⟨by kernel_rfl, ?_⟩) (by assumption) ?_
  rotate_left
  focus
    intro w9 hSw
    (try dsimp only at hSw)
    go_simp
    (try with_reducible rfl)
  (try simp only [Act.put, List.getElem_toArray, List.getElem_cons_succ, List.getElem_cons_zero, List.setIfInBounds_toArray, List.set_cons_zero, List.set_cons_succ])
  refine wpAnyH_take (i := 8) (v := ?_) rfl (by kernel_rfl) (by kernel_rfl) (by kernel_rfl) (fun _ _ _ h => h) (Or.inl ⟨by kernel_rfl, ?_⟩) (by assumption) ?_
  rotate_left
  focus
    intro w9 hSw
    (try dsimp only at hSw)
    go_simp
    (try with_reducible rfl)
  (try simp only [Act.put, List.getElem_toArray, List.getElem_cons_succ, List.getElem_cons_zero, List.setIfInBounds_toArray, List.set_cons_zero, List.set_cons_succ])
  refine wpAnyH_take (i := 9) (v := ?_) rfl (by kernel_rfl) (by kernel_rfl) (by kernel_rfl) (fun _ _ _ h => h) (Or.inl ⟨by kernel_rfl, ?_⟩) (by assumption) ?_
  rotate_left
  focus
    intro w9 hSw
    (try dsimp only at hSw)
    go_simp
    (try with_reducible rfl)
  (try simp only [Act.put, List.getElem_toArray, List.getElem_cons_succ, List.getElem_cons_zero, List.setIfInBounds_toArray, List.set_cons_zero, List.set_cons_succ])
  refine wpAnyH_take (i := 11) (v := ?_) rfl (by kernel_rfl) (by kernel_rfl) (by kernel_rfl) (fun _ _ _ h => h) (Or.inl ⟨by kernel_rfl, ?_⟩) (by assumption) ?_
  rotate_left
  focus
    intro w9 hSw
    (try dsimp only at hSw)
    go_simp
    (try with_reducible rfl)
  (try simp only [Act.put, List.getElem_toArray, List.getElem_cons_succ, List.getElem_cons_zero, List.setIfInBounds_toArray, List.set_cons_zero, List.set_cons_succ])
  refine wpAnyH_take (i := 12) (v := ?_) rfl (by kernel_rfl) (by kernel_rfl) (by kernel_rfl) (fun _ _ _ h => h) (Or.inl ⟨by kernel_rfl, ?_⟩) (by assumption) ?_
  rotate_left
  focus
    intro w9 hSw
    (try dsimp only at hSw)
    go_simp
    (try with_reducible rfl)
  (try simp only [Act.put, List.getElem_toArray, List.getElem_cons_succ, List.getElem_cons_zero, List.setIfInBounds_toArray, List.set_cons_zero, List.set_cons_succ])
  refine wpAnyH_take (i := 13) (v := ?_) rfl (by kernel_rfl) (by kernel_rfl) (by kernel_rfl) (fun _ _ _ h => h) (Or.inl ⟨by kernel_rfl, ?_⟩) (by assumption) ?_
  rotate_left
  focus
    intro w9 hSw
    (try dsimp only at hSw)
    go_simp
    (try with_reducible rfl)
  (try simp only [Act.put, List.getElem_toArray, List.getElem_cons_succ, List.getElem_cons_zero, List.setIfInBounds_toArray, List.set_cons_zero, List.set_cons_succ])
  refine wpAnyH_take (i := 14) (v := ?_) rfl (by kernel_rfl) (by kernel_rfl) (by kernel_rfl) (fun _ _ _ h => h) (Or.inl ⟨by kernel_rfl, ?_⟩) (by assumption) ?_
  rotate_left
  focus
    intro w9 hSw
    (try dsimp only at hSw)
    go_simp
    (try with_reducible rfl)
  (try simp only [Act.put, List.getElem_toArray, List.getElem_cons_succ, List.getElem_cons_zero, List.setIfInBounds_toArray, List.set_cons_zero, List.set_cons_succ])
  refine wpAnyH_take (i := 15) (v := ?_) rfl (by kernel_rfl) (by kernel_rfl) (by kernel_rfl) (fun _ _ _ h => h) (Or.inl ⟨by kernel_rfl, ?_⟩) (by assumption) ?_
  rotate_left
  focus
    intro w9 hSw
    (try dsimp only at hSw)
    go_simp
    (try with_reducible rfl)
  (try simp only [Act.put, List.getElem_toArray, List.getElem_cons_succ, List.getElem_cons_zero, List.setIfInBounds_toArray, List.set_cons_zero, List.set_cons_succ])
  refine wpAnyH_take (i := 16) (v := ?_) rfl (by kernel_rfl) (by kernel_rfl) (by kernel_rfl) (fun _ _ _ h => h) (Or.inl ⟨by kernel_rfl, ?_⟩) (by assumption) ?_
  rotate_left
  focus
    intro w9 hSw
    (try dsimp only at hSw)
    go_simp
    (try with_reducible rfl)
  (try simp only [Act.put, List.getElem_toArray, List.getElem_cons_succ, List.getElem_cons_zero, List.setIfInBounds_toArray, List.set_cons_zero, List.set_cons_succ])
  refine wpAnyH_take (i := 17) (v := ?_) rfl (by kernel_rfl) (by kernel_rfl) (by kernel_rfl) (fun _ _ _ h => h) (Or.inl ⟨by kernel_rfl, ?_⟩) (by assumption) ?_
  rotate_left
  focus
    intro w9 hSw
    (try dsimp only at hSw)
    go_simp
    (try with_reducible rfl)
  (try simp only [Act.put, List.getElem_toArray, List.getElem_cons_succ, List.getElem_cons_zero, List.setIfInBounds_toArray, List.set_cons_zero, List.set_cons_succ])
  refine wpAnyH_take (i := 18) (v := ?_) rfl (by kernel_rfl) (by kernel_rfl) (by kernel_rfl) (fun _ _ _ h => h) (Or.inl ⟨by kernel_rfl, ?_⟩) (by assumption) ?_
  rotate_left
  focus
    intro w9 hSw
    (try dsimp only at hSw)
    go_simp
    (try with_reducible rfl)
  (try simp only [Act.put, List.getElem_toArray, List.getElem_cons_succ, List.getElem_cons_zero, List.setIfInBounds_toArray, List.set_cons_zero, List.set_cons_succ])
  refine wpAnyH_ready (rs := [10]) (by kernel_rfl) (by simp) (AllReadyH.cons rfl (fun K hK => ?_) AllReadyH.nil)
  go_simp
  go_at_call 22
  refine (W1.out _).mono ?_
  rintro e w2 ⟨rfl, rfl⟩
  refine hK.out _ _ ?_ (fun hHeld => ?_)
  focus exact ⟨e0, e1, e2⟩
  clear hK K
  (try simp only [Act.put, List.getElem_toArray, List.getElem_cons_succ, List.getElem_cons_zero, List.setIfInBounds_toArray, List.set_cons_zero, List.set_cons_succ])
  refine wpAnyH_ready (rs := [19]) (by kernel_rfl) (by simp) (AllReadyH.cons rfl (fun K hK => ?_) AllReadyH.nil)
  go_simp
  go_at_call 22
  refine (W2.out _).mono ?_
  rintro e w2 ⟨rfl, rfl⟩
  refine hK.out _ _ ?_ (fun hHeld => ?_)
  focus exact ⟨e0, e1, e2⟩
  clear hK K
  (try simp only [Act.put, List.getElem_toArray, List.getElem_cons_succ, List.getElem_cons_zero, List.setIfInBounds_toArray, List.set_cons_zero, List.set_cons_succ])
  refine wpAnyH_take (i := 20) (v := ?_) rfl (by kernel_rfl) (by kernel_rfl) (by kernel_rfl) (fun _ _ _ h => h) (Or.inl ⟨by kernel_rfl, ?_⟩) (by assumption) ?_
  rotate_left
  focus
    intro w9 hSw
    (try dsimp only at hSw)
    go_simp
    (try with_reducible rfl)
  (try simp only [Act.put, List.getElem_toArray, List.getElem_cons_succ, List.getElem_cons_zero, List.setIfInBounds_toArray, List.set_cons_zero, List.set_cons_succ])
  refine wpAnyH_ready (rs := [21]) (by kernel_rfl) (by simp) (AllReadyH.cons rfl (fun K hK => ?_) AllReadyH.nil)
  go_simp
  have e3 := (World.cell?_setCell_far w1 ⟨g, 0, none⟩ ad (.int .i64 u1) (by simpa using hne.symm)).trans e0
  have e4 := (World.cell?_setCell_far w1 ⟨g, 0, none⟩ ⟨ad.block, ad.off + 1, none⟩ (.int .i64 u1) (by simpa using hne.symm)).trans e1
  have e5 := (World.cell?_setCell_far w1 ⟨g, 0, none⟩ ⟨ad.block, ad.off + 2, none⟩ (.int .i64 u1) (by simpa using hne.symm)).trans e2
  refine hK.out _ _ ?_ (fun hHeld => ?_)
  focus exact ⟨e3, e4, e5⟩
  clear hK K
  (try simp only [Act.put, List.getElem_toArray, List.getElem_cons_succ, List.getElem_cons_zero, List.setIfInBounds_toArray, List.set_cons_zero, List.set_cons_succ])
  refine wpAnyH_take (i := 22) (v := ?_) rfl (by kernel_rfl) (by kernel_rfl) (by kernel_rfl) (fun _ _ _ h => h) (Or.inl ⟨by kernel_rfl, ?_⟩) (by assumption) ?_
  rotate_left
  focus
    intro w9 hSw
    (try dsimp only at hSw)
    go_simp
    (try with_reducible rfl)
  (try simp only [Act.put, List.getElem_toArray, List.getElem_cons_succ, List.getElem_cons_zero, List.setIfInBounds_toArray, List.set_cons_zero, List.set_cons_succ])
  refine wpAnyH_ready (rs := [23]) (by kernel_rfl) (by simp) (AllReadyH.cons rfl (fun K hK => ?_) AllReadyH.nil)
  go_simp
  refine hK.out _ _ ?_ (fun hHeld => ?_)
  focus exact ⟨(World.cell?_setCell_far _ ⟨g, 2, none⟩ ad (.int .i64 u2) (by simpa using hne.symm)).trans e3, (World.cell?_setCell_far _ ⟨g, 2, none⟩ ⟨ad.block, ad.off + 1, none⟩ (.int .i64 u2) (by simpa using hne.symm)).trans e4, (World.cell?_setCell_far _ ⟨g, 2, none⟩ ⟨ad.block, ad.off + 2, none⟩ (.int .i64 u2) (by simpa using hne.symm)).trans e5⟩
  clear hK K
  (try simp only [Act.put, List.getElem_toArray, List.getElem_cons_succ, List.getElem_cons_zero, List.setIfInBounds_toArray, List.set_cons_zero, List.set_cons_succ])
  refine wpAnyH_done (by kernel_rfl) ?_ _
  (try simp only [Act.put, List.getElem_toArray, List.getElem_cons_succ, List.getElem_cons_zero, List.setIfInBounds_toArray, List.set_cons_zero, List.set_cons_succ])
  go_wp2
  have hs2 := HS2.out
  rw [HF.out] at hs2
  have hL : l.length = (u1 :: b :: u2 :: tl).length := by rw [← HF.out]; simp only [List.length_set]
  go_ret
  rw [hL] at hs2
  exact ⟨some ⟨g, 0, none⟩, cx, by rw [← hL]; rfl, hs2.drew, HB2.out.drew⟩
end Go.Proofs.Yticjiodnolngcaa
