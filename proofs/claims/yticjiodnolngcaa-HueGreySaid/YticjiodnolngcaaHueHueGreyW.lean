/- HueGrey: the walk (printed by tools/gengrey.py from tools/grey.txt). -/
import Derived.Test.YticjiodnolngcaaHueGreyE
import Derived.Test.YticjiodnolngcaaPicTape
import Derived.Deep.Cut
import Derived.Deep.CutRange
import Derived.Deep.CutBlock
set_option linter.unusedSimpArgs false
set_option linter.unusedVariables false
namespace Go.Proofs.Yticjiodnolngcaa.hueGrey
open Go.RowKit

theorem add_zero_ (g n : Nat) : (⟨g, 0, none⟩ : Addr).add n = ⟨g, n, none⟩ := by cases n <;> simp [Addr.add]

set_option maxHeartbeats 8000000 in
set_option maxRecDepth 100000 in
theorem walk (w : World) (At : Option Addr) (ct : Nat) (t : List Int) (ht : ∀ x ∈ t, -9223372036854775808 ≤ x ∧ x ≤ 9223372036854775807) (hct : t.length ≤ ct) (h63 : ct ≤ 9223372036854775807) (hrt : RdI w w.heap.size .i64 At t)
    (kk : Int) (k0 : -9223372036854775808 ≤ kk) (k1 : kk ≤ 9223372036854775807) :
    Calls Try.prog 3 #[.slice At t.length ct, .int .i64 kk] w fun e w' => e = .returned (.bool true) ∧ Below w.heap.size w w' := by
  have HK := Lib.hid (fun W => known_any W)
  have HT := Lib.hid (newtape_any At t ct ht hct (by omega) w hrt (Nat.le_refl _))
  have HPic := Lib.hid (fun W (hW : TapeB W w.heap.size w.heap.size) => tapepic_any hW 12 (by omega) (by omega))
  have HD := Lib.hid (fun W => within_any kk 1 4 k0 k1 (by omega) (by omega) (by omega) W)
  have hki := withinV_in (n := kk) (lo := 1) (hi := 4) (by omega)
  generalize withinV kk 1 4 = kv at *
  clear ht hrt
  go_enter Try.func3, Try.ntmps3
  go_upto_region 3 with (first
    | (go_at_call 8; go_must (refine HT.out.mono ?_); rintro e w1 ⟨rfl, hT1, hb1⟩)
    | (go_at_call 9; go_must (refine (HPic.out _ hT1).mono ?_); rintro e w2 ⟨W, H, d, p, A, c, rfl, hB, _, _, ho2, hT2, hg2⟩; have bb2 : Below w.heap.size w w2 := below_only hb1 hg2 hb1.size (Nat.le_refl _)))
  obtain ⟨b1, b2, b3, b4, b5, b6, b7, b8, b9⟩ := isB_all hB
  have hcdp : 0 < W * H := Nat.mul_pos (by omega) (by omega)
  have hWHm : W * H ≤ 4096 := Nat.mul_le_mul (show W ≤ 64 by omega) (show H ≤ 64 by omega)
  obtain ⟨gP, cap, A0, c0, hv, hPb, hPl, hnc, hcap, hrow2, hq2, hqP2⟩ := LLpre ho2 (by omega) (by decide)
  have hqm : p.getD 0 [] ∈ p := mem_getD (by omega)
  have hqN : (p.getD 0 []).length = W * H := (b9 _ hqm).1
  have hqV := (b9 _ hqm).2
  clear b9
  generalize p.getD 0 [] = q at *
  clear hqm
  simp only [Value.slice.injEq] at hv
  obtain ⟨rfl, _, rfl⟩ := hv
  have hT1l := hT1.lt
  have hsz12 := hg2.size
  have hqlen : q.length ≤ 4096 := by omega
  replace hqN := Lib.hid hqN
  have ka := Blk.new w2 27 #[.int .i64 (W : Int), .int .i64 (H : Int), .int .i64 (d : Int), .slice (some ⟨gP, 0, none⟩) p.length c]
  have ba := below_alloc (Below.refl w2.heap.size w2) (.cells #[.int .i64 (W : Int), .int .i64 (H : Int), .int .i64 (d : Int), .slice (some ⟨gP, 0, none⟩) p.length c] 27)
  have hsa : (w2.alloc (.cells #[.int .i64 (W : Int), .int .i64 (H : Int), .int .i64 (d : Int), .slice (some ⟨gP, 0, none⟩) p.length c] 27)).heap.size = w2.heap.size + 1 := by simp
  have bwa := below_then bb2 ba
  have hrow3 := row_below hrow2 ba
  have hq3 := hq2.below ba
  have cPa : (w2.alloc (.cells #[.int .i64 (W : Int), .int .i64 (H : Int), .int .i64 (d : Int), .slice (some ⟨gP, 0, none⟩) p.length c] 27)).cell? ⟨gP, 0, none⟩ = some (.slice A0 q.length c0) := World.ownsRow.cells hrow3 (g := gP) rfl 0 _ rfl
  generalize w2.alloc (.cells #[.int .i64 (W : Int), .int .i64 (H : Int), .int .i64 (d : Int), .slice (some ⟨gP, 0, none⟩) p.length c] 27) = wa at *
  obtain ⟨x0, x1, x2, x3, f0, f1, f2, f3⟩ := ka.four
  have hsl := run_pre1 (P := Try.prog) Try.underlying25 info_ints gP p.length c (by omega) hnc
  go_upto_region 4 with (fail)
  have kBd : Blk (wa.setCell ⟨w2.heap.size, 3, none⟩ (.slice (some ⟨gP, 0, none⟩) 1 c)) w2.heap.size 27 #[.int .i64 (W : Int), .int .i64 (H : Int), .int .i64 (d : Int), .slice (some ⟨gP, 0, none⟩) 1 c] := ka.set_ 3 _
  have hgn : ¬ (fun x => x = gP) w2.heap.size := fun e9 => by have h9 : w2.heap.size = gP := e9; omega
  have hrow : (wa.setCell ⟨w2.heap.size, 3, none⟩ (.slice (some ⟨gP, 0, none⟩) 1 c)).ownsRow w1.heap.size 22 1 (.slice (some ⟨gP, 0, none⟩) 1 c) 1 [.slice A0 q.length c0] :=
    World.ownsRow.kept hrow3 (only_setCell (World.grownBy.refl wa (some w2.heap.size)) (p := ⟨w2.heap.size, 3, none⟩) (.inl rfl) _) (.inr (fun e9 => by injection e9 with e9; have h9 : gP = w2.heap.size := e9; omega))
  have hq : OwnI (wa.setCell ⟨w2.heap.size, 3, none⟩ (.slice (some ⟨gP, 0, none⟩) 1 c)) w1.heap.size 3 .i64 (.slice A0 q.length c0) q := hq3.setAt ka (by decide) 3 _
  have cP : (wa.setCell ⟨w2.heap.size, 3, none⟩ (.slice (some ⟨gP, 0, none⟩) 1 c)).cell? ⟨gP, 0, none⟩ = some (.slice A0 q.length c0) := (World.cell?_setCell_far _ _ _ _ (fun e9 => by have h9 : w2.heap.size = gP := e9; omega)).trans cPa
  have bwd : Below w.heap.size w (wa.setCell ⟨w2.heap.size, 3, none⟩ (.slice (some ⟨gP, 0, none⟩) 1 c)) := bwa.setCell (show w.heap.size ≤ w2.heap.size from bb2.size) _
  have hsd : (wa.setCell ⟨w2.heap.size, 3, none⟩ (.slice (some ⟨gP, 0, none⟩) 1 c)).heap.size = wa.heap.size := by simp
  generalize wa.setCell ⟨w2.heap.size, 3, none⟩ (.slice (some ⟨gP, 0, none⟩) 1 c) = wd at *
  have hBw : w2.heap.size < wd.heap.size := by omega
  clear hsa hsd
  generalize w2.heap.size = gB at *
  have hws : w.heap.size < w1.heap.size := hT1l
  clear ka ba bwa hrow2 hrow3 hq2 hq3 hqP2 cPa x0 x1 x2 x3 f0 f1 f2 f3 hsl ho2 hT1 hT2 hg2 bb2 hb1 HT HPic
  go_cut [] from 21 to 37 (fun wc => ∃ g3 c3, Blk wc gB 27 #[.int .i64 (W : Int), .int .i64 (H : Int), .int .i64 (d : Int), .slice (some ⟨g3, 0, none⟩) 3 c3] ∧ RdLL wc wc.heap.size .i64 (some ⟨g3, 0, none⟩) [q, q, q] ∧ Below w.heap.size w wc)
  case first =>
    have hBd := kBd.lt
    have hPd : gP < wd.heap.size := by omega
    have cB := kBd.cell 3
    have hrq : RdI wd wd.heap.size .i64 A0 q := by
      obtain ⟨A9, c9, e9, _, hr⟩ := hq.cells3
      simp only [Value.slice.injEq] at e9
      obtain ⟨rfl, _⟩ := e9
      exact hr
    have hqP : (Value.slice A0 q.length c0).ownBlock = none ∨ (Value.slice A0 q.length c0).ownBlock ≠ (Value.slice (some ⟨gP, 0, none⟩) 1 c).ownBlock := own_types hq hrow (by decide)
    have offP : ∀ {W' : World} {v : Value} {l : List Int}, OwnI W' wd.heap.size 3 .i64 v l → v.ownBlock = none ∨ v.ownBlock ≠ some gP := fun h => own_not h (.inl hPd)
    have HEnd := Lib.hid (fun (wE w9 : World) (hbE : Below wd.heap.size wd wE) (hg9 : wE.grownBy w9 (some gP)) (u : Value) => (below_only (bwd.trans (hbE.mono bwd.size)) hg9 (by have := bwd.size; have := hbE.size; omega) (by omega)).setCell (show w.heap.size ≤ (⟨gB, 3, none⟩ : Addr).block from by show w.heap.size ≤ gB; omega) u)
    have hv0 := Below.refl wd.heap.size wd
    have hcap : c ≤ maxLen := hcap
    go_wp2_with (fail)
    refine wp_region_last (S := (fun w' => w'.cell? ⟨gB, 3, none⟩ = some (.slice (some ⟨gP, 0, none⟩) 1 c) ∧ w'.cell? ⟨gP, 0, none⟩ = some (.slice A0 q.length c0))) 17 _ (by simp only [List.pop_toArray, List.dropLast_cons_cons, List.dropLast_singleton]; rfl) (by kernel_rfl) (by kernel_rfl) (by kernel_rfl) (by kernel_rfl) (by kernel_rfl) ?_ (fun hHeld => ?_)
    focus exact ⟨cB, cP⟩
    refine wpAnyH_take (i := 0) (v := ?_) rfl (by kernel_rfl) (by kernel_rfl) (by kernel_rfl) (fun _ _ _ h => h) (Or.inl ⟨by kernel_rfl, ?_⟩) (by assumption) ?_
    rotate_left
    focus
      intro w9 hSw
      (try dsimp only at hSw)
      go_simp
      (try with_reducible rfl)
    (try simp only [Act.put, List.getElem_toArray, List.getElem_cons_succ, List.getElem_cons_zero, List.setIfInBounds_toArray, List.set_cons_zero, List.set_cons_succ])
    refine wpAnyH_take (i := 1) (v := ?_) rfl (by kernel_rfl) (by kernel_rfl) (by kernel_rfl) (fun _ _ _ h => h) (Or.inl ⟨by kernel_rfl, ?_⟩) (by assumption) ?_
    rotate_left
    focus
      intro w9 hSw
      (try dsimp only at hSw)
      go_simp
      (try with_reducible rfl)
    (try simp only [Act.put, List.getElem_toArray, List.getElem_cons_succ, List.getElem_cons_zero, List.setIfInBounds_toArray, List.set_cons_zero, List.set_cons_succ])
    refine wpAnyH_take (i := 3) (v := ?_) rfl (by kernel_rfl) (by kernel_rfl) (by kernel_rfl) (fun _ _ _ h => h) (Or.inl ⟨by kernel_rfl, ?_⟩) (by assumption) ?_
    rotate_left
    focus
      intro w9 hSw
      (try dsimp only at hSw)
      go_simp
      (try with_reducible rfl)
    (try simp only [Act.put, List.getElem_toArray, List.getElem_cons_succ, List.getElem_cons_zero, List.setIfInBounds_toArray, List.set_cons_zero, List.set_cons_succ])
    refine wpAnyH_take (i := 4) (v := ?_) rfl (by kernel_rfl) (by kernel_rfl) (by kernel_rfl) (fun _ _ _ h => h) (Or.inl ⟨by kernel_rfl, ?_⟩) (by assumption) ?_
    rotate_left
    focus
      intro w9 hSw
      (try dsimp only at hSw)
      go_simp
      (try with_reducible rfl)
    (try simp only [Act.put, List.getElem_toArray, List.getElem_cons_succ, List.getElem_cons_zero, List.setIfInBounds_toArray, List.set_cons_zero, List.set_cons_succ])
    refine wpAnyH_take (i := 5) (v := ?_) rfl (by kernel_rfl) (by kernel_rfl) (by kernel_rfl) (fun _ _ _ h => h) (Or.inl ⟨by kernel_rfl, ?_⟩) (by assumption) ?_
    rotate_left
    focus
      intro w9 hSw
      (try dsimp only at hSw)
      go_simp
      (try with_reducible rfl)
    (try simp only [Act.put, List.getElem_toArray, List.getElem_cons_succ, List.getElem_cons_zero, List.setIfInBounds_toArray, List.set_cons_zero, List.set_cons_succ])
    refine wpAnyH_take (i := 6) (v := ?_) rfl (by kernel_rfl) (by kernel_rfl) (by kernel_rfl) (fun _ _ _ h => h) (Or.inl ⟨by kernel_rfl, ?_⟩) (by assumption) ?_
    rotate_left
    focus
      intro w9 hSw
      (try dsimp only at hSw)
      go_simp
      (try with_reducible rfl)
    (try simp only [Act.put, List.getElem_toArray, List.getElem_cons_succ, List.getElem_cons_zero, List.setIfInBounds_toArray, List.set_cons_zero, List.set_cons_succ])
    refine wpAnyH_take (i := 9) (v := ?_) rfl (by kernel_rfl) (by kernel_rfl) (by kernel_rfl) (fun _ _ _ h => h) (Or.inl ⟨by kernel_rfl, ?_⟩) (by assumption) ?_
    rotate_left
    focus
      intro w9 hSw
      (try dsimp only at hSw)
      go_simp
      (try with_reducible rfl)
    (try simp only [Act.put, List.getElem_toArray, List.getElem_cons_succ, List.getElem_cons_zero, List.setIfInBounds_toArray, List.set_cons_zero, List.set_cons_succ])
    refine wpAnyH_take (i := 10) (v := ?_) rfl (by kernel_rfl) (by kernel_rfl) (by kernel_rfl) (fun _ _ _ h => h) (Or.inl ⟨by kernel_rfl, ?_⟩) (by assumption) ?_
    rotate_left
    focus
      intro w9 hSw
      (try dsimp only at hSw)
      go_simp
      (try with_reducible rfl)
    (try simp only [Act.put, List.getElem_toArray, List.getElem_cons_succ, List.getElem_cons_zero, List.setIfInBounds_toArray, List.set_cons_zero, List.set_cons_succ])
    refine wpAnyH_take (i := 11) (v := ?_) rfl (by kernel_rfl) (by kernel_rfl) (by kernel_rfl) (fun _ _ _ h => h) (Or.inl ⟨by kernel_rfl, ?_⟩) (by assumption) ?_
    rotate_left
    focus
      intro w9 hSw
      (try dsimp only at hSw)
      go_simp
      (try with_reducible rfl)
    (try simp only [Act.put, List.getElem_toArray, List.getElem_cons_succ, List.getElem_cons_zero, List.setIfInBounds_toArray, List.set_cons_zero, List.set_cons_succ])
    refine wpAnyH_take (i := 12) (v := ?_) rfl (by kernel_rfl) (by kernel_rfl) (by kernel_rfl) (fun _ _ _ h => h) (Or.inl ⟨by kernel_rfl, ?_⟩) (by assumption) ?_
    rotate_left
    focus
      intro w9 hSw
      (try dsimp only at hSw)
      go_simp
      (try with_reducible rfl)
    (try simp only [Act.put, List.getElem_toArray, List.getElem_cons_succ, List.getElem_cons_zero, List.setIfInBounds_toArray, List.set_cons_zero, List.set_cons_succ])
    refine wpAnyH_ready (rs := [2, 8]) (by kernel_rfl) (by simp) (AllReadyH.cons rfl (fun K hK => ?_) (AllReadyH.cons rfl (fun K hK => ?_) AllReadyH.nil))
    focus
      go_simp
      have ow2 := OwnI.empty wd wd.heap.size 3 .i64 hv0.size
      have hz1 := hv0.size
      have hv1 := hv0.alloc hv0.size (.cells #[] 3)
      have hs1 : wd.heap.size < (wd.alloc (.cells #[] 3)).heap.size := by simp
      generalize wd.alloc (.cells #[] 3) = v1 at *
      refine hK.out _ _ ?_ (fun hHeld => ?_)
      focus exact ⟨(hv1.cell (p := ⟨gB, 3, none⟩) hBd).trans cB, (hv1.cell (p := ⟨gP, 0, none⟩) hPd).trans cP⟩
      clear hK K
      (try simp only [Act.put, List.getElem_toArray, List.getElem_cons_succ, List.getElem_cons_zero, List.setIfInBounds_toArray, List.set_cons_zero, List.set_cons_succ])
      refine wpAnyH_ready (rs := [7, 8]) (by kernel_rfl) (by simp) (AllReadyH.cons rfl (fun K hK => ?_) (AllReadyH.cons rfl (fun K hK => ?_) AllReadyH.nil))
      focus
        refine step_append_int _ (by rfl) (.tmp 23) (.tmp 27) _ (by rfl) wd wd.heap.size wd.heap.size 3 .i64 8 Try.underlying22 info_int (.slice (some ⟨wd.heap.size, 0, none⟩) 0 0) [] (by rfl) (by exact ow2) _ A0 q.length c0 q (by rfl) rfl (by exact RdI.below (C := wd.heap.size) hrq (by repeat (first | exact Below.refl _ _ | assumption | refine Below.drew ?_ | refine below_drewN ?_ _ | refine below_alloc ?_ _)) (Nat.le_refl _)) (by simp; omega) (by omega) (by repeat (first | exact Below.refl _ _ | assumption | refine Below.drew ?_ | refine below_drewN ?_ _ | refine below_alloc ?_ _)) (Nat.le_refl _) (by exact hv1.size) ?_
        intro va7 v3 ow7 hv3 hg3 hx3
        rw [List.nil_append] at ow7
        have hs3 : v1.heap.size ≤ v3.heap.size := hg3.size
        have hz3 := hv1.size
        have ho7 : ∀ b, va7.ownBlock = some b → b = wd.heap.size ∨ b = v1.heap.size := fun b hb9 => by
          rcases hx3 with e | e
          · rw [e] at hb9; left; injection hb9 with h9; exact h9.symm
          · rw [e] at hb9; right; injection hb9 with h9; exact h9.symm
        have hm7 : ∀ b, va7.ownBlock = some b → b < v3.heap.size := fun b hb9 => (World.ownsRow.lt ow7 b hb9).2
        refine hK.out _ _ ?_ (fun hHeld => ?_)
        focus exact ⟨(hv3.cell (p := ⟨gB, 3, none⟩) hBd).trans cB, (hv3.cell (p := ⟨gP, 0, none⟩) hPd).trans cP⟩
        clear hK K
        (try simp only [Act.put, List.getElem_toArray, List.getElem_cons_succ, List.getElem_cons_zero, List.setIfInBounds_toArray, List.set_cons_zero, List.set_cons_succ])
        refine wpAnyH_ready (rs := [8]) (by kernel_rfl) (by simp) (AllReadyH.cons rfl (fun K hK => ?_) AllReadyH.nil)
        go_simp
        have ow8 := OwnI.empty v3 wd.heap.size 3 .i64 hv3.size
        have hz5 := hv3.size
        have hv5 := hv3.alloc hv3.size (.cells #[] 3)
        replace ow7 := ow7.alloc (.cells #[] 3)
        have hs5 : v3.heap.size < (v3.alloc (.cells #[] 3)).heap.size := by simp
        generalize v3.alloc (.cells #[] 3) = v5 at *
        refine hK.out _ _ ?_ (fun hHeld => ?_)
        focus exact ⟨(hv5.cell (p := ⟨gB, 3, none⟩) hBd).trans cB, (hv5.cell (p := ⟨gP, 0, none⟩) hPd).trans cP⟩
        clear hK K
        (try simp only [Act.put, List.getElem_toArray, List.getElem_cons_succ, List.getElem_cons_zero, List.setIfInBounds_toArray, List.set_cons_zero, List.set_cons_succ])
        refine wpAnyH_ready (rs := [13]) (by kernel_rfl) (by simp) (AllReadyH.cons rfl (fun K hK => ?_) AllReadyH.nil)
        refine step_append_int _ (by rfl) (.tmp 29) (.tmp 33) _ (by rfl) wd wd.heap.size wd.heap.size 3 .i64 8 Try.underlying22 info_int (.slice (some ⟨v3.heap.size, 0, none⟩) 0 0) [] (by rfl) (by exact ow8) _ A0 q.length c0 q (by rfl) rfl (by exact RdI.below (C := wd.heap.size) hrq (by repeat (first | exact Below.refl _ _ | assumption | refine Below.drew ?_ | refine below_drewN ?_ _ | refine below_alloc ?_ _)) (Nat.le_refl _)) (by simp; omega) (by omega) (by repeat (first | exact Below.refl _ _ | assumption | refine Below.drew ?_ | refine below_drewN ?_ _ | refine below_alloc ?_ _)) (Nat.le_refl _) (by exact hv5.size) ?_
        intro va13 v6 ow13 hv6 hg6 hx6
        rw [List.nil_append] at ow13
        have hs6 : v5.heap.size ≤ v6.heap.size := hg6.size
        have hz6 := hv5.size
        have ho13 : ∀ b, va13.ownBlock = some b → b = v3.heap.size ∨ b = v5.heap.size := fun b hb9 => by
          rcases hx6 with e | e
          · rw [e] at hb9; left; injection hb9 with h9; exact h9.symm
          · rw [e] at hb9; right; injection hb9 with h9; exact h9.symm
        have hm13 : ∀ b, va13.ownBlock = some b → b < v6.heap.size := fun b hb9 => (World.ownsRow.lt ow13 b hb9).2
        have hne6 : va7.ownBlock = none ∨ va7.ownBlock ≠ some v3.heap.size := by
          rcases hq9 : va7.ownBlock with _ | b9
          · exact .inl rfl
          · refine .inr (fun e9 => ?_)
            injection e9 with e9
            have h8 := hm7 b9 hq9
            rcases ho7 b9 hq9 with h9 | h9 <;> omega
        have pw7 : OwnI v6 wd.heap.size 3 .i64 va7 q := by
          refine OwnI.kept ?_ hg6 hne6
          exact ow7
        refine hK.out _ _ ?_ (fun hHeld => ?_)
        focus exact ⟨(hv6.cell (p := ⟨gB, 3, none⟩) hBd).trans cB, (hv6.cell (p := ⟨gP, 0, none⟩) hPd).trans cP⟩
        clear hK K
        (try simp only [Act.put, List.getElem_toArray, List.getElem_cons_succ, List.getElem_cons_zero, List.setIfInBounds_toArray, List.set_cons_zero, List.set_cons_succ])
        obtain ⟨A7, d7, rfl, _⟩ := pw7.form
        obtain ⟨A13, d13, rfl, _⟩ := ow13.form
        refine wpAnyH_ready (rs := [14]) (by kernel_rfl) (by simp) (AllReadyH.cons rfl (fun K hK => ?_) AllReadyH.nil)
        go_simp
        have kE := Blk.new v6 22 #[Value.slice A7 q.length d7, Value.slice A13 q.length d13]
        have hbE := hv6.alloc hv6.size (.cells #[Value.slice A7 q.length d7, Value.slice A13 q.length d13] 22)
        have oa1 := pw7.alloc (.cells #[Value.slice A7 q.length d7, Value.slice A13 q.length d13] 22)
        have ob1 := ow13.alloc (.cells #[Value.slice A7 q.length d7, Value.slice A13 q.length d13] 22)
        have hsE : v6.heap.size < (v6.alloc (.cells #[Value.slice A7 q.length d7, Value.slice A13 q.length d13] 22)).heap.size := by simp
        have hsW := hv6.size
        generalize v6.alloc (.cells #[Value.slice A7 q.length d7, Value.slice A13 q.length d13] 22) = wE at *
        refine hK.out _ _ ?_ (fun hHeld => ?_)
        focus exact ⟨(hbE.cell (p := ⟨gB, 3, none⟩) hBd).trans cB, (hbE.cell (p := ⟨gP, 0, none⟩) hPd).trans cP⟩
        clear hK K
        (try simp only [Act.put, List.getElem_toArray, List.getElem_cons_succ, List.getElem_cons_zero, List.setIfInBounds_toArray, List.set_cons_zero, List.set_cons_succ])
        refine wpAnyH_ready (rs := [15]) (by kernel_rfl) (by simp) (AllReadyH.cons rfl (fun K hK => ?_) AllReadyH.nil)
        refine step_append_keep (by rfl) (.tmp 22) (.tmp 35) _ (by rfl) _ w1.heap.size 22 (.slice none 0 0) 24 Try.underlying25 info_ints rfl (by omega) gP 1 c [.slice A0 q.length c0] (by rfl) (by exact row_below hrow hbE) hcap v6.heap.size 2 (.slice A7 q.length d7) (.slice A13 q.length d13) (by rfl) (kE.cell 0) (kE.cell 1) (OwnI.cell1 oa1) (OwnI.cell1 ob1) (by omega) (by omega) (by have := hbE.size; omega) ?_
        intro v9 w9 hrow9 hg9' hc9
        have hg9 : wE.grownBy w9 (some gP) := by first | exact hg9' | exact only_trans (only_drew (only_refl wE (some gP))) hg9'
        have hM9 : Mod (· = gP) wE w9 := Mod.of_only hg9 (fun _ => rfl)
        have kB9 := (kBd.below hbE hBd).mod hM9 hgn
        have cB9 : w9.cell? ⟨gB, 3, none⟩ = some (.slice (some ⟨gP, 0, none⟩) 1 c) := kB9.cell 3
        have cP9 := hc9.trans ((hbE.cell (p := ⟨gP, 0, none⟩) hPd).trans cP)
        refine hK.out _ _ ?_ (fun hHeld => ?_)
        focus exact ⟨cB9, cP9⟩
        clear hK K
        (try simp only [Act.put, List.getElem_toArray, List.getElem_cons_succ, List.getElem_cons_zero, List.setIfInBounds_toArray, List.set_cons_zero, List.set_cons_succ])
        refine wpAnyH_take (i := 16) (v := ?_) rfl (by kernel_rfl) (by kernel_rfl) (by kernel_rfl) (fun _ _ _ h => h) (Or.inl ⟨by kernel_rfl, ?_⟩) (by assumption) ?_
        rotate_left
        focus
          intro w9 hSw
          (try dsimp only at hSw)
          go_simp
          (try with_reducible rfl)
        (try simp only [Act.put, List.getElem_toArray, List.getElem_cons_succ, List.getElem_cons_zero, List.setIfInBounds_toArray, List.set_cons_zero, List.set_cons_succ])
        have hq9 := OwnI.kept (hq.below hbE) hg9 (hqP)
        have ha9 := OwnI.kept oa1 hg9 (offP oa1)
        have hb9 := OwnI.kept ob1 hg9 (offP ob1)
        obtain ⟨g3, c3, rfl, kF, rF⟩ := greyEnd hrow9 kB9 hq9 ha9 hb9 (by decide) (by decide)
        have hbF := HEnd.out wE w9 hbE hg9 (.slice (some ⟨g3, 0, none⟩) 3 c3)
        have f3 := kB9.frozen 3
        refine wpAnyH_done (by kernel_rfl) (lastQ_step rfl (fun K hK => ?_)) _
        go_simp
        refine hK _ _ ?_
        clear hK K
        generalize w9.setCell ⟨gB, 3, none⟩ (.slice (some ⟨g3, 0, none⟩) 3 c3) = wF at *
        go_wp2
        go_meet
        exact ⟨g3, c3, kF, rF, hbF⟩
      focus
        go_simp
        have ow8 := OwnI.empty v1 wd.heap.size 3 .i64 hv1.size
        have hz4 := hv1.size
        have hv4 := hv1.alloc hv1.size (.cells #[] 3)
        replace ow2 := ow2.alloc (.cells #[] 3)
        have hs4 : v1.heap.size < (v1.alloc (.cells #[] 3)).heap.size := by simp
        generalize v1.alloc (.cells #[] 3) = v4 at *
        refine hK.out _ _ ?_ (fun hHeld => ?_)
        focus exact ⟨(hv4.cell (p := ⟨gB, 3, none⟩) hBd).trans cB, (hv4.cell (p := ⟨gP, 0, none⟩) hPd).trans cP⟩
        clear hK K
        (try simp only [Act.put, List.getElem_toArray, List.getElem_cons_succ, List.getElem_cons_zero, List.setIfInBounds_toArray, List.set_cons_zero, List.set_cons_succ])
        refine wpAnyH_ready (rs := [7]) (by kernel_rfl) (by simp) (AllReadyH.cons rfl (fun K hK => ?_) AllReadyH.nil)
        refine step_append_int _ (by rfl) (.tmp 23) (.tmp 27) _ (by rfl) wd wd.heap.size wd.heap.size 3 .i64 8 Try.underlying22 info_int (.slice (some ⟨wd.heap.size, 0, none⟩) 0 0) [] (by rfl) (by exact ow2) _ A0 q.length c0 q (by rfl) rfl (by exact RdI.below (C := wd.heap.size) hrq (by repeat (first | exact Below.refl _ _ | assumption | refine Below.drew ?_ | refine below_drewN ?_ _ | refine below_alloc ?_ _)) (Nat.le_refl _)) (by simp; omega) (by omega) (by repeat (first | exact Below.refl _ _ | assumption | refine Below.drew ?_ | refine below_drewN ?_ _ | refine below_alloc ?_ _)) (Nat.le_refl _) (by exact hv4.size) ?_
        intro va7 v7 ow7 hv7 hg7 hx7
        rw [List.nil_append] at ow7
        have hs7 : v4.heap.size ≤ v7.heap.size := hg7.size
        have hz7 := hv4.size
        have ho7 : ∀ b, va7.ownBlock = some b → b = wd.heap.size ∨ b = v4.heap.size := fun b hb9 => by
          rcases hx7 with e | e
          · rw [e] at hb9; left; injection hb9 with h9; exact h9.symm
          · rw [e] at hb9; right; injection hb9 with h9; exact h9.symm
        have hm7 : ∀ b, va7.ownBlock = some b → b < v7.heap.size := fun b hb9 => (World.ownsRow.lt ow7 b hb9).2
        have pw8 : OwnI v7 wd.heap.size 3 .i64 (.slice (some ⟨v1.heap.size, 0, none⟩) 0 0) [] := by
          refine OwnI.kept ?_ hg7 (.inr (fun e9 => by injection e9 with e9; have h9 : v1.heap.size = wd.heap.size := e9; omega))
          exact ow8
        refine hK.out _ _ ?_ (fun hHeld => ?_)
        focus exact ⟨(hv7.cell (p := ⟨gB, 3, none⟩) hBd).trans cB, (hv7.cell (p := ⟨gP, 0, none⟩) hPd).trans cP⟩
        clear hK K
        (try simp only [Act.put, List.getElem_toArray, List.getElem_cons_succ, List.getElem_cons_zero, List.setIfInBounds_toArray, List.set_cons_zero, List.set_cons_succ])
        refine wpAnyH_ready (rs := [13]) (by kernel_rfl) (by simp) (AllReadyH.cons rfl (fun K hK => ?_) AllReadyH.nil)
        refine step_append_int _ (by rfl) (.tmp 29) (.tmp 33) _ (by rfl) wd wd.heap.size wd.heap.size 3 .i64 8 Try.underlying22 info_int (.slice (some ⟨v1.heap.size, 0, none⟩) 0 0) [] (by rfl) (by exact pw8) _ A0 q.length c0 q (by rfl) rfl (by exact RdI.below (C := wd.heap.size) hrq (by repeat (first | exact Below.refl _ _ | assumption | refine Below.drew ?_ | refine below_drewN ?_ _ | refine below_alloc ?_ _)) (Nat.le_refl _)) (by simp; omega) (by omega) (by repeat (first | exact Below.refl _ _ | assumption | refine Below.drew ?_ | refine below_drewN ?_ _ | refine below_alloc ?_ _)) (Nat.le_refl _) (by exact hv7.size) ?_
        intro va13 v8 ow13 hv8 hg8 hx8
        rw [List.nil_append] at ow13
        have hs8 : v7.heap.size ≤ v8.heap.size := hg8.size
        have hz8 := hv7.size
        have ho13 : ∀ b, va13.ownBlock = some b → b = v1.heap.size ∨ b = v7.heap.size := fun b hb9 => by
          rcases hx8 with e | e
          · rw [e] at hb9; left; injection hb9 with h9; exact h9.symm
          · rw [e] at hb9; right; injection hb9 with h9; exact h9.symm
        have hm13 : ∀ b, va13.ownBlock = some b → b < v8.heap.size := fun b hb9 => (World.ownsRow.lt ow13 b hb9).2
        have hne8 : va7.ownBlock = none ∨ va7.ownBlock ≠ some v1.heap.size := by
          rcases hq9 : va7.ownBlock with _ | b9
          · exact .inl rfl
          · refine .inr (fun e9 => ?_)
            injection e9 with e9
            have h8 := hm7 b9 hq9
            rcases ho7 b9 hq9 with h9 | h9 <;> omega
        have pw7 : OwnI v8 wd.heap.size 3 .i64 va7 q := by
          refine OwnI.kept ?_ hg8 hne8
          exact ow7
        refine hK.out _ _ ?_ (fun hHeld => ?_)
        focus exact ⟨(hv8.cell (p := ⟨gB, 3, none⟩) hBd).trans cB, (hv8.cell (p := ⟨gP, 0, none⟩) hPd).trans cP⟩
        clear hK K
        (try simp only [Act.put, List.getElem_toArray, List.getElem_cons_succ, List.getElem_cons_zero, List.setIfInBounds_toArray, List.set_cons_zero, List.set_cons_succ])
        obtain ⟨A7, d7, rfl, _⟩ := pw7.form
        obtain ⟨A13, d13, rfl, _⟩ := ow13.form
        refine wpAnyH_ready (rs := [14]) (by kernel_rfl) (by simp) (AllReadyH.cons rfl (fun K hK => ?_) AllReadyH.nil)
        go_simp
        have kE := Blk.new v8 22 #[Value.slice A7 q.length d7, Value.slice A13 q.length d13]
        have hbE := hv8.alloc hv8.size (.cells #[Value.slice A7 q.length d7, Value.slice A13 q.length d13] 22)
        have oa1 := pw7.alloc (.cells #[Value.slice A7 q.length d7, Value.slice A13 q.length d13] 22)
        have ob1 := ow13.alloc (.cells #[Value.slice A7 q.length d7, Value.slice A13 q.length d13] 22)
        have hsE : v8.heap.size < (v8.alloc (.cells #[Value.slice A7 q.length d7, Value.slice A13 q.length d13] 22)).heap.size := by simp
        have hsW := hv8.size
        generalize v8.alloc (.cells #[Value.slice A7 q.length d7, Value.slice A13 q.length d13] 22) = wE at *
        refine hK.out _ _ ?_ (fun hHeld => ?_)
        focus exact ⟨(hbE.cell (p := ⟨gB, 3, none⟩) hBd).trans cB, (hbE.cell (p := ⟨gP, 0, none⟩) hPd).trans cP⟩
        clear hK K
        (try simp only [Act.put, List.getElem_toArray, List.getElem_cons_succ, List.getElem_cons_zero, List.setIfInBounds_toArray, List.set_cons_zero, List.set_cons_succ])
        refine wpAnyH_ready (rs := [15]) (by kernel_rfl) (by simp) (AllReadyH.cons rfl (fun K hK => ?_) AllReadyH.nil)
        refine step_append_keep (by rfl) (.tmp 22) (.tmp 35) _ (by rfl) _ w1.heap.size 22 (.slice none 0 0) 24 Try.underlying25 info_ints rfl (by omega) gP 1 c [.slice A0 q.length c0] (by rfl) (by exact row_below hrow hbE) hcap v8.heap.size 2 (.slice A7 q.length d7) (.slice A13 q.length d13) (by rfl) (kE.cell 0) (kE.cell 1) (OwnI.cell1 oa1) (OwnI.cell1 ob1) (by omega) (by omega) (by have := hbE.size; omega) ?_
        intro v9 w9 hrow9 hg9' hc9
        have hg9 : wE.grownBy w9 (some gP) := by first | exact hg9' | exact only_trans (only_drew (only_refl wE (some gP))) hg9'
        have hM9 : Mod (· = gP) wE w9 := Mod.of_only hg9 (fun _ => rfl)
        have kB9 := (kBd.below hbE hBd).mod hM9 hgn
        have cB9 : w9.cell? ⟨gB, 3, none⟩ = some (.slice (some ⟨gP, 0, none⟩) 1 c) := kB9.cell 3
        have cP9 := hc9.trans ((hbE.cell (p := ⟨gP, 0, none⟩) hPd).trans cP)
        refine hK.out _ _ ?_ (fun hHeld => ?_)
        focus exact ⟨cB9, cP9⟩
        clear hK K
        (try simp only [Act.put, List.getElem_toArray, List.getElem_cons_succ, List.getElem_cons_zero, List.setIfInBounds_toArray, List.set_cons_zero, List.set_cons_succ])
        refine wpAnyH_take (i := 16) (v := ?_) rfl (by kernel_rfl) (by kernel_rfl) (by kernel_rfl) (fun _ _ _ h => h) (Or.inl ⟨by kernel_rfl, ?_⟩) (by assumption) ?_
        rotate_left
        focus
          intro w9 hSw
          (try dsimp only at hSw)
          go_simp
          (try with_reducible rfl)
        (try simp only [Act.put, List.getElem_toArray, List.getElem_cons_succ, List.getElem_cons_zero, List.setIfInBounds_toArray, List.set_cons_zero, List.set_cons_succ])
        have hq9 := OwnI.kept (hq.below hbE) hg9 (hqP)
        have ha9 := OwnI.kept oa1 hg9 (offP oa1)
        have hb9 := OwnI.kept ob1 hg9 (offP ob1)
        obtain ⟨g3, c3, rfl, kF, rF⟩ := greyEnd hrow9 kB9 hq9 ha9 hb9 (by decide) (by decide)
        have hbF := HEnd.out wE w9 hbE hg9 (.slice (some ⟨g3, 0, none⟩) 3 c3)
        have f3 := kB9.frozen 3
        refine wpAnyH_done (by kernel_rfl) (lastQ_step rfl (fun K hK => ?_)) _
        go_simp
        refine hK _ _ ?_
        clear hK K
        generalize w9.setCell ⟨gB, 3, none⟩ (.slice (some ⟨g3, 0, none⟩) 3 c3) = wF at *
        go_wp2
        go_meet
        exact ⟨g3, c3, kF, rF, hbF⟩
    focus
      go_simp
      have ow8 := OwnI.empty wd wd.heap.size 3 .i64 hv0.size
      have hz2 := hv0.size
      have hv2 := hv0.alloc hv0.size (.cells #[] 3)
      have hs2 : wd.heap.size < (wd.alloc (.cells #[] 3)).heap.size := by simp
      generalize wd.alloc (.cells #[] 3) = v2 at *
      refine hK.out _ _ ?_ (fun hHeld => ?_)
      focus exact ⟨(hv2.cell (p := ⟨gB, 3, none⟩) hBd).trans cB, (hv2.cell (p := ⟨gP, 0, none⟩) hPd).trans cP⟩
      clear hK K
      (try simp only [Act.put, List.getElem_toArray, List.getElem_cons_succ, List.getElem_cons_zero, List.setIfInBounds_toArray, List.set_cons_zero, List.set_cons_succ])
      refine wpAnyH_ready (rs := [2]) (by kernel_rfl) (by simp) (AllReadyH.cons rfl (fun K hK => ?_) AllReadyH.nil)
      go_simp
      have ow2 := OwnI.empty v2 wd.heap.size 3 .i64 hv2.size
      have hz9 := hv2.size
      have hv9 := hv2.alloc hv2.size (.cells #[] 3)
      replace ow8 := ow8.alloc (.cells #[] 3)
      have hs9 : v2.heap.size < (v2.alloc (.cells #[] 3)).heap.size := by simp
      generalize v2.alloc (.cells #[] 3) = v9 at *
      refine hK.out _ _ ?_ (fun hHeld => ?_)
      focus exact ⟨(hv9.cell (p := ⟨gB, 3, none⟩) hBd).trans cB, (hv9.cell (p := ⟨gP, 0, none⟩) hPd).trans cP⟩
      clear hK K
      (try simp only [Act.put, List.getElem_toArray, List.getElem_cons_succ, List.getElem_cons_zero, List.setIfInBounds_toArray, List.set_cons_zero, List.set_cons_succ])
      refine wpAnyH_ready (rs := [7]) (by kernel_rfl) (by simp) (AllReadyH.cons rfl (fun K hK => ?_) AllReadyH.nil)
      refine step_append_int _ (by rfl) (.tmp 23) (.tmp 27) _ (by rfl) wd wd.heap.size wd.heap.size 3 .i64 8 Try.underlying22 info_int (.slice (some ⟨v2.heap.size, 0, none⟩) 0 0) [] (by rfl) (by exact ow2) _ A0 q.length c0 q (by rfl) rfl (by exact RdI.below (C := wd.heap.size) hrq (by repeat (first | exact Below.refl _ _ | assumption | refine Below.drew ?_ | refine below_drewN ?_ _ | refine below_alloc ?_ _)) (Nat.le_refl _)) (by simp; omega) (by omega) (by repeat (first | exact Below.refl _ _ | assumption | refine Below.drew ?_ | refine below_drewN ?_ _ | refine below_alloc ?_ _)) (Nat.le_refl _) (by exact hv9.size) ?_
      intro va7 v10 ow7 hv10 hg10 hx10
      rw [List.nil_append] at ow7
      have hs10 : v9.heap.size ≤ v10.heap.size := hg10.size
      have hz10 := hv9.size
      have ho7 : ∀ b, va7.ownBlock = some b → b = v2.heap.size ∨ b = v9.heap.size := fun b hb9 => by
        rcases hx10 with e | e
        · rw [e] at hb9; left; injection hb9 with h9; exact h9.symm
        · rw [e] at hb9; right; injection hb9 with h9; exact h9.symm
      have hm7 : ∀ b, va7.ownBlock = some b → b < v10.heap.size := fun b hb9 => (World.ownsRow.lt ow7 b hb9).2
      have pw8 : OwnI v10 wd.heap.size 3 .i64 (.slice (some ⟨wd.heap.size, 0, none⟩) 0 0) [] := by
        refine OwnI.kept ?_ hg10 (.inr (fun e9 => by injection e9 with e9; have h9 : wd.heap.size = v2.heap.size := e9; omega))
        exact ow8
      refine hK.out _ _ ?_ (fun hHeld => ?_)
      focus exact ⟨(hv10.cell (p := ⟨gB, 3, none⟩) hBd).trans cB, (hv10.cell (p := ⟨gP, 0, none⟩) hPd).trans cP⟩
      clear hK K
      (try simp only [Act.put, List.getElem_toArray, List.getElem_cons_succ, List.getElem_cons_zero, List.setIfInBounds_toArray, List.set_cons_zero, List.set_cons_succ])
      refine wpAnyH_ready (rs := [13]) (by kernel_rfl) (by simp) (AllReadyH.cons rfl (fun K hK => ?_) AllReadyH.nil)
      refine step_append_int _ (by rfl) (.tmp 29) (.tmp 33) _ (by rfl) wd wd.heap.size wd.heap.size 3 .i64 8 Try.underlying22 info_int (.slice (some ⟨wd.heap.size, 0, none⟩) 0 0) [] (by rfl) (by exact pw8) _ A0 q.length c0 q (by rfl) rfl (by exact RdI.below (C := wd.heap.size) hrq (by repeat (first | exact Below.refl _ _ | assumption | refine Below.drew ?_ | refine below_drewN ?_ _ | refine below_alloc ?_ _)) (Nat.le_refl _)) (by simp; omega) (by omega) (by repeat (first | exact Below.refl _ _ | assumption | refine Below.drew ?_ | refine below_drewN ?_ _ | refine below_alloc ?_ _)) (Nat.le_refl _) (by exact hv10.size) ?_
      intro va13 v11 ow13 hv11 hg11 hx11
      rw [List.nil_append] at ow13
      have hs11 : v10.heap.size ≤ v11.heap.size := hg11.size
      have hz11 := hv10.size
      have ho13 : ∀ b, va13.ownBlock = some b → b = wd.heap.size ∨ b = v10.heap.size := fun b hb9 => by
        rcases hx11 with e | e
        · rw [e] at hb9; left; injection hb9 with h9; exact h9.symm
        · rw [e] at hb9; right; injection hb9 with h9; exact h9.symm
      have hm13 : ∀ b, va13.ownBlock = some b → b < v11.heap.size := fun b hb9 => (World.ownsRow.lt ow13 b hb9).2
      have hne11 : va7.ownBlock = none ∨ va7.ownBlock ≠ some wd.heap.size := by
        rcases hq9 : va7.ownBlock with _ | b9
        · exact .inl rfl
        · refine .inr (fun e9 => ?_)
          injection e9 with e9
          have h8 := hm7 b9 hq9
          rcases ho7 b9 hq9 with h9 | h9 <;> omega
      have pw7 : OwnI v11 wd.heap.size 3 .i64 va7 q := by
        refine OwnI.kept ?_ hg11 hne11
        exact ow7
      refine hK.out _ _ ?_ (fun hHeld => ?_)
      focus exact ⟨(hv11.cell (p := ⟨gB, 3, none⟩) hBd).trans cB, (hv11.cell (p := ⟨gP, 0, none⟩) hPd).trans cP⟩
      clear hK K
      (try simp only [Act.put, List.getElem_toArray, List.getElem_cons_succ, List.getElem_cons_zero, List.setIfInBounds_toArray, List.set_cons_zero, List.set_cons_succ])
      obtain ⟨A7, d7, rfl, _⟩ := pw7.form
      obtain ⟨A13, d13, rfl, _⟩ := ow13.form
      refine wpAnyH_ready (rs := [14]) (by kernel_rfl) (by simp) (AllReadyH.cons rfl (fun K hK => ?_) AllReadyH.nil)
      go_simp
      have kE := Blk.new v11 22 #[Value.slice A7 q.length d7, Value.slice A13 q.length d13]
      have hbE := hv11.alloc hv11.size (.cells #[Value.slice A7 q.length d7, Value.slice A13 q.length d13] 22)
      have oa1 := pw7.alloc (.cells #[Value.slice A7 q.length d7, Value.slice A13 q.length d13] 22)
      have ob1 := ow13.alloc (.cells #[Value.slice A7 q.length d7, Value.slice A13 q.length d13] 22)
      have hsE : v11.heap.size < (v11.alloc (.cells #[Value.slice A7 q.length d7, Value.slice A13 q.length d13] 22)).heap.size := by simp
      have hsW := hv11.size
      generalize v11.alloc (.cells #[Value.slice A7 q.length d7, Value.slice A13 q.length d13] 22) = wE at *
      refine hK.out _ _ ?_ (fun hHeld => ?_)
      focus exact ⟨(hbE.cell (p := ⟨gB, 3, none⟩) hBd).trans cB, (hbE.cell (p := ⟨gP, 0, none⟩) hPd).trans cP⟩
      clear hK K
      (try simp only [Act.put, List.getElem_toArray, List.getElem_cons_succ, List.getElem_cons_zero, List.setIfInBounds_toArray, List.set_cons_zero, List.set_cons_succ])
      refine wpAnyH_ready (rs := [15]) (by kernel_rfl) (by simp) (AllReadyH.cons rfl (fun K hK => ?_) AllReadyH.nil)
      refine step_append_keep (by rfl) (.tmp 22) (.tmp 35) _ (by rfl) _ w1.heap.size 22 (.slice none 0 0) 24 Try.underlying25 info_ints rfl (by omega) gP 1 c [.slice A0 q.length c0] (by rfl) (by exact row_below hrow hbE) hcap v11.heap.size 2 (.slice A7 q.length d7) (.slice A13 q.length d13) (by rfl) (kE.cell 0) (kE.cell 1) (OwnI.cell1 oa1) (OwnI.cell1 ob1) (by omega) (by omega) (by have := hbE.size; omega) ?_
      intro v9 w9 hrow9 hg9' hc9
      have hg9 : wE.grownBy w9 (some gP) := by first | exact hg9' | exact only_trans (only_drew (only_refl wE (some gP))) hg9'
      have hM9 : Mod (· = gP) wE w9 := Mod.of_only hg9 (fun _ => rfl)
      have kB9 := (kBd.below hbE hBd).mod hM9 hgn
      have cB9 : w9.cell? ⟨gB, 3, none⟩ = some (.slice (some ⟨gP, 0, none⟩) 1 c) := kB9.cell 3
      have cP9 := hc9.trans ((hbE.cell (p := ⟨gP, 0, none⟩) hPd).trans cP)
      refine hK.out _ _ ?_ (fun hHeld => ?_)
      focus exact ⟨cB9, cP9⟩
      clear hK K
      (try simp only [Act.put, List.getElem_toArray, List.getElem_cons_succ, List.getElem_cons_zero, List.setIfInBounds_toArray, List.set_cons_zero, List.set_cons_succ])
      refine wpAnyH_take (i := 16) (v := ?_) rfl (by kernel_rfl) (by kernel_rfl) (by kernel_rfl) (fun _ _ _ h => h) (Or.inl ⟨by kernel_rfl, ?_⟩) (by assumption) ?_
      rotate_left
      focus
        intro w9 hSw
        (try dsimp only at hSw)
        go_simp
        (try with_reducible rfl)
      (try simp only [Act.put, List.getElem_toArray, List.getElem_cons_succ, List.getElem_cons_zero, List.setIfInBounds_toArray, List.set_cons_zero, List.set_cons_succ])
      have hq9 := OwnI.kept (hq.below hbE) hg9 (hqP)
      have ha9 := OwnI.kept oa1 hg9 (offP oa1)
      have hb9 := OwnI.kept ob1 hg9 (offP ob1)
      obtain ⟨g3, c3, rfl, kF, rF⟩ := greyEnd hrow9 kB9 hq9 ha9 hb9 (by decide) (by decide)
      have hbF := HEnd.out wE w9 hbE hg9 (.slice (some ⟨g3, 0, none⟩) 3 c3)
      have f3 := kB9.frozen 3
      refine wpAnyH_done (by kernel_rfl) (lastQ_step rfl (fun K hK => ?_)) _
      go_simp
      refine hK _ _ ?_
      clear hK K
      generalize w9.setCell ⟨gB, 3, none⟩ (.slice (some ⟨g3, 0, none⟩) 3 c3) = wF at *
      go_wp2
      go_meet
      exact ⟨g3, c3, kF, rF, hbF⟩
  case rest =>
    obtain ⟨g3, c3, kB, rB, bB⟩ := hcut
    have hd : 1 ≤ (d : Int) ∧ (d : Int) ≤ 16 := ⟨b5, b6⟩
    have hBI : isB ⟨(W : Int), (H : Int), (d : Int), [q, q, q]⟩ = true := isB_mk b1 b2 b3 b4 b5 b6 (by simp) (by simp) (fun l hl => by
      have hl' : l = q := by simpa using hl
      subst hl'
      exact ⟨hqN.out, hqV⟩)
    have hqV' : ∀ v ∈ q, 0 ≤ v ∧ v < 2 ^ d := fun v hv => by
      have := hqV v hv
      simpa only [okV, decide_eq_true_eq, Int.toNat_natCast] using this
    have hmay : mayB ((([q, q, q] : List (List Int)).length : Nat) : Int) kv = true := by
      rw [show ([q, q, q] : List (List Int)).length = 3 from rfl]
      rcases (show kv = 1 ∨ kv = 2 ∨ kv = 3 ∨ kv = 4 by omega) with rfl | rfl | rfl | rfl <;> decide
    have HF := Lib.hid (fun (W' : World) (hr : RdLL W' W'.heap.size .i64 (some ⟨g3, 0, none⟩) [q, q, q]) => huefore_yes (p := [q, q, q]) (c := c3) hr (Nat.le_refl _) hBI kv hmay)
    rw [hue_grey hd hki hqN.out hqV'] at HF
    rw [show ([q, q, q] : List (List Int)).length = 3 from rfl] at HF
    have hw0 : IntKind.i64.wrap ((W : Int) * (H : Int)) = ((W * H : Nat) : Int) := by
      rw [show (W : Int) * (H : Int) = ((W * H : Nat) : Int) by simp]
      exact IntWalk.i64_in _ (by omega)
    generalize W * H = N at *
    have hmk := fun W => run_make_ints (P := Try.prog) W 22 Try.underlying22 info_int (by omega) .i64 N N (Nat.le_refl _) (by omega)
    clear hBI hqV hqV' hmay hq hrow kBd
    obtain ⟨L3, hL3⟩ : ∃ L, L = (List.range 3).map (fun j : Nat => if (j : Int) = (if kv = 1 then 1 else 0) then q else List.replicate N 0) := ⟨_, rfl⟩
    rw [← hL3] at HF
    have HL3 := Lib.hid (show L3.length = 3 by rw [hL3]; rfl)
    have HG0 : Hid (∀ j, j < 3 → L3.getD j [] = if (j : Int) = (if kv = 1 then 1 else 0) then q else List.replicate N 0) := fun j hj => by
      rw [hL3]
      rcases (show j = 0 ∨ j = 1 ∨ j = 2 by omega) with rfl | rfl | rfl <;> rfl
    have HNq : Hid (∀ j, j < 3 → 0 < (L3.getD j []).length) := fun j hj => by
      rw [HG0.out j hj]
      by_cases hc : (j : Int) = (if kv = 1 then 1 else 0)
      · rw [if_pos hc, hqN.out]; exact hcdp
      · rw [if_neg hc, List.length_replicate]; exact hcdp
    clear hL3
    obtain ⟨x0, x1, x2, x3, _⟩ := kB.four
    go_upto_region 7 with (first
      | (go_at_call 10; go_must (refine (HD.out _).mono ?_); rintro e w3 ⟨rfl, rfl⟩)
      | (go_at_call 11; (with_reducible refine (HF.out _ rB).mono ?_); rintro e w4 ⟨A4, c4, rfl, ho4, hb4⟩))
    obtain ⟨g4, hA4⟩ : ∃ G, A4 = some ⟨G, 0, none⟩ := by
      obtain ⟨G, C, g5, c5, hv, _⟩ := OwnLL.at_ ho4 (j := 0) (by decide) (by rw [HL3.out]; decide) (HNq.out 0 (by decide))
      simp only [Value.slice.injEq] at hv
      exact ⟨G, hv.1⟩
    subst hA4
    have k4 := Blk.new w4 27 #[.int .i64 (W : Int), .int .i64 (H : Int), .int .i64 (d : Int), .slice (some ⟨g4, 0, none⟩) 3 c4]
    have y4 := below_alloc (Below.refl w4.heap.size w4) (.cells #[.int .i64 (W : Int), .int .i64 (H : Int), .int .i64 (d : Int), .slice (some ⟨g4, 0, none⟩) 3 c4] 27)
    have r4 := rdOwn ho4 y4
    have kB4 := kB.below (below_then hb4 y4) kB.lt
    have rB4 := rB.to (Nat.le_refl _) (below_then hb4 y4)
    have bB4 := below_then bB (below_then hb4 y4)
    clear x0 x1 x2 x3 ho4 y4 hb4 kB rB bB HF HD
    generalize w4.alloc (.cells #[.int .i64 (W : Int), .int .i64 (H : Int), .int .i64 (d : Int), .slice (some ⟨g4, 0, none⟩) 3 c4] 27) = w5 at *
    generalize w4.heap.size = gW at *
    obtain ⟨x0, x1, x2, x3, _⟩ := kB4.four
    obtain ⟨z0, z1, z2, z3, _⟩ := k4.four
    by_cases hk1 : kv = 1
    · have HG : Hid (∀ j, j < 3 → L3.getD j [] = if j = 1 then q else List.replicate N 0) := fun j hj => by
        rw [HG0.out j hj, if_pos hk1]
        rcases (show j = 0 ∨ j = 1 ∨ j = 2 by omega) with rfl | rfl | rfl <;> rfl
      clear HG0 HNq
      subst hk1
      go_wp2_with (fail)
      clear x0 x1 x2 x3 z0 z1 z2 z3
      go_loopw [11] (fun i wr => ∃ n : Nat, n ≤ 3 ∧ i = .int .i64 n ∧ Below w.heap.size w wr ∧ Blk wr gB 27 #[.int .i64 (W : Int), .int .i64 (H : Int), .int .i64 (d : Int), .slice (some ⟨g3, 0, none⟩) 3 c3] ∧ Blk wr gW 27 #[.int .i64 (W : Int), .int .i64 (H : Int), .int .i64 (d : Int), .slice (some ⟨g4, 0, none⟩) 3 c4] ∧ RdLL wr wr.heap.size .i64 (some ⟨g3, 0, none⟩) [q, q, q] ∧ RdLL wr wr.heap.size .i64 (some ⟨g4, 0, none⟩) L3) (fun i _ => 3 - (intOf i).toNat)
      case atStart => exact ⟨0, by omega, rfl, bB4, kB4, k4, rB4, r4⟩
      case round =>
        obtain ⟨n, hn, rfl, hbr, kbr, kwr, rbr, rwr⟩ := hrel
        by_cases hlt : n < 3
        · have hlz : (n : Int) < 3 := by omega
          obtain ⟨x0, x1, x2, x3, _⟩ := kbr.four
          have hgl := kbr.lt
          have hgl2 := kwr.lt
          go_upto_region 16 with (fail)
          have hm1 := OwnI.made (e := 3) (k := .i64) wr (Nat.le_refl _) (n := N) (by omega)
          have yb := below_alloc (Below.refl wr.heap.size wr) (.cells (Array.replicate N (.int .i64 0)) 3)
          have kb2 := kbr.below yb hgl
          have kw2 := kwr.below yb hgl2
          have rb2 := rbr.to (Nat.le_refl _) yb
          have rw2 := rwr.to (Nat.le_refl _) yb
          have bb := below_then hbr yb
          clear kbr kwr rbr rwr x0 x1 x2 x3 hbr
          generalize wr.alloc (.cells (Array.replicate N (.int .i64 0)) 3) = wm at *
          obtain ⟨x0, x1, x2, x3, _⟩ := kb2.four
          obtain ⟨z0, z1, z2, z3, _⟩ := kw2.four
          obtain ⟨ad, A5, c5, e5, _, hc5, _, hr5⟩ := rw2 n (by rw [HL3.out]; exact hlt)
          injection e5 with e5
          subst e5
          rw [HG.out n hlt] at hc5 hr5
          by_cases hj : n = 1
          · subst hj
            rw [if_pos rfl] at hc5 hr5
            obtain ⟨ad, A6, c6, e6, _, hc6, _, hr6⟩ := rb2 0 (by simp)
            injection e6 with e6
            subst e6
            have hc6' : wm.cell? ⟨g3, 0, none⟩ = some (.slice A6 q.length c6) := hc6
            have hc5' : wm.cell? ⟨g4, 1, none⟩ = some (.slice A5 q.length c5) := hc5
            have hr6' : RdI wm wm.heap.size .i64 A6 q := hr6
            have HC := ints_any (c := c5) (c2 := c6) hr5 hr6' (by omega)
            simp only [decide_true] at HC
            replace HC := Lib.hid HC
            clear hc5 hc6 hr5 hr6
            go_wp2_with (first
              | (go_at_call 12; (with_reducible refine HC.out.mono ?_); rintro e v1 ⟨rfl, n1, rfl⟩))
            go_roundw
            case rel => exact ⟨1 + 1, by omega, by go_num, below_drewN bb n1, kb2.drewN n1, kw2.drewN n1, rb2.drewN n1, rw2.drewN n1⟩
            case measure => simp [intOf]
          · have hj' : ¬ (n : Int) = 1 := by omega
            rw [if_neg hj] at hc5 hr5
            rw [List.length_replicate] at hc5
            have hc5' : wm.cell? ⟨g4, n, none⟩ = some (.slice A5 N c5) := by rw [← add_zero_]; exact hc5
            obtain ⟨A7, c7, e7, _, hr7⟩ := hm1.cells3
            simp only [Value.slice.injEq] at e7
            obtain ⟨rfl, _, rfl⟩ := e7
            have HC := ints_any (c := c5) (c2 := N) hr5 hr7 (by rw [List.length_replicate]; omega)
            simp only [List.length_replicate, decide_true] at HC
            replace HC := Lib.hid HC
            clear hc5 hr5 hr7 hm1
            go_wp2_with (first
              | (go_at_call 12; (with_reducible refine HC.out.mono ?_); rintro e v1 ⟨rfl, n1, rfl⟩))
            go_roundw
            case rel => exact ⟨n + 1, by omega, by go_num, below_drewN bb n1, kb2.drewN n1, kw2.drewN n1, rb2.drewN n1, rw2.drewN n1⟩
            case measure => simp [intOf]; omega
        · obtain rfl : n = 3 := by omega
          go_wp2_with (first
            | (go_at_call 13; go_must (refine (HK.out _).mono ?_); rintro e w9 ⟨rfl, hb9⟩))
          go_ret
          exact ⟨rfl, below_then hbr hb9⟩
    · have HG : Hid (∀ j, j < 3 → L3.getD j [] = if j = 0 then q else List.replicate N 0) := fun j hj => by
        rw [HG0.out j hj, if_neg hk1]
        rcases (show j = 0 ∨ j = 1 ∨ j = 2 by omega) with rfl | rfl | rfl <;> rfl
      clear HG0 HNq
      have hkb : (kv == 1) = false := by simpa using hk1
      clear hk1
      go_wp2_with (fail)
      clear x0 x1 x2 x3 z0 z1 z2 z3
      go_loopw [11] (fun i wr => ∃ n : Nat, n ≤ 3 ∧ i = .int .i64 n ∧ Below w.heap.size w wr ∧ Blk wr gB 27 #[.int .i64 (W : Int), .int .i64 (H : Int), .int .i64 (d : Int), .slice (some ⟨g3, 0, none⟩) 3 c3] ∧ Blk wr gW 27 #[.int .i64 (W : Int), .int .i64 (H : Int), .int .i64 (d : Int), .slice (some ⟨g4, 0, none⟩) 3 c4] ∧ RdLL wr wr.heap.size .i64 (some ⟨g3, 0, none⟩) [q, q, q] ∧ RdLL wr wr.heap.size .i64 (some ⟨g4, 0, none⟩) L3) (fun i _ => 3 - (intOf i).toNat)
      case atStart => exact ⟨0, by omega, rfl, bB4, kB4, k4, rB4, r4⟩
      case round =>
        obtain ⟨n, hn, rfl, hbr, kbr, kwr, rbr, rwr⟩ := hrel
        by_cases hlt : n < 3
        · have hlz : (n : Int) < 3 := by omega
          obtain ⟨x0, x1, x2, x3, _⟩ := kbr.four
          have hgl := kbr.lt
          have hgl2 := kwr.lt
          go_upto_region 16 with (fail)
          have hm1 := OwnI.made (e := 3) (k := .i64) wr (Nat.le_refl _) (n := N) (by omega)
          have yb := below_alloc (Below.refl wr.heap.size wr) (.cells (Array.replicate N (.int .i64 0)) 3)
          have kb2 := kbr.below yb hgl
          have kw2 := kwr.below yb hgl2
          have rb2 := rbr.to (Nat.le_refl _) yb
          have rw2 := rwr.to (Nat.le_refl _) yb
          have bb := below_then hbr yb
          clear kbr kwr rbr rwr x0 x1 x2 x3 hbr
          generalize wr.alloc (.cells (Array.replicate N (.int .i64 0)) 3) = wm at *
          obtain ⟨x0, x1, x2, x3, _⟩ := kb2.four
          obtain ⟨z0, z1, z2, z3, _⟩ := kw2.four
          obtain ⟨ad, A5, c5, e5, _, hc5, _, hr5⟩ := rw2 n (by rw [HL3.out]; exact hlt)
          injection e5 with e5
          subst e5
          rw [HG.out n hlt] at hc5 hr5
          by_cases hj : n = 0
          · subst hj
            rw [if_pos rfl] at hc5 hr5
            obtain ⟨ad, A6, c6, e6, _, hc6, _, hr6⟩ := rb2 0 (by simp)
            injection e6 with e6
            subst e6
            have hc6' : wm.cell? ⟨g3, 0, none⟩ = some (.slice A6 q.length c6) := hc6
            have hc5' : wm.cell? ⟨g4, 0, none⟩ = some (.slice A5 q.length c5) := hc5
            have hr6' : RdI wm wm.heap.size .i64 A6 q := hr6
            have HC := ints_any (c := c5) (c2 := c6) hr5 hr6' (by omega)
            simp only [decide_true] at HC
            replace HC := Lib.hid HC
            clear hc5 hc6 hr5 hr6
            go_wp2_with (first
              | (go_at_call 12; (with_reducible refine HC.out.mono ?_); rintro e v1 ⟨rfl, n1, rfl⟩))
            go_roundw
            case rel => exact ⟨0 + 1, by omega, by go_num, below_drewN bb n1, kb2.drewN n1, kw2.drewN n1, rb2.drewN n1, rw2.drewN n1⟩
            case measure => simp [intOf]
          · have hj' : ¬ (n : Int) = 0 := by omega
            rw [if_neg hj] at hc5 hr5
            rw [List.length_replicate] at hc5
            have hc5' : wm.cell? ⟨g4, n, none⟩ = some (.slice A5 N c5) := by rw [← add_zero_]; exact hc5
            obtain ⟨A7, c7, e7, _, hr7⟩ := hm1.cells3
            simp only [Value.slice.injEq] at e7
            obtain ⟨rfl, _, rfl⟩ := e7
            have HC := ints_any (c := c5) (c2 := N) hr5 hr7 (by rw [List.length_replicate]; omega)
            simp only [List.length_replicate, decide_true] at HC
            replace HC := Lib.hid HC
            clear hc5 hr5 hr7 hm1
            go_wp2_with (first
              | (go_at_call 12; (with_reducible refine HC.out.mono ?_); rintro e v1 ⟨rfl, n1, rfl⟩))
            go_roundw
            case rel => exact ⟨n + 1, by omega, by go_num, below_drewN bb n1, kb2.drewN n1, kw2.drewN n1, rb2.drewN n1, rw2.drewN n1⟩
            case measure => simp [intOf]; omega
        · obtain rfl : n = 3 := by omega
          go_wp2_with (first
            | (go_at_call 13; go_must (refine (HK.out _).mono ?_); rintro e w9 ⟨rfl, hb9⟩))
          go_ret
          exact ⟨rfl, below_then hbr hb9⟩
end Go.Proofs.Yticjiodnolngcaa.hueGrey
