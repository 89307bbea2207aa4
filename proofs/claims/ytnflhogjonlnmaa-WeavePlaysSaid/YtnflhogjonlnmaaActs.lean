/- The law's acts of a tape. -/
import Derived.Test.YtnflhogjonlnmaaAc
import Derived.Test.YtnflhogjonlnmaaTapeBy
import Derived.Test.YtnflhogjonlnmaaWvBdM
import Derived.Test.YtnflhogjonlnmaaPicLast
import Derived.Test.YtnflhogjonlnmaaOwnLit
import Derived.Deep.DeepCutAuto
set_option linter.unusedSimpArgs false
set_option linter.unusedVariables false
namespace Go.Proofs.Ytnflhogjonlnmaa
open Go.RowKit

theorem info_ac : (Try.prog.info? 75).map (fun i => (i.zero, i.size, i.bytes)) = some (some (.agg #[.int .i64 0, .int .i64 0, .int .i64 0, .int .i64 0, .bool false, .bool false, .slice none 0 0, .int .i64 0]), 8, 72) := by kernel_rfl
section
variable {w : World} {g : Nat} {t : TypeId} {z0 z1 z2 z3 z4 z5 z6 z7 : Value}
theorem Blk.eight (h : Blk w g t #[z0, z1, z2, z3, z4, z5, z6, z7]) :
    (w.cell? ⟨g, 0, none⟩ = some z0 ∧ w.cell? ⟨g, 1, none⟩ = some z1 ∧ w.cell? ⟨g, 2, none⟩ = some z2 ∧ w.cell? ⟨g, 3, none⟩ = some z3 ∧ w.cell? ⟨g, 4, none⟩ = some z4 ∧ w.cell? ⟨g, 5, none⟩ = some z5 ∧ w.cell? ⟨g, 6, none⟩ = some z6 ∧ w.cell? ⟨g, 7, none⟩ = some z7) ∧
    w.frozen? ⟨g, 0, none⟩ = false ∧ w.frozen? ⟨g, 1, none⟩ = false ∧ w.frozen? ⟨g, 2, none⟩ = false ∧ w.frozen? ⟨g, 3, none⟩ = false ∧ w.frozen? ⟨g, 4, none⟩ = false ∧ w.frozen? ⟨g, 5, none⟩ = false ∧ w.frozen? ⟨g, 6, none⟩ = false ∧ w.frozen? ⟨g, 7, none⟩ = false :=
  ⟨⟨h.cell 0, h.cell 1, h.cell 2, h.cell 3, h.cell 4, h.cell 5, h.cell 6, h.cell 7⟩, h.frozen 0, h.frozen 1, h.frozen 2, h.frozen 3, h.frozen 4, h.frozen 5, h.frozen 6, h.frozen 7⟩
def put8 (w : World) (g : Nat) (v0 v1 v2 v3 v4 v5 v6 v7 : Value) : World := ((((((((w.setCell ⟨g, 0, none⟩ v0).setCell ⟨g, 1, none⟩ v1).setCell ⟨g, 2, none⟩ v2).setCell ⟨g, 3, none⟩ v3).setCell ⟨g, 4, none⟩ v4).setCell ⟨g, 5, none⟩ v5).setCell ⟨g, 6, none⟩ v6).setCell ⟨g, 7, none⟩ v7)
theorem Blk.put8 (h : Blk w g t #[z0, z1, z2, z3, z4, z5, z6, z7]) (v0 v1 v2 v3 v4 v5 v6 v7 : Value) :
    Blk ((((((((w.setCell ⟨g, 0, none⟩ v0).setCell ⟨g, 1, none⟩ v1).setCell ⟨g, 2, none⟩ v2).setCell ⟨g, 3, none⟩ v3).setCell ⟨g, 4, none⟩ v4).setCell ⟨g, 5, none⟩ v5).setCell ⟨g, 6, none⟩ v6).setCell ⟨g, 7, none⟩ v7) g t #[v0, v1, v2, v3, v4, v5, v6, v7] := by
  have h := (((((((h.set_ 0 v0).set_ 1 v1).set_ 2 v2).set_ 3 v3).set_ 4 v4).set_ 5 v5).set_ 6 v6).set_ 7 v7
  simpa using h
theorem mod_put8 (g : Nat) (v0 v1 v2 v3 v4 v5 v6 v7 : Value) :
    Mod (· = g) w ((((((((w.setCell ⟨g, 0, none⟩ v0).setCell ⟨g, 1, none⟩ v1).setCell ⟨g, 2, none⟩ v2).setCell ⟨g, 3, none⟩ v3).setCell ⟨g, 4, none⟩ v4).setCell ⟨g, 5, none⟩ v5).setCell ⟨g, 6, none⟩ v6).setCell ⟨g, 7, none⟩ v7) :=
  mod_put (mod_put (mod_put (mod_put (mod_put (mod_put (mod_put (mod_put (Mod.refl _ _) (fun _ => rfl)) (fun _ => rfl)) (fun _ => rfl)) (fun _ => rfl)) (fun _ => rfl)) (fun _ => rfl)) (fun _ => rfl)) (fun _ => rfl)
theorem only_put8 {a : World} {x g9 : Nat} (h : a.grownBy w (some x)) (hg : a.heap.size ≤ g9) (v0 v1 v2 v3 v4 v5 v6 v7 : Value) :
    a.grownBy ((((((((w.setCell ⟨g9, 0, none⟩ v0).setCell ⟨g9, 1, none⟩ v1).setCell ⟨g9, 2, none⟩ v2).setCell ⟨g9, 3, none⟩ v3).setCell ⟨g9, 4, none⟩ v4).setCell ⟨g9, 5, none⟩ v5).setCell ⟨g9, 6, none⟩ v6).setCell ⟨g9, 7, none⟩ v7) (some x) :=
  only_setCell (p := ⟨g9, 7, none⟩) (only_setCell (p := ⟨g9, 6, none⟩) (only_setCell (p := ⟨g9, 5, none⟩) (only_setCell (p := ⟨g9, 4, none⟩) (only_setCell (p := ⟨g9, 3, none⟩) (only_setCell (p := ⟨g9, 2, none⟩) (only_setCell (p := ⟨g9, 1, none⟩) (only_setCell (p := ⟨g9, 0, none⟩) h (.inr hg) v0) (.inr hg) v1) (.inr hg) v2) (.inr hg) v3) (.inr hg) v4) (.inr hg) v5) (.inr hg) v6) (.inr hg) v7
end
theorem quo19 {r : Nat} (h : (r : Int) < 20) : ∃ q : Int, IntKind.i64.wrap ((r : Int) / 19) = q ∧ 0 ≤ q ∧ q ≤ 1 := by
  exact ⟨(r : Int) / 19, IntWalk.i64_in _ (by omega), by omega, by omega⟩
set_option maxHeartbeats 16000000 in
set_option maxRecDepth 100000 in
theorem acts_any {w : World} {B g : Nat} (h : TapeB w B g) (N : Nat) (hN : N ≤ 1000) :
    Calls Try.prog 12 #[.pointer (some ⟨g, 0, none⟩), .int .i64 N] w fun e w' => ∃ v l, e = .returned v ∧ l.length = N ∧ (∀ a ∈ l, a.p.data.length ≤ 4) ∧
      OwnG AcR 8 75 w' w.heap.size (fun b => w.heap.size ≤ b ∧ b < w'.heap.size) v l ∧ TapeB w' B g ∧ w.grownBy w' (some g) := by
  have hgl := h.lt
  have hBg := h.ge
  go_enter Try.func12, Try.ntmps12
  go_upto_region 3 with (fail)
  have hT0 := h.alloc (.cells #[.int .i64 0, .int .i64 0, .int .i64 0, .int .i64 0] 78)
  have k0 := Blk.new w 78 #[.int .i64 0, .int .i64 0, .int .i64 0, .int .i64 0]
  have hg0 := only_alloc (only_refl w (some g)) (.cells #[.int .i64 0, .int .i64 0, .int .i64 0, .int .i64 0] 78)
  generalize w.alloc (.cells #[.int .i64 0, .int .i64 0, .int .i64 0, .int .i64 0] 78) = ws at *
  clear h
  go_wp2_with (fail)
  go_loopw [6, 7] (fun v i wr => ∃ (l : List Ac) (L : List Int), l.length ≤ N ∧ L.length = 4 ∧ (∀ x ∈ L, 0 ≤ x ∧ x ≤ 40 * (l.length : Int)) ∧ i = .int .i64 (l.length : Int) ∧ (∀ a ∈ l, a.p.data.length ≤ 4) ∧ Blk wr w.heap.size 78 (ic .i64 L).toArray ∧
    OwnG AcR 8 75 wr w.heap.size (fun b => w.heap.size ≤ b ∧ b < wr.heap.size ∧ b ≠ w.heap.size) v l ∧ (∀ b, v.ownBlock = some b → b ≠ w.heap.size) ∧ TapeB wr B g ∧ w.grownBy wr (some g)) (fun _ i _ => N - (intOf i).toNat)
  case atStart => exact ⟨[], [0, 0, 0, 0], Nat.zero_le _, rfl, by simp, rfl, by simp, k0, OwnG.nil_ _ _ _ _ _ _, (fun _ h => by cases h), hT0, hg0⟩
  case round =>
    clear k0 hT0 hg0
    obtain ⟨l, Ls, hl, hL4, hLb, rfl, hld, hk, hown, hvb, hTr, hgw⟩ := hrel
    have hszr := hgw.size
    have hgl0 : w.heap.size < wr.heap.size := hk.lt
    by_cases hlt : l.length < N
    · have hp : (l.length : Int) < (N : Int) := by omega
      go_upto_region 7 with (first
        | (go_at_call 13; (with_reducible refine (next_any hTr 4 (by omega) (by omega)).mono ?_); rintro e wa ⟨r, rfl, hr, hTa, hga⟩))
      have hz7 := hga.size
      have hka := hk.grown hga (by simp; omega)
      obtain ⟨L, hLd⟩ : ∃ L, Ls.getD r 0 = L := ⟨_, rfl⟩
      have hLm := hLb _ (getD_mem (l := Ls) (r := r) (by omega))
      have c0 := Blk.lit_at hka (r := r) (by omega)
      rw [hLd] at c0 hLm
      have hr4 : (r : Int) < 4 := hr
      have hgra := hga
      replace hLd := Lib.hid hLd
      clear hga hk
      refine wp_region_last (S := (fun w' => w'.cell? ⟨w.heap.size, r, none⟩ = some (.int .i64 L))) 8 _ (by simp only [List.pop_toArray, List.dropLast_cons_cons, List.dropLast_singleton]; rfl) (by kernel_rfl) (by kernel_rfl) (by kernel_rfl) (by kernel_rfl) (by kernel_rfl) ?_ (fun hHeld => ?_)
      focus exact c0
      refine wpAnyH_take (i := 0) (v := ?_) rfl (by kernel_rfl) (by kernel_rfl) (by kernel_rfl) (fun _ _ _ h => h) (Or.inl ⟨by kernel_rfl, ?_⟩) (by assumption) ?_
      rotate_left
      focus
        intro w9 hSw
        (try dsimp only at hSw)
        go_simp
        (try with_reducible rfl)
      (try simp only [Act.put, List.getElem_toArray, List.getElem_cons_succ, List.getElem_cons_zero, List.setIfInBounds_toArray, List.set_cons_zero, List.set_cons_succ])
      refine wpAnyH_take (i := 1) (v := ?_) rfl (by kernel_rfl) (by kernel_rfl) (by kernel_rfl) (fun _ _ _ h => h) (Or.inl ⟨by kernel_rfl, ?_⟩) (by assumption) ?_
      rotate_left
      focus
        intro w9 hSw
        (try dsimp only at hSw)
        go_simp
        (try with_reducible rfl)
      (try simp only [Act.put, List.getElem_toArray, List.getElem_cons_succ, List.getElem_cons_zero, List.setIfInBounds_toArray, List.set_cons_zero, List.set_cons_succ])
      refine wpAnyH_take (i := 2) (v := ?_) rfl (by kernel_rfl) (by kernel_rfl) (by kernel_rfl) (fun _ _ _ h => h) (Or.inl ⟨by kernel_rfl, ?_⟩) (by assumption) ?_
      rotate_left
      focus
        intro w9 hSw
        (try dsimp only at hSw)
        go_simp
        (try with_reducible rfl)
      (try simp only [Act.put, List.getElem_toArray, List.getElem_cons_succ, List.getElem_cons_zero, List.setIfInBounds_toArray, List.set_cons_zero, List.set_cons_succ])
      refine wpAnyH_take (i := 3) (v := ?_) rfl (by kernel_rfl) (by kernel_rfl) (by kernel_rfl) (fun _ _ _ h => h) (Or.inl ⟨by kernel_rfl, ?_⟩) (by assumption) ?_
      rotate_left
      focus
        intro w9 hSw
        (try dsimp only at hSw)
        go_simp
        (try with_reducible rfl)
      (try simp only [Act.put, List.getElem_toArray, List.getElem_cons_succ, List.getElem_cons_zero, List.setIfInBounds_toArray, List.set_cons_zero, List.set_cons_succ])
      refine wpAnyH_take (i := 4) (v := ?_) rfl (by kernel_rfl) (by kernel_rfl) (by kernel_rfl) (fun _ _ _ h => h) (Or.inl ⟨by kernel_rfl, ?_⟩) (by assumption) ?_
      rotate_left
      focus
        intro w9 hSw
        (try dsimp only at hSw)
        go_simp
        (try with_reducible rfl)
      (try simp only [Act.put, List.getElem_toArray, List.getElem_cons_succ, List.getElem_cons_zero, List.setIfInBounds_toArray, List.set_cons_zero, List.set_cons_succ])
      refine wpAnyH_ready (rs := [5]) (by kernel_rfl) (by simp) (AllReadyH.cons rfl (fun K hK => ?_) AllReadyH.nil)
      go_simp
      go_at_call 13
      refine (next_any (hTa.drewN 1) 40 (by omega) (by omega)).mono ?_
      rintro e wb ⟨rr, rfl, hrr, hTb, hgb'⟩
      have hgb := only_trans (only_drew (only_refl wa (some g))) hgb'
      have c1 := (Mod.of_only (M := (· = g)) hgb (fun _ => rfl)).cell c0 (show w.heap.size ≠ g by omega)
      have hwr : IntKind.i64.wrap (L + (rr : Int)) = L + (rr : Int) := IntWalk.i64_in _ (by omega)
      refine hK.out _ _ ?_ (fun hHeld => ?_)
      focus exact c1
      clear hK K
      (try simp only [Act.put, List.getElem_toArray, List.getElem_cons_succ, List.getElem_cons_zero, List.setIfInBounds_toArray, List.set_cons_zero, List.set_cons_succ])
      refine wpAnyH_take (i := 6) (v := ?_) rfl (by kernel_rfl) (by kernel_rfl) (by kernel_rfl) (fun _ _ _ h => h) (Or.inl ⟨by kernel_rfl, ?_⟩) (by assumption) ?_
      rotate_left
      focus
        intro w9 hSw
        (try dsimp only at hSw)
        go_simp
        (try with_reducible rfl)
      (try simp only [Act.put, List.getElem_toArray, List.getElem_cons_succ, List.getElem_cons_zero, List.setIfInBounds_toArray, List.set_cons_zero, List.set_cons_succ])
      refine wpAnyH_take (i := 7) (v := ?_) rfl (by kernel_rfl) (by kernel_rfl) (by kernel_rfl) (fun _ _ _ h => h) (Or.inl ⟨by kernel_rfl, ?_⟩) (by assumption) ?_
      rotate_left
      focus
        intro w9 hSw
        (try dsimp only at hSw)
        go_simp
        (try with_reducible rfl)
      (try simp only [Act.put, List.getElem_toArray, List.getElem_cons_succ, List.getElem_cons_zero, List.setIfInBounds_toArray, List.set_cons_zero, List.set_cons_succ])
      have hkb := hka.grown hgb (by simp; omega)
      have f2 := hkb.frozen r
      refine wpAnyH_done (by kernel_rfl) (lastQ_step rfl (fun K hK => ?_)) _
      go_simp
      refine hK _ _ ?_
      clear hK K
      have hTv := hTb.far (a := ⟨w.heap.size, r, none⟩) (by simp only; omega) (show g ≠ w.heap.size by omega) (.int .i64 (L + (rr : Int)))
      have hkv := hkb.set_ r (.int .i64 (L + (rr : Int)))
      rw [ic_toArray_set] at hkv
      have hcv := Blk.lit_at hkv (r := r) (by rw [List.length_set]; omega)
      rw [getD_set_ (by omega), if_pos rfl] at hcv
      have hMv : Mod (fun b => b = g ∨ b = w.heap.size) wr (wb.setCell ⟨w.heap.size, r, none⟩ (.int .i64 (L + (rr : Int)))) := mod_put (Mod.of_only (only_trans hgra hgb) (fun _ => .inl rfl)) (fun _ => .inr rfl)
      have hgv := only_setCell (p := ⟨w.heap.size, r, none⟩) (only_trans hgw (only_trans hgra hgb)) (.inr (Nat.le_refl _)) (.int .i64 (L + (rr : Int)))
      obtain ⟨A0, c0_, rfl, hc0, _, hob0⟩ := hown.form AcR.good
      have hownv := hown.keep AcR.good hMv (fun b hb _ h => by rcases h with h | h <;> omega) (fun b hb h => by have := hob0 b hb; have := hvb b hb; rcases h with h | h <;> omega)
      have hszv := hMv.size
      have hL2 : ∀ x ∈ Ls.set r (L + (rr : Int)), 0 ≤ x ∧ x ≤ 40 * ((l.length : Int) + 1) := set_all (fun x hx => by have := hLb x hx; omega) (by omega)
      have HL2 := Lib.hid hL2
      have HL4 := Lib.hid (show (Ls.set r (L + (rr : Int))).length = 4 by rw [List.length_set]; exact hL4)
      generalize wb.setCell ⟨w.heap.size, r, none⟩ (.int .i64 (L + (rr : Int))) = wv at *
      generalize Ls.set r (L + (rr : Int)) = Lv at *
      clear c0 c1 hka hTa hgra hTb hgb hgb' hkb f2 hHeld hMv hown hTr hgw hL2 hLb hL4 hwr
      have hzv := hgv.size
      have HGV := Lib.hid hgv
      go_upto_region 8 with (fail)
      go_cut [9] (fun v wz => ∃ (g9 r1 : Nat) (at_ : Int) (r3 : Nat) (l5 : List Int) (A5 : Option Addr) (c5 : Nat), v = .pointer (some ⟨g9, 0, none⟩) ∧ r1 < 7 ∧ -9223372036854775808 ≤ at_ ∧ at_ ≤ 9223372036854775807 ∧ r3 < 9 ∧ l5.length ≤ 4 ∧ l5.length ≤ c5 ∧ (∀ x ∈ l5, 0 ≤ x ∧ x ≤ 255) ∧ wv.heap.size ≤ g9 ∧
        Blk wz g9 75 #[.int .i64 (r1 : Int), .int .i64 (r : Int), .int .i64 at_, .int .i64 (r3 : Int), .bool false, .bool false, .slice A5 l5.length c5, .int .i64 (r : Int)] ∧ RdS wz (fun b => wv.heap.size ≤ b ∧ b < wz.heap.size ∧ b ≠ g9) .u8 A5 l5 ∧ TapeB wz B g ∧ wv.grownBy wz (some g))
      case first =>
        have c0 := hcv
        refine wp_region_held_drew (S := (fun w' => w'.cell? ⟨w.heap.size, r, none⟩ = some (.int .i64 (L + (rr : Int))))) (by kernel_rfl) ?_ (fun hHeld => ?_)
        focus exact c0
        refine wpAnyH_take (i := 0) (v := ?_) rfl (by kernel_rfl) (by kernel_rfl) (by kernel_rfl) (fun _ _ _ h => h) (Or.inl ⟨by kernel_rfl, ?_⟩) (by assumption) ?_
        rotate_left
        focus
          intro w9 hSw
          (try dsimp only at hSw)
          go_simp
          (try with_reducible rfl)
        (try simp only [Act.put, List.getElem_toArray, List.getElem_cons_succ, List.getElem_cons_zero, List.setIfInBounds_toArray, List.set_cons_zero, List.set_cons_succ])
        refine wpAnyH_take (i := 2) (v := ?_) rfl (by kernel_rfl) (by kernel_rfl) (by kernel_rfl) (fun _ _ _ h => h) (Or.inl ⟨by kernel_rfl, ?_⟩) (by assumption) ?_
        rotate_left
        focus
          intro w9 hSw
          (try dsimp only at hSw)
          go_simp
          (try with_reducible rfl)
        (try simp only [Act.put, List.getElem_toArray, List.getElem_cons_succ, List.getElem_cons_zero, List.setIfInBounds_toArray, List.set_cons_zero, List.set_cons_succ])
        refine wpAnyH_take (i := 3) (v := ?_) rfl (by kernel_rfl) (by kernel_rfl) (by kernel_rfl) (fun _ _ _ h => h) (Or.inl ⟨by kernel_rfl, ?_⟩) (by assumption) ?_
        rotate_left
        focus
          intro w9 hSw
          (try dsimp only at hSw)
          go_simp
          (try with_reducible rfl)
        (try simp only [Act.put, List.getElem_toArray, List.getElem_cons_succ, List.getElem_cons_zero, List.setIfInBounds_toArray, List.set_cons_zero, List.set_cons_succ])
        refine wpAnyH_take (i := 4) (v := ?_) rfl (by kernel_rfl) (by kernel_rfl) (by kernel_rfl) (fun _ _ _ h => h) (Or.inl ⟨by kernel_rfl, ?_⟩) (by assumption) ?_
        rotate_left
        focus
          intro w9 hSw
          (try dsimp only at hSw)
          go_simp
          (try with_reducible rfl)
        (try simp only [Act.put, List.getElem_toArray, List.getElem_cons_succ, List.getElem_cons_zero, List.setIfInBounds_toArray, List.set_cons_zero, List.set_cons_succ])
        refine wpAnyH_take (i := 5) (v := ?_) rfl (by kernel_rfl) (by kernel_rfl) (by kernel_rfl) (fun _ _ _ h => h) (Or.inl ⟨by kernel_rfl, ?_⟩) (by assumption) ?_
        rotate_left
        focus
          intro w9 hSw
          (try dsimp only at hSw)
          go_simp
          (try with_reducible rfl)
        (try simp only [Act.put, List.getElem_toArray, List.getElem_cons_succ, List.getElem_cons_zero, List.setIfInBounds_toArray, List.set_cons_zero, List.set_cons_succ])
        refine wpAnyH_take (i := 6) (v := ?_) rfl (by kernel_rfl) (by kernel_rfl) (by kernel_rfl) (fun _ _ _ h => h) (Or.inl ⟨by kernel_rfl, ?_⟩) (by assumption) ?_
        rotate_left
        focus
          intro w9 hSw
          (try dsimp only at hSw)
          go_simp
          (try with_reducible rfl)
        (try simp only [Act.put, List.getElem_toArray, List.getElem_cons_succ, List.getElem_cons_zero, List.setIfInBounds_toArray, List.set_cons_zero, List.set_cons_succ])
        refine wpAnyH_take (i := 10) (v := ?_) rfl (by kernel_rfl) (by kernel_rfl) (by kernel_rfl) (fun _ _ _ h => h) (Or.inl ⟨by kernel_rfl, ?_⟩) (by assumption) ?_
        rotate_left
        focus
          intro w9 hSw
          (try dsimp only at hSw)
          go_simp
          (try with_reducible rfl)
        (try simp only [Act.put, List.getElem_toArray, List.getElem_cons_succ, List.getElem_cons_zero, List.setIfInBounds_toArray, List.set_cons_zero, List.set_cons_succ])
        refine wpAnyH_take (i := 12) (v := ?_) rfl (by kernel_rfl) (by kernel_rfl) (by kernel_rfl) (fun _ _ _ h => h) (Or.inl ⟨by kernel_rfl, ?_⟩) (by assumption) ?_
        rotate_left
        focus
          intro w9 hSw
          (try dsimp only at hSw)
          go_simp
          (try with_reducible rfl)
        (try simp only [Act.put, List.getElem_toArray, List.getElem_cons_succ, List.getElem_cons_zero, List.setIfInBounds_toArray, List.set_cons_zero, List.set_cons_succ])
        refine wpAnyH_take (i := 15) (v := ?_) rfl (by kernel_rfl) (by kernel_rfl) (by kernel_rfl) (fun _ _ _ h => h) (Or.inl ⟨by kernel_rfl, ?_⟩) (by assumption) ?_
        rotate_left
        focus
          intro w9 hSw
          (try dsimp only at hSw)
          go_simp
          (try with_reducible rfl)
        (try simp only [Act.put, List.getElem_toArray, List.getElem_cons_succ, List.getElem_cons_zero, List.setIfInBounds_toArray, List.set_cons_zero, List.set_cons_succ])
        refine wpAnyH_ready (rs := [1, 17]) (by kernel_rfl) (by simp) (AllReadyH.cons rfl (fun K hK => ?_) (AllReadyH.cons rfl (fun K hK => ?_) AllReadyH.nil))
        · go_simp
          go_at_call 13
          refine (next_any (hTv.drewN 1) 7 (by omega) (by omega)).mono ?_
          rintro e w1 ⟨r1, rfl, hr1, hT1, hg1'⟩
          have hg1 := only_trans (only_drew (only_refl wv (some g))) hg1'
          have hz1 := hg1'.size
          have hy1 : wv.heap.size ≤ w1.heap.size := hg1.size
          refine hK.out _ _ ?_ (fun hHeld => ?_)
          focus exact (Mod.of_only (M := (· = g)) hg1 (fun _ => rfl)).cell c0 (show w.heap.size ≠ g by omega)
          clear hK K
          (try simp only [Act.put, List.getElem_toArray, List.getElem_cons_succ, List.getElem_cons_zero, List.setIfInBounds_toArray, List.set_cons_zero, List.set_cons_succ])
          refine wpAnyH_ready (rs := [7, 17]) (by kernel_rfl) (by simp) (AllReadyH.cons rfl (fun K hK => ?_) (AllReadyH.cons rfl (fun K hK => ?_) AllReadyH.nil))
          · go_simp
            go_at_call 13
            refine (next_any hT1 20 (by omega) (by omega)).mono ?_
            rintro e w2 ⟨r2, rfl, hr2, hT2, hg2'⟩
            obtain ⟨q2, hq2, q20, q21⟩ := quo19 hr2
            have hwq : IntKind.i64.wrap (L + (rr : Int) - q2) = L + (rr : Int) - q2 := IntWalk.i64_in _ (by omega)
            have hg2 := only_trans hg1 hg2'
            have hz2 := hg2'.size
            have hy2 : wv.heap.size ≤ w2.heap.size := hg2.size
            refine hK.out _ _ ?_ (fun hHeld => ?_)
            focus exact (Mod.of_only (M := (· = g)) hg2 (fun _ => rfl)).cell c0 (show w.heap.size ≠ g by omega)
            clear hK K
            (try simp only [Act.put, List.getElem_toArray, List.getElem_cons_succ, List.getElem_cons_zero, List.setIfInBounds_toArray, List.set_cons_zero, List.set_cons_succ])
            refine wpAnyH_take (i := 8) (v := ?_) rfl (by kernel_rfl) (by kernel_rfl) (by kernel_rfl) (fun _ _ _ h => h) (Or.inl ⟨by kernel_rfl, ?_⟩) (by assumption) ?_
            rotate_left
            focus
              intro w9 hSw
              (try dsimp only at hSw)
              go_simp
              (try with_reducible rfl)
            (try simp only [Act.put, List.getElem_toArray, List.getElem_cons_succ, List.getElem_cons_zero, List.setIfInBounds_toArray, List.set_cons_zero, List.set_cons_succ])
            refine wpAnyH_take (i := 9) (v := ?_) rfl (by kernel_rfl) (by kernel_rfl) (by kernel_rfl) (fun _ _ _ h => h) (Or.inl ⟨by kernel_rfl, ?_⟩) (by assumption) ?_
            rotate_left
            focus
              intro w9 hSw
              (try dsimp only at hSw)
              go_simp
              (try with_reducible rfl)
            (try simp only [Act.put, List.getElem_toArray, List.getElem_cons_succ, List.getElem_cons_zero, List.setIfInBounds_toArray, List.set_cons_zero, List.set_cons_succ])
            refine wpAnyH_ready (rs := [11, 17]) (by kernel_rfl) (by simp) (AllReadyH.cons rfl (fun K hK => ?_) (AllReadyH.cons rfl (fun K hK => ?_) AllReadyH.nil))
            · go_simp
              go_at_call 13
              refine (next_any hT2 9 (by omega) (by omega)).mono ?_
              rintro e w3 ⟨r3, rfl, hr3, hT3, hg3'⟩
              have hg3 := only_trans hg2 hg3'
              have hz3 := hg3'.size
              have hy3 : wv.heap.size ≤ w3.heap.size := hg3.size
              refine hK.out _ _ ?_ (fun hHeld => ?_)
              focus exact (Mod.of_only (M := (· = g)) hg3 (fun _ => rfl)).cell c0 (show w.heap.size ≠ g by omega)
              clear hK K
              (try simp only [Act.put, List.getElem_toArray, List.getElem_cons_succ, List.getElem_cons_zero, List.setIfInBounds_toArray, List.set_cons_zero, List.set_cons_succ])
              refine wpAnyH_ready (rs := [13, 17]) (by kernel_rfl) (by simp) (AllReadyH.cons rfl (fun K hK => ?_) (AllReadyH.cons rfl (fun K hK => ?_) AllReadyH.nil))
              · go_simp
                go_at_call 34
                refine (tapebytes_any hT3 4 (by omega) (by omega)).mono ?_
                rintro e w4 ⟨v5, l5, rfl, hl5, hby5, ho5, hT4, hg4'⟩
                obtain ⟨A5, c5, rfl, hc5, hr5, hA5⟩ := ho5.form
                obtain ⟨_, _, hrs5⟩ := ho5.rds
                have hg4 := only_trans hg3 hg4'
                have hz4 := hg4'.size
                have hy4 : wv.heap.size ≤ w4.heap.size := hg4.size
                refine hK.out _ _ ?_ (fun hHeld => ?_)
                focus exact (Mod.of_only (M := (· = g)) hg4 (fun _ => rfl)).cell c0 (show w.heap.size ≠ g by omega)
                clear hK K
                (try simp only [Act.put, List.getElem_toArray, List.getElem_cons_succ, List.getElem_cons_zero, List.setIfInBounds_toArray, List.set_cons_zero, List.set_cons_succ])
                refine wpAnyH_take (i := 14) (v := ?_) rfl (by kernel_rfl) (by kernel_rfl) (by kernel_rfl) (fun _ _ _ h => h) (Or.inl ⟨by kernel_rfl, ?_⟩) (by assumption) ?_
                rotate_left
                focus
                  intro w9 hSw
                  (try dsimp only at hSw)
                  go_simp
                  (try with_reducible rfl)
                (try simp only [Act.put, List.getElem_toArray, List.getElem_cons_succ, List.getElem_cons_zero, List.setIfInBounds_toArray, List.set_cons_zero, List.set_cons_succ])
                refine wpAnyH_take (i := 16) (v := ?_) rfl (by kernel_rfl) (by kernel_rfl) (by kernel_rfl) (fun _ _ _ h => h) (Or.inl ⟨by kernel_rfl, ?_⟩) (by assumption) ?_
                rotate_left
                focus
                  intro w9 hSw
                  (try dsimp only at hSw)
                  go_simp
                  (try with_reducible rfl)
                (try simp only [Act.put, List.getElem_toArray, List.getElem_cons_succ, List.getElem_cons_zero, List.setIfInBounds_toArray, List.set_cons_zero, List.set_cons_succ])
                refine wpAnyH_ready (rs := [17]) (by kernel_rfl) (by simp) (AllReadyH.cons rfl (fun K hK => ?_) AllReadyH.nil)
                go_simp
                refine hK.out _ _ ?_ (fun hHeld => ?_)
                focus exact (Mod.of_only (M := (· = g)) (only_alloc hg4 _) (fun _ => rfl)).cell c0 (show w.heap.size ≠ g by omega)
                clear hK K
                (try simp only [Act.put, List.getElem_toArray, List.getElem_cons_succ, List.getElem_cons_zero, List.setIfInBounds_toArray, List.set_cons_zero, List.set_cons_succ])
                refine wpAnyH_ready (rs := [18]) (by kernel_rfl) (by simp) (AllReadyH.cons rfl (fun K hK => ?_) AllReadyH.nil)
                go_simp
                have kz := Blk.new w4 75 #[.int .i64 (r1 : Int), .int .i64 (r : Int), .int .i64 (L + (rr : Int) - q2), .int .i64 (r3 : Int), .bool false, .bool false, .slice A5 l5.length c5, .int .i64 (r : Int)]
                have hMz : Mod (fun _ => False) w4 (w4.alloc (.cells #[.int .i64 (r1 : Int), .int .i64 (r : Int), .int .i64 (L + (rr : Int) - q2), .int .i64 (r3 : Int), .bool false, .bool false, .slice A5 l5.length c5, .int .i64 (r : Int)] 75)) := (Mod.refl _ _).alloc _
                have hgz := only_alloc hg4 (.cells #[.int .i64 (r1 : Int), .int .i64 (r : Int), .int .i64 (L + (rr : Int) - q2), .int .i64 (r3 : Int), .bool false, .bool false, .slice A5 l5.length c5, .int .i64 (r : Int)] 75)
                have hnS : ∀ b, (fun b => w3.heap.size ≤ b ∧ b < w4.heap.size ∧ (Value.slice A5 l5.length c5).ownBlock = some b) b → b < w4.heap.size → wv.heap.size ≤ b ∧ b < w4.heap.size + 1 ∧ b ≠ w4.heap.size := fun b hb _ => ⟨by have := hb.1; omega, by have := hb.2.1; omega, by have := hb.2.1; omega⟩
                have hrz := (hrs5.weak hnS).keep hMz (fun _ _ _ h => h)
                have hTz := hT4.alloc (.cells #[.int .i64 (r1 : Int), .int .i64 (r : Int), .int .i64 (L + (rr : Int) - q2), .int .i64 (r3 : Int), .bool false, .bool false, .slice A5 l5.length c5, .int .i64 (r : Int)] 75)
                have hsz : (w4.alloc (.cells #[.int .i64 (r1 : Int), .int .i64 (r : Int), .int .i64 (L + (rr : Int) - q2), .int .i64 (r3 : Int), .bool false, .bool false, .slice A5 l5.length c5, .int .i64 (r : Int)] 75)).heap.size = w4.heap.size + 1 := by simp
                generalize w4.alloc (.cells #[.int .i64 (r1 : Int), .int .i64 (r : Int), .int .i64 (L + (rr : Int) - q2), .int .i64 (r3 : Int), .bool false, .bool false, .slice A5 l5.length c5, .int .i64 (r : Int)] 75) = wz at *
                rw [← hsz] at hrz
                refine hK.out _ _ ?_ (fun hHeld => ?_)
                focus exact (Mod.of_only (M := (· = g)) hgz (fun _ => rfl)).cell c0 (show w.heap.size ≠ g by omega)
                clear hK K
                (try simp only [Act.put, List.getElem_toArray, List.getElem_cons_succ, List.getElem_cons_zero, List.setIfInBounds_toArray, List.set_cons_zero, List.set_cons_succ])
                refine wpAnyH_done (by kernel_rfl) ?_ _
                (try simp only [Act.put, List.getElem_toArray, List.getElem_cons_succ, List.getElem_cons_zero, List.setIfInBounds_toArray, List.set_cons_zero, List.set_cons_succ])
                go_wp2
                go_meet
                exact ⟨w4.heap.size, r1, L + (rr : Int) - q2, r3, l5, A5, c5, rfl, by omega, by omega, by omega, by omega, by omega, hc5, hby5, by omega, kz, hrz, hTz, hgz⟩
              · go_simp
                have k4 := Blk.new w3 75 #[.int .i64 0, .int .i64 0, .int .i64 0, .int .i64 0, .bool false, .bool false, .slice none 0 0, .int .i64 0]
                have hTa := (hT3).alloc (.cells #[.int .i64 0, .int .i64 0, .int .i64 0, .int .i64 0, .bool false, .bool false, .slice none 0 0, .int .i64 0] 75)
                have hga := only_alloc (hg3) (.cells #[.int .i64 0, .int .i64 0, .int .i64 0, .int .i64 0, .bool false, .bool false, .slice none 0 0, .int .i64 0] 75)
                have hsa : (w3.alloc (.cells #[.int .i64 0, .int .i64 0, .int .i64 0, .int .i64 0, .bool false, .bool false, .slice none 0 0, .int .i64 0] 75)).heap.size = w3.heap.size + 1 := by simp
                generalize hwa : w3.alloc (.cells #[.int .i64 0, .int .i64 0, .int .i64 0, .int .i64 0, .bool false, .bool false, .slice none 0 0, .int .i64 0] 75) = wa at *
                refine hK.out _ _ ?_ (fun hHeld => ?_)
                focus exact (Mod.of_only (M := (· = g)) hga (fun _ => rfl)).cell c0 (show w.heap.size ≠ g by omega)
                clear hK K
                (try simp only [Act.put, List.getElem_toArray, List.getElem_cons_succ, List.getElem_cons_zero, List.setIfInBounds_toArray, List.set_cons_zero, List.set_cons_succ])
                refine wpAnyH_ready (rs := [13]) (by kernel_rfl) (by simp) (AllReadyH.cons rfl (fun K hK => ?_) AllReadyH.nil)
                go_simp
                go_at_call 34
                refine (tapebytes_any hTa 4 (by omega) (by omega)).mono ?_
                rintro e w4 ⟨v5, l5, rfl, hl5, hby5, ho5, hT4, hg4'⟩
                obtain ⟨A5, c5, rfl, hc5, hr5, hA5⟩ := ho5.form
                obtain ⟨_, _, hrs5⟩ := ho5.rds
                have hg4 := only_trans hga hg4'
                have hz4 := hg4'.size
                have hy4 : wv.heap.size ≤ w4.heap.size := hg4.size
                replace k4 := k4.grown hg4' (by simp; omega)
                refine hK.out _ _ ?_ (fun hHeld => ?_)
                focus exact (Mod.of_only (M := (· = g)) hg4 (fun _ => rfl)).cell c0 (show w.heap.size ≠ g by omega)
                clear hK K
                (try simp only [Act.put, List.getElem_toArray, List.getElem_cons_succ, List.getElem_cons_zero, List.setIfInBounds_toArray, List.set_cons_zero, List.set_cons_succ])
                refine wpAnyH_take (i := 14) (v := ?_) rfl (by kernel_rfl) (by kernel_rfl) (by kernel_rfl) (fun _ _ _ h => h) (Or.inl ⟨by kernel_rfl, ?_⟩) (by assumption) ?_
                rotate_left
                focus
                  intro w9 hSw
                  (try dsimp only at hSw)
                  go_simp
                  (try with_reducible rfl)
                (try simp only [Act.put, List.getElem_toArray, List.getElem_cons_succ, List.getElem_cons_zero, List.setIfInBounds_toArray, List.set_cons_zero, List.set_cons_succ])
                refine wpAnyH_take (i := 16) (v := ?_) rfl (by kernel_rfl) (by kernel_rfl) (by kernel_rfl) (fun _ _ _ h => h) (Or.inl ⟨by kernel_rfl, ?_⟩) (by assumption) ?_
                rotate_left
                focus
                  intro w9 hSw
                  (try dsimp only at hSw)
                  go_simp
                  (try with_reducible rfl)
                (try simp only [Act.put, List.getElem_toArray, List.getElem_cons_succ, List.getElem_cons_zero, List.setIfInBounds_toArray, List.set_cons_zero, List.set_cons_succ])
                obtain ⟨⟨e0, e1, e2, e3, e4, e5, e6, e7⟩, f0, f1, f2, f3, f4, f5, f6, f7⟩ := k4.eight
                refine wpAnyH_ready (rs := [18]) (by kernel_rfl) (by simp) (AllReadyH.cons rfl (fun K hK => ?_) AllReadyH.nil)
                go_simp
                have kz := k4.put8 (.int .i64 (r1 : Int)) (.int .i64 (r : Int)) (.int .i64 (L + (rr : Int) - q2)) (.int .i64 (r3 : Int)) (.bool false) (.bool false) (.slice A5 l5.length c5) (.int .i64 (r : Int))
                have hMz : Mod (· = w3.heap.size) w4 ((((((((w4.setCell ⟨w3.heap.size, 0, none⟩ (.int .i64 (r1 : Int))).setCell ⟨w3.heap.size, 1, none⟩ (.int .i64 (r : Int))).setCell ⟨w3.heap.size, 2, none⟩ (.int .i64 (L + (rr : Int) - q2))).setCell ⟨w3.heap.size, 3, none⟩ (.int .i64 (r3 : Int))).setCell ⟨w3.heap.size, 4, none⟩ (.bool false)).setCell ⟨w3.heap.size, 5, none⟩ (.bool false)).setCell ⟨w3.heap.size, 6, none⟩ (.slice A5 l5.length c5)).setCell ⟨w3.heap.size, 7, none⟩ (.int .i64 (r : Int))) := mod_put8 w3.heap.size (.int .i64 (r1 : Int)) (.int .i64 (r : Int)) (.int .i64 (L + (rr : Int) - q2)) (.int .i64 (r3 : Int)) (.bool false) (.bool false) (.slice A5 l5.length c5) (.int .i64 (r : Int))
                have hgz := only_put8 hg4 (g9 := w3.heap.size) (by omega) (.int .i64 (r1 : Int)) (.int .i64 (r : Int)) (.int .i64 (L + (rr : Int) - q2)) (.int .i64 (r3 : Int)) (.bool false) (.bool false) (.slice A5 l5.length c5) (.int .i64 (r : Int))
                have hnS : ∀ b, (fun b => wa.heap.size ≤ b ∧ b < w4.heap.size ∧ (Value.slice A5 l5.length c5).ownBlock = some b) b → b < w4.heap.size → wv.heap.size ≤ b ∧ b < w4.heap.size ∧ b ≠ w3.heap.size := fun b hb _ => ⟨by have := hb.1; omega, hb.2.1, by have := hb.1; omega⟩
                have hrz := (hrs5.weak hnS).keep hMz (fun b hb _ e => hb.2.2 e)
                have hTz := hT4.mod hMz (by omega) (fun b e => by omega)
                have hsz : ((((((((w4.setCell ⟨w3.heap.size, 0, none⟩ (.int .i64 (r1 : Int))).setCell ⟨w3.heap.size, 1, none⟩ (.int .i64 (r : Int))).setCell ⟨w3.heap.size, 2, none⟩ (.int .i64 (L + (rr : Int) - q2))).setCell ⟨w3.heap.size, 3, none⟩ (.int .i64 (r3 : Int))).setCell ⟨w3.heap.size, 4, none⟩ (.bool false)).setCell ⟨w3.heap.size, 5, none⟩ (.bool false)).setCell ⟨w3.heap.size, 6, none⟩ (.slice A5 l5.length c5)).setCell ⟨w3.heap.size, 7, none⟩ (.int .i64 (r : Int))).heap.size = w4.heap.size := by simp [World.setCell]
                generalize ((((((((w4.setCell ⟨w3.heap.size, 0, none⟩ (.int .i64 (r1 : Int))).setCell ⟨w3.heap.size, 1, none⟩ (.int .i64 (r : Int))).setCell ⟨w3.heap.size, 2, none⟩ (.int .i64 (L + (rr : Int) - q2))).setCell ⟨w3.heap.size, 3, none⟩ (.int .i64 (r3 : Int))).setCell ⟨w3.heap.size, 4, none⟩ (.bool false)).setCell ⟨w3.heap.size, 5, none⟩ (.bool false)).setCell ⟨w3.heap.size, 6, none⟩ (.slice A5 l5.length c5)).setCell ⟨w3.heap.size, 7, none⟩ (.int .i64 (r : Int))) = wz at *
                rw [← hsz] at hrz
                refine hK.out _ _ ?_ (fun hHeld => ?_)
                focus exact (Mod.of_only (M := (· = g)) hgz (fun _ => rfl)).cell c0 (show w.heap.size ≠ g by omega)
                clear hK K
                (try simp only [Act.put, List.getElem_toArray, List.getElem_cons_succ, List.getElem_cons_zero, List.setIfInBounds_toArray, List.set_cons_zero, List.set_cons_succ])
                refine wpAnyH_done (by kernel_rfl) ?_ _
                (try simp only [Act.put, List.getElem_toArray, List.getElem_cons_succ, List.getElem_cons_zero, List.setIfInBounds_toArray, List.set_cons_zero, List.set_cons_succ])
                go_wp2
                go_meet
                exact ⟨w3.heap.size, r1, L + (rr : Int) - q2, r3, l5, A5, c5, rfl, by omega, by omega, by omega, by omega, by omega, hc5, hby5, by omega, kz, hrz, hTz, hgz⟩
            · go_simp
              have k4 := Blk.new w2 75 #[.int .i64 0, .int .i64 0, .int .i64 0, .int .i64 0, .bool false, .bool false, .slice none 0 0, .int .i64 0]
              have hTa := (hT2).alloc (.cells #[.int .i64 0, .int .i64 0, .int .i64 0, .int .i64 0, .bool false, .bool false, .slice none 0 0, .int .i64 0] 75)
              have hga := only_alloc (hg2) (.cells #[.int .i64 0, .int .i64 0, .int .i64 0, .int .i64 0, .bool false, .bool false, .slice none 0 0, .int .i64 0] 75)
              have hsa : (w2.alloc (.cells #[.int .i64 0, .int .i64 0, .int .i64 0, .int .i64 0, .bool false, .bool false, .slice none 0 0, .int .i64 0] 75)).heap.size = w2.heap.size + 1 := by simp
              generalize hwa : w2.alloc (.cells #[.int .i64 0, .int .i64 0, .int .i64 0, .int .i64 0, .bool false, .bool false, .slice none 0 0, .int .i64 0] 75) = wa at *
              refine hK.out _ _ ?_ (fun hHeld => ?_)
              focus exact (Mod.of_only (M := (· = g)) hga (fun _ => rfl)).cell c0 (show w.heap.size ≠ g by omega)
              clear hK K
              (try simp only [Act.put, List.getElem_toArray, List.getElem_cons_succ, List.getElem_cons_zero, List.setIfInBounds_toArray, List.set_cons_zero, List.set_cons_succ])
              refine wpAnyH_ready (rs := [11]) (by kernel_rfl) (by simp) (AllReadyH.cons rfl (fun K hK => ?_) AllReadyH.nil)
              go_simp
              go_at_call 13
              refine (next_any hTa 9 (by omega) (by omega)).mono ?_
              rintro e w3 ⟨r3, rfl, hr3, hT3, hg3'⟩
              have hg3 := only_trans hga hg3'
              have hz3 := hg3'.size
              have hy3 : wv.heap.size ≤ w3.heap.size := hg3.size
              replace k4 := k4.grown hg3' (by simp; omega)
              refine hK.out _ _ ?_ (fun hHeld => ?_)
              focus exact (Mod.of_only (M := (· = g)) hg3 (fun _ => rfl)).cell c0 (show w.heap.size ≠ g by omega)
              clear hK K
              (try simp only [Act.put, List.getElem_toArray, List.getElem_cons_succ, List.getElem_cons_zero, List.setIfInBounds_toArray, List.set_cons_zero, List.set_cons_succ])
              refine wpAnyH_ready (rs := [13]) (by kernel_rfl) (by simp) (AllReadyH.cons rfl (fun K hK => ?_) AllReadyH.nil)
              go_simp
              go_at_call 34
              refine (tapebytes_any hT3 4 (by omega) (by omega)).mono ?_
              rintro e w4 ⟨v5, l5, rfl, hl5, hby5, ho5, hT4, hg4'⟩
              obtain ⟨A5, c5, rfl, hc5, hr5, hA5⟩ := ho5.form
              obtain ⟨_, _, hrs5⟩ := ho5.rds
              have hg4 := only_trans hg3 hg4'
              have hz4 := hg4'.size
              have hy4 : wv.heap.size ≤ w4.heap.size := hg4.size
              replace k4 := k4.grown hg4' (by simp; omega)
              refine hK.out _ _ ?_ (fun hHeld => ?_)
              focus exact (Mod.of_only (M := (· = g)) hg4 (fun _ => rfl)).cell c0 (show w.heap.size ≠ g by omega)
              clear hK K
              (try simp only [Act.put, List.getElem_toArray, List.getElem_cons_succ, List.getElem_cons_zero, List.setIfInBounds_toArray, List.set_cons_zero, List.set_cons_succ])
              refine wpAnyH_take (i := 14) (v := ?_) rfl (by kernel_rfl) (by kernel_rfl) (by kernel_rfl) (fun _ _ _ h => h) (Or.inl ⟨by kernel_rfl, ?_⟩) (by assumption) ?_
              rotate_left
              focus
                intro w9 hSw
                (try dsimp only at hSw)
                go_simp
                (try with_reducible rfl)
              (try simp only [Act.put, List.getElem_toArray, List.getElem_cons_succ, List.getElem_cons_zero, List.setIfInBounds_toArray, List.set_cons_zero, List.set_cons_succ])
              refine wpAnyH_take (i := 16) (v := ?_) rfl (by kernel_rfl) (by kernel_rfl) (by kernel_rfl) (fun _ _ _ h => h) (Or.inl ⟨by kernel_rfl, ?_⟩) (by assumption) ?_
              rotate_left
              focus
                intro w9 hSw
                (try dsimp only at hSw)
                go_simp
                (try with_reducible rfl)
              (try simp only [Act.put, List.getElem_toArray, List.getElem_cons_succ, List.getElem_cons_zero, List.setIfInBounds_toArray, List.set_cons_zero, List.set_cons_succ])
              obtain ⟨⟨e0, e1, e2, e3, e4, e5, e6, e7⟩, f0, f1, f2, f3, f4, f5, f6, f7⟩ := k4.eight
              refine wpAnyH_ready (rs := [18]) (by kernel_rfl) (by simp) (AllReadyH.cons rfl (fun K hK => ?_) AllReadyH.nil)
              go_simp
              have kz := k4.put8 (.int .i64 (r1 : Int)) (.int .i64 (r : Int)) (.int .i64 (L + (rr : Int) - q2)) (.int .i64 (r3 : Int)) (.bool false) (.bool false) (.slice A5 l5.length c5) (.int .i64 (r : Int))
              have hMz : Mod (· = w2.heap.size) w4 ((((((((w4.setCell ⟨w2.heap.size, 0, none⟩ (.int .i64 (r1 : Int))).setCell ⟨w2.heap.size, 1, none⟩ (.int .i64 (r : Int))).setCell ⟨w2.heap.size, 2, none⟩ (.int .i64 (L + (rr : Int) - q2))).setCell ⟨w2.heap.size, 3, none⟩ (.int .i64 (r3 : Int))).setCell ⟨w2.heap.size, 4, none⟩ (.bool false)).setCell ⟨w2.heap.size, 5, none⟩ (.bool false)).setCell ⟨w2.heap.size, 6, none⟩ (.slice A5 l5.length c5)).setCell ⟨w2.heap.size, 7, none⟩ (.int .i64 (r : Int))) := mod_put8 w2.heap.size (.int .i64 (r1 : Int)) (.int .i64 (r : Int)) (.int .i64 (L + (rr : Int) - q2)) (.int .i64 (r3 : Int)) (.bool false) (.bool false) (.slice A5 l5.length c5) (.int .i64 (r : Int))
              have hgz := only_put8 hg4 (g9 := w2.heap.size) (by omega) (.int .i64 (r1 : Int)) (.int .i64 (r : Int)) (.int .i64 (L + (rr : Int) - q2)) (.int .i64 (r3 : Int)) (.bool false) (.bool false) (.slice A5 l5.length c5) (.int .i64 (r : Int))
              have hnS : ∀ b, (fun b => w3.heap.size ≤ b ∧ b < w4.heap.size ∧ (Value.slice A5 l5.length c5).ownBlock = some b) b → b < w4.heap.size → wv.heap.size ≤ b ∧ b < w4.heap.size ∧ b ≠ w2.heap.size := fun b hb _ => ⟨by have := hb.1; omega, hb.2.1, by have := hb.1; omega⟩
              have hrz := (hrs5.weak hnS).keep hMz (fun b hb _ e => hb.2.2 e)
              have hTz := hT4.mod hMz (by omega) (fun b e => by omega)
              have hsz : ((((((((w4.setCell ⟨w2.heap.size, 0, none⟩ (.int .i64 (r1 : Int))).setCell ⟨w2.heap.size, 1, none⟩ (.int .i64 (r : Int))).setCell ⟨w2.heap.size, 2, none⟩ (.int .i64 (L + (rr : Int) - q2))).setCell ⟨w2.heap.size, 3, none⟩ (.int .i64 (r3 : Int))).setCell ⟨w2.heap.size, 4, none⟩ (.bool false)).setCell ⟨w2.heap.size, 5, none⟩ (.bool false)).setCell ⟨w2.heap.size, 6, none⟩ (.slice A5 l5.length c5)).setCell ⟨w2.heap.size, 7, none⟩ (.int .i64 (r : Int))).heap.size = w4.heap.size := by simp [World.setCell]
              generalize ((((((((w4.setCell ⟨w2.heap.size, 0, none⟩ (.int .i64 (r1 : Int))).setCell ⟨w2.heap.size, 1, none⟩ (.int .i64 (r : Int))).setCell ⟨w2.heap.size, 2, none⟩ (.int .i64 (L + (rr : Int) - q2))).setCell ⟨w2.heap.size, 3, none⟩ (.int .i64 (r3 : Int))).setCell ⟨w2.heap.size, 4, none⟩ (.bool false)).setCell ⟨w2.heap.size, 5, none⟩ (.bool false)).setCell ⟨w2.heap.size, 6, none⟩ (.slice A5 l5.length c5)).setCell ⟨w2.heap.size, 7, none⟩ (.int .i64 (r : Int))) = wz at *
              rw [← hsz] at hrz
              refine hK.out _ _ ?_ (fun hHeld => ?_)
              focus exact (Mod.of_only (M := (· = g)) hgz (fun _ => rfl)).cell c0 (show w.heap.size ≠ g by omega)
              clear hK K
              (try simp only [Act.put, List.getElem_toArray, List.getElem_cons_succ, List.getElem_cons_zero, List.setIfInBounds_toArray, List.set_cons_zero, List.set_cons_succ])
              refine wpAnyH_done (by kernel_rfl) ?_ _
              (try simp only [Act.put, List.getElem_toArray, List.getElem_cons_succ, List.getElem_cons_zero, List.setIfInBounds_toArray, List.set_cons_zero, List.set_cons_succ])
              go_wp2
              go_meet
              exact ⟨w2.heap.size, r1, L + (rr : Int) - q2, r3, l5, A5, c5, rfl, by omega, by omega, by omega, by omega, by omega, hc5, hby5, by omega, kz, hrz, hTz, hgz⟩
          · go_simp
            have k4 := Blk.new w1 75 #[.int .i64 0, .int .i64 0, .int .i64 0, .int .i64 0, .bool false, .bool false, .slice none 0 0, .int .i64 0]
            have hTa := (hT1).alloc (.cells #[.int .i64 0, .int .i64 0, .int .i64 0, .int .i64 0, .bool false, .bool false, .slice none 0 0, .int .i64 0] 75)
            have hga := only_alloc (hg1) (.cells #[.int .i64 0, .int .i64 0, .int .i64 0, .int .i64 0, .bool false, .bool false, .slice none 0 0, .int .i64 0] 75)
            have hsa : (w1.alloc (.cells #[.int .i64 0, .int .i64 0, .int .i64 0, .int .i64 0, .bool false, .bool false, .slice none 0 0, .int .i64 0] 75)).heap.size = w1.heap.size + 1 := by simp
            generalize hwa : w1.alloc (.cells #[.int .i64 0, .int .i64 0, .int .i64 0, .int .i64 0, .bool false, .bool false, .slice none 0 0, .int .i64 0] 75) = wa at *
            refine hK.out _ _ ?_ (fun hHeld => ?_)
            focus exact (Mod.of_only (M := (· = g)) hga (fun _ => rfl)).cell c0 (show w.heap.size ≠ g by omega)
            clear hK K
            (try simp only [Act.put, List.getElem_toArray, List.getElem_cons_succ, List.getElem_cons_zero, List.setIfInBounds_toArray, List.set_cons_zero, List.set_cons_succ])
            refine wpAnyH_ready (rs := [7]) (by kernel_rfl) (by simp) (AllReadyH.cons rfl (fun K hK => ?_) AllReadyH.nil)
            go_simp
            go_at_call 13
            refine (next_any hTa 20 (by omega) (by omega)).mono ?_
            rintro e w2 ⟨r2, rfl, hr2, hT2, hg2'⟩
            obtain ⟨q2, hq2, q20, q21⟩ := quo19 hr2
            have hwq : IntKind.i64.wrap (L + (rr : Int) - q2) = L + (rr : Int) - q2 := IntWalk.i64_in _ (by omega)
            have hg2 := only_trans hga hg2'
            have hz2 := hg2'.size
            have hy2 : wv.heap.size ≤ w2.heap.size := hg2.size
            replace k4 := k4.grown hg2' (by simp; omega)
            refine hK.out _ _ ?_ (fun hHeld => ?_)
            focus exact (Mod.of_only (M := (· = g)) hg2 (fun _ => rfl)).cell c0 (show w.heap.size ≠ g by omega)
            clear hK K
            (try simp only [Act.put, List.getElem_toArray, List.getElem_cons_succ, List.getElem_cons_zero, List.setIfInBounds_toArray, List.set_cons_zero, List.set_cons_succ])
            refine wpAnyH_take (i := 8) (v := ?_) rfl (by kernel_rfl) (by kernel_rfl) (by kernel_rfl) (fun _ _ _ h => h) (Or.inl ⟨by kernel_rfl, ?_⟩) (by assumption) ?_
            rotate_left
            focus
              intro w9 hSw
              (try dsimp only at hSw)
              go_simp
              (try with_reducible rfl)
            (try simp only [Act.put, List.getElem_toArray, List.getElem_cons_succ, List.getElem_cons_zero, List.setIfInBounds_toArray, List.set_cons_zero, List.set_cons_succ])
            refine wpAnyH_take (i := 9) (v := ?_) rfl (by kernel_rfl) (by kernel_rfl) (by kernel_rfl) (fun _ _ _ h => h) (Or.inl ⟨by kernel_rfl, ?_⟩) (by assumption) ?_
            rotate_left
            focus
              intro w9 hSw
              (try dsimp only at hSw)
              go_simp
              (try with_reducible rfl)
            (try simp only [Act.put, List.getElem_toArray, List.getElem_cons_succ, List.getElem_cons_zero, List.setIfInBounds_toArray, List.set_cons_zero, List.set_cons_succ])
            refine wpAnyH_ready (rs := [11]) (by kernel_rfl) (by simp) (AllReadyH.cons rfl (fun K hK => ?_) AllReadyH.nil)
            go_simp
            go_at_call 13
            refine (next_any hT2 9 (by omega) (by omega)).mono ?_
            rintro e w3 ⟨r3, rfl, hr3, hT3, hg3'⟩
            have hg3 := only_trans hg2 hg3'
            have hz3 := hg3'.size
            have hy3 : wv.heap.size ≤ w3.heap.size := hg3.size
            replace k4 := k4.grown hg3' (by simp; omega)
            refine hK.out _ _ ?_ (fun hHeld => ?_)
            focus exact (Mod.of_only (M := (· = g)) hg3 (fun _ => rfl)).cell c0 (show w.heap.size ≠ g by omega)
            clear hK K
            (try simp only [Act.put, List.getElem_toArray, List.getElem_cons_succ, List.getElem_cons_zero, List.setIfInBounds_toArray, List.set_cons_zero, List.set_cons_succ])
            refine wpAnyH_ready (rs := [13]) (by kernel_rfl) (by simp) (AllReadyH.cons rfl (fun K hK => ?_) AllReadyH.nil)
            go_simp
            go_at_call 34
            refine (tapebytes_any hT3 4 (by omega) (by omega)).mono ?_
            rintro e w4 ⟨v5, l5, rfl, hl5, hby5, ho5, hT4, hg4'⟩
            obtain ⟨A5, c5, rfl, hc5, hr5, hA5⟩ := ho5.form
            obtain ⟨_, _, hrs5⟩ := ho5.rds
            have hg4 := only_trans hg3 hg4'
            have hz4 := hg4'.size
            have hy4 : wv.heap.size ≤ w4.heap.size := hg4.size
            replace k4 := k4.grown hg4' (by simp; omega)
            refine hK.out _ _ ?_ (fun hHeld => ?_)
            focus exact (Mod.of_only (M := (· = g)) hg4 (fun _ => rfl)).cell c0 (show w.heap.size ≠ g by omega)
            clear hK K
            (try simp only [Act.put, List.getElem_toArray, List.getElem_cons_succ, List.getElem_cons_zero, List.setIfInBounds_toArray, List.set_cons_zero, List.set_cons_succ])
            refine wpAnyH_take (i := 14) (v := ?_) rfl (by kernel_rfl) (by kernel_rfl) (by kernel_rfl) (fun _ _ _ h => h) (Or.inl ⟨by kernel_rfl, ?_⟩) (by assumption) ?_
            rotate_left
            focus
              intro w9 hSw
              (try dsimp only at hSw)
              go_simp
              (try with_reducible rfl)
            (try simp only [Act.put, List.getElem_toArray, List.getElem_cons_succ, List.getElem_cons_zero, List.setIfInBounds_toArray, List.set_cons_zero, List.set_cons_succ])
            refine wpAnyH_take (i := 16) (v := ?_) rfl (by kernel_rfl) (by kernel_rfl) (by kernel_rfl) (fun _ _ _ h => h) (Or.inl ⟨by kernel_rfl, ?_⟩) (by assumption) ?_
            rotate_left
            focus
              intro w9 hSw
              (try dsimp only at hSw)
              go_simp
              (try with_reducible rfl)
            (try simp only [Act.put, List.getElem_toArray, List.getElem_cons_succ, List.getElem_cons_zero, List.setIfInBounds_toArray, List.set_cons_zero, List.set_cons_succ])
            obtain ⟨⟨e0, e1, e2, e3, e4, e5, e6, e7⟩, f0, f1, f2, f3, f4, f5, f6, f7⟩ := k4.eight
            refine wpAnyH_ready (rs := [18]) (by kernel_rfl) (by simp) (AllReadyH.cons rfl (fun K hK => ?_) AllReadyH.nil)
            go_simp
            have kz := k4.put8 (.int .i64 (r1 : Int)) (.int .i64 (r : Int)) (.int .i64 (L + (rr : Int) - q2)) (.int .i64 (r3 : Int)) (.bool false) (.bool false) (.slice A5 l5.length c5) (.int .i64 (r : Int))
            have hMz : Mod (· = w1.heap.size) w4 ((((((((w4.setCell ⟨w1.heap.size, 0, none⟩ (.int .i64 (r1 : Int))).setCell ⟨w1.heap.size, 1, none⟩ (.int .i64 (r : Int))).setCell ⟨w1.heap.size, 2, none⟩ (.int .i64 (L + (rr : Int) - q2))).setCell ⟨w1.heap.size, 3, none⟩ (.int .i64 (r3 : Int))).setCell ⟨w1.heap.size, 4, none⟩ (.bool false)).setCell ⟨w1.heap.size, 5, none⟩ (.bool false)).setCell ⟨w1.heap.size, 6, none⟩ (.slice A5 l5.length c5)).setCell ⟨w1.heap.size, 7, none⟩ (.int .i64 (r : Int))) := mod_put8 w1.heap.size (.int .i64 (r1 : Int)) (.int .i64 (r : Int)) (.int .i64 (L + (rr : Int) - q2)) (.int .i64 (r3 : Int)) (.bool false) (.bool false) (.slice A5 l5.length c5) (.int .i64 (r : Int))
            have hgz := only_put8 hg4 (g9 := w1.heap.size) (by omega) (.int .i64 (r1 : Int)) (.int .i64 (r : Int)) (.int .i64 (L + (rr : Int) - q2)) (.int .i64 (r3 : Int)) (.bool false) (.bool false) (.slice A5 l5.length c5) (.int .i64 (r : Int))
            have hnS : ∀ b, (fun b => w3.heap.size ≤ b ∧ b < w4.heap.size ∧ (Value.slice A5 l5.length c5).ownBlock = some b) b → b < w4.heap.size → wv.heap.size ≤ b ∧ b < w4.heap.size ∧ b ≠ w1.heap.size := fun b hb _ => ⟨by have := hb.1; omega, hb.2.1, by have := hb.1; omega⟩
            have hrz := (hrs5.weak hnS).keep hMz (fun b hb _ e => hb.2.2 e)
            have hTz := hT4.mod hMz (by omega) (fun b e => by omega)
            have hsz : ((((((((w4.setCell ⟨w1.heap.size, 0, none⟩ (.int .i64 (r1 : Int))).setCell ⟨w1.heap.size, 1, none⟩ (.int .i64 (r : Int))).setCell ⟨w1.heap.size, 2, none⟩ (.int .i64 (L + (rr : Int) - q2))).setCell ⟨w1.heap.size, 3, none⟩ (.int .i64 (r3 : Int))).setCell ⟨w1.heap.size, 4, none⟩ (.bool false)).setCell ⟨w1.heap.size, 5, none⟩ (.bool false)).setCell ⟨w1.heap.size, 6, none⟩ (.slice A5 l5.length c5)).setCell ⟨w1.heap.size, 7, none⟩ (.int .i64 (r : Int))).heap.size = w4.heap.size := by simp [World.setCell]
            generalize ((((((((w4.setCell ⟨w1.heap.size, 0, none⟩ (.int .i64 (r1 : Int))).setCell ⟨w1.heap.size, 1, none⟩ (.int .i64 (r : Int))).setCell ⟨w1.heap.size, 2, none⟩ (.int .i64 (L + (rr : Int) - q2))).setCell ⟨w1.heap.size, 3, none⟩ (.int .i64 (r3 : Int))).setCell ⟨w1.heap.size, 4, none⟩ (.bool false)).setCell ⟨w1.heap.size, 5, none⟩ (.bool false)).setCell ⟨w1.heap.size, 6, none⟩ (.slice A5 l5.length c5)).setCell ⟨w1.heap.size, 7, none⟩ (.int .i64 (r : Int))) = wz at *
            rw [← hsz] at hrz
            refine hK.out _ _ ?_ (fun hHeld => ?_)
            focus exact (Mod.of_only (M := (· = g)) hgz (fun _ => rfl)).cell c0 (show w.heap.size ≠ g by omega)
            clear hK K
            (try simp only [Act.put, List.getElem_toArray, List.getElem_cons_succ, List.getElem_cons_zero, List.setIfInBounds_toArray, List.set_cons_zero, List.set_cons_succ])
            refine wpAnyH_done (by kernel_rfl) ?_ _
            (try simp only [Act.put, List.getElem_toArray, List.getElem_cons_succ, List.getElem_cons_zero, List.setIfInBounds_toArray, List.set_cons_zero, List.set_cons_succ])
            go_wp2
            go_meet
            exact ⟨w1.heap.size, r1, L + (rr : Int) - q2, r3, l5, A5, c5, rfl, by omega, by omega, by omega, by omega, by omega, hc5, hby5, by omega, kz, hrz, hTz, hgz⟩
        · go_simp
          have k4 : Blk (wv.alloc (.cells #[.int .i64 0, .int .i64 0, .int .i64 0, .int .i64 0, .bool false, .bool false, .slice none 0 0, .int .i64 0] 75)).drew wv.heap.size 75 #[.int .i64 0, .int .i64 0, .int .i64 0, .int .i64 0, .bool false, .bool false, .slice none 0 0, .int .i64 0] := Blk.new wv 75 #[.int .i64 0, .int .i64 0, .int .i64 0, .int .i64 0, .bool false, .bool false, .slice none 0 0, .int .i64 0]
          have hTa : TapeB (wv.alloc (.cells #[.int .i64 0, .int .i64 0, .int .i64 0, .int .i64 0, .bool false, .bool false, .slice none 0 0, .int .i64 0] 75)).drew B g := hTv.alloc (.cells #[.int .i64 0, .int .i64 0, .int .i64 0, .int .i64 0, .bool false, .bool false, .slice none 0 0, .int .i64 0] 75)
          have hga := only_drew (only_alloc (only_refl wv (some g)) (.cells #[.int .i64 0, .int .i64 0, .int .i64 0, .int .i64 0, .bool false, .bool false, .slice none 0 0, .int .i64 0] 75))
          have hsa : (wv.alloc (.cells #[.int .i64 0, .int .i64 0, .int .i64 0, .int .i64 0, .bool false, .bool false, .slice none 0 0, .int .i64 0] 75)).drew.heap.size = wv.heap.size + 1 := by simp
          generalize hwa : (wv.alloc (.cells #[.int .i64 0, .int .i64 0, .int .i64 0, .int .i64 0, .bool false, .bool false, .slice none 0 0, .int .i64 0] 75)).drew = wa at *
          refine hK.out _ _ ?_ (fun hHeld => ?_)
          focus exact (Mod.of_only (M := (· = g)) hga (fun _ => rfl)).cell c0 (show w.heap.size ≠ g by omega)
          clear hK K
          (try simp only [Act.put, List.getElem_toArray, List.getElem_cons_succ, List.getElem_cons_zero, List.setIfInBounds_toArray, List.set_cons_zero, List.set_cons_succ])
          refine wpAnyH_ready (rs := [1]) (by kernel_rfl) (by simp) (AllReadyH.cons rfl (fun K hK => ?_) AllReadyH.nil)
          go_simp
          go_at_call 13
          refine (next_any hTa 7 (by omega) (by omega)).mono ?_
          rintro e w1 ⟨r1, rfl, hr1, hT1, hg1'⟩
          have hg1 := only_trans hga hg1'
          have hz1 := hg1'.size
          have hy1 : wv.heap.size ≤ w1.heap.size := hg1.size
          replace k4 := k4.grown hg1' (by simp; omega)
          refine hK.out _ _ ?_ (fun hHeld => ?_)
          focus exact (Mod.of_only (M := (· = g)) hg1 (fun _ => rfl)).cell c0 (show w.heap.size ≠ g by omega)
          clear hK K
          (try simp only [Act.put, List.getElem_toArray, List.getElem_cons_succ, List.getElem_cons_zero, List.setIfInBounds_toArray, List.set_cons_zero, List.set_cons_succ])
          refine wpAnyH_ready (rs := [7]) (by kernel_rfl) (by simp) (AllReadyH.cons rfl (fun K hK => ?_) AllReadyH.nil)
          go_simp
          go_at_call 13
          refine (next_any hT1 20 (by omega) (by omega)).mono ?_
          rintro e w2 ⟨r2, rfl, hr2, hT2, hg2'⟩
          obtain ⟨q2, hq2, q20, q21⟩ := quo19 hr2
          have hwq : IntKind.i64.wrap (L + (rr : Int) - q2) = L + (rr : Int) - q2 := IntWalk.i64_in _ (by omega)
          have hg2 := only_trans hg1 hg2'
          have hz2 := hg2'.size
          have hy2 : wv.heap.size ≤ w2.heap.size := hg2.size
          replace k4 := k4.grown hg2' (by simp; omega)
          refine hK.out _ _ ?_ (fun hHeld => ?_)
          focus exact (Mod.of_only (M := (· = g)) hg2 (fun _ => rfl)).cell c0 (show w.heap.size ≠ g by omega)
          clear hK K
          (try simp only [Act.put, List.getElem_toArray, List.getElem_cons_succ, List.getElem_cons_zero, List.setIfInBounds_toArray, List.set_cons_zero, List.set_cons_succ])
          refine wpAnyH_take (i := 8) (v := ?_) rfl (by kernel_rfl) (by kernel_rfl) (by kernel_rfl) (fun _ _ _ h => h) (Or.inl ⟨by kernel_rfl, ?_⟩) (by assumption) ?_
          rotate_left
          focus
            intro w9 hSw
            (try dsimp only at hSw)
            go_simp
            (try with_reducible rfl)
          (try simp only [Act.put, List.getElem_toArray, List.getElem_cons_succ, List.getElem_cons_zero, List.setIfInBounds_toArray, List.set_cons_zero, List.set_cons_succ])
          refine wpAnyH_take (i := 9) (v := ?_) rfl (by kernel_rfl) (by kernel_rfl) (by kernel_rfl) (fun _ _ _ h => h) (Or.inl ⟨by kernel_rfl, ?_⟩) (by assumption) ?_
          rotate_left
          focus
            intro w9 hSw
            (try dsimp only at hSw)
            go_simp
            (try with_reducible rfl)
          (try simp only [Act.put, List.getElem_toArray, List.getElem_cons_succ, List.getElem_cons_zero, List.setIfInBounds_toArray, List.set_cons_zero, List.set_cons_succ])
          refine wpAnyH_ready (rs := [11]) (by kernel_rfl) (by simp) (AllReadyH.cons rfl (fun K hK => ?_) AllReadyH.nil)
          go_simp
          go_at_call 13
          refine (next_any hT2 9 (by omega) (by omega)).mono ?_
          rintro e w3 ⟨r3, rfl, hr3, hT3, hg3'⟩
          have hg3 := only_trans hg2 hg3'
          have hz3 := hg3'.size
          have hy3 : wv.heap.size ≤ w3.heap.size := hg3.size
          replace k4 := k4.grown hg3' (by simp; omega)
          refine hK.out _ _ ?_ (fun hHeld => ?_)
          focus exact (Mod.of_only (M := (· = g)) hg3 (fun _ => rfl)).cell c0 (show w.heap.size ≠ g by omega)
          clear hK K
          (try simp only [Act.put, List.getElem_toArray, List.getElem_cons_succ, List.getElem_cons_zero, List.setIfInBounds_toArray, List.set_cons_zero, List.set_cons_succ])
          refine wpAnyH_ready (rs := [13]) (by kernel_rfl) (by simp) (AllReadyH.cons rfl (fun K hK => ?_) AllReadyH.nil)
          go_simp
          go_at_call 34
          refine (tapebytes_any hT3 4 (by omega) (by omega)).mono ?_
          rintro e w4 ⟨v5, l5, rfl, hl5, hby5, ho5, hT4, hg4'⟩
          obtain ⟨A5, c5, rfl, hc5, hr5, hA5⟩ := ho5.form
          obtain ⟨_, _, hrs5⟩ := ho5.rds
          have hg4 := only_trans hg3 hg4'
          have hz4 := hg4'.size
          have hy4 : wv.heap.size ≤ w4.heap.size := hg4.size
          replace k4 := k4.grown hg4' (by simp; omega)
          refine hK.out _ _ ?_ (fun hHeld => ?_)
          focus exact (Mod.of_only (M := (· = g)) hg4 (fun _ => rfl)).cell c0 (show w.heap.size ≠ g by omega)
          clear hK K
          (try simp only [Act.put, List.getElem_toArray, List.getElem_cons_succ, List.getElem_cons_zero, List.setIfInBounds_toArray, List.set_cons_zero, List.set_cons_succ])
          refine wpAnyH_take (i := 14) (v := ?_) rfl (by kernel_rfl) (by kernel_rfl) (by kernel_rfl) (fun _ _ _ h => h) (Or.inl ⟨by kernel_rfl, ?_⟩) (by assumption) ?_
          rotate_left
          focus
            intro w9 hSw
            (try dsimp only at hSw)
            go_simp
            (try with_reducible rfl)
          (try simp only [Act.put, List.getElem_toArray, List.getElem_cons_succ, List.getElem_cons_zero, List.setIfInBounds_toArray, List.set_cons_zero, List.set_cons_succ])
          refine wpAnyH_take (i := 16) (v := ?_) rfl (by kernel_rfl) (by kernel_rfl) (by kernel_rfl) (fun _ _ _ h => h) (Or.inl ⟨by kernel_rfl, ?_⟩) (by assumption) ?_
          rotate_left
          focus
            intro w9 hSw
            (try dsimp only at hSw)
            go_simp
            (try with_reducible rfl)
          (try simp only [Act.put, List.getElem_toArray, List.getElem_cons_succ, List.getElem_cons_zero, List.setIfInBounds_toArray, List.set_cons_zero, List.set_cons_succ])
          obtain ⟨⟨e0, e1, e2, e3, e4, e5, e6, e7⟩, f0, f1, f2, f3, f4, f5, f6, f7⟩ := k4.eight
          refine wpAnyH_ready (rs := [18]) (by kernel_rfl) (by simp) (AllReadyH.cons rfl (fun K hK => ?_) AllReadyH.nil)
          go_simp
          have kz := k4.put8 (.int .i64 (r1 : Int)) (.int .i64 (r : Int)) (.int .i64 (L + (rr : Int) - q2)) (.int .i64 (r3 : Int)) (.bool false) (.bool false) (.slice A5 l5.length c5) (.int .i64 (r : Int))
          have hMz : Mod (· = wv.heap.size) w4 ((((((((w4.setCell ⟨wv.heap.size, 0, none⟩ (.int .i64 (r1 : Int))).setCell ⟨wv.heap.size, 1, none⟩ (.int .i64 (r : Int))).setCell ⟨wv.heap.size, 2, none⟩ (.int .i64 (L + (rr : Int) - q2))).setCell ⟨wv.heap.size, 3, none⟩ (.int .i64 (r3 : Int))).setCell ⟨wv.heap.size, 4, none⟩ (.bool false)).setCell ⟨wv.heap.size, 5, none⟩ (.bool false)).setCell ⟨wv.heap.size, 6, none⟩ (.slice A5 l5.length c5)).setCell ⟨wv.heap.size, 7, none⟩ (.int .i64 (r : Int))) := mod_put8 wv.heap.size (.int .i64 (r1 : Int)) (.int .i64 (r : Int)) (.int .i64 (L + (rr : Int) - q2)) (.int .i64 (r3 : Int)) (.bool false) (.bool false) (.slice A5 l5.length c5) (.int .i64 (r : Int))
          have hgz := only_put8 hg4 (g9 := wv.heap.size) (by omega) (.int .i64 (r1 : Int)) (.int .i64 (r : Int)) (.int .i64 (L + (rr : Int) - q2)) (.int .i64 (r3 : Int)) (.bool false) (.bool false) (.slice A5 l5.length c5) (.int .i64 (r : Int))
          have hnS : ∀ b, (fun b => w3.heap.size ≤ b ∧ b < w4.heap.size ∧ (Value.slice A5 l5.length c5).ownBlock = some b) b → b < w4.heap.size → wv.heap.size ≤ b ∧ b < w4.heap.size ∧ b ≠ wv.heap.size := fun b hb _ => ⟨by have := hb.1; omega, hb.2.1, by have := hb.1; omega⟩
          have hrz := (hrs5.weak hnS).keep hMz (fun b hb _ e => hb.2.2 e)
          have hTz := hT4.mod hMz (by omega) (fun b e => by omega)
          have hsz : ((((((((w4.setCell ⟨wv.heap.size, 0, none⟩ (.int .i64 (r1 : Int))).setCell ⟨wv.heap.size, 1, none⟩ (.int .i64 (r : Int))).setCell ⟨wv.heap.size, 2, none⟩ (.int .i64 (L + (rr : Int) - q2))).setCell ⟨wv.heap.size, 3, none⟩ (.int .i64 (r3 : Int))).setCell ⟨wv.heap.size, 4, none⟩ (.bool false)).setCell ⟨wv.heap.size, 5, none⟩ (.bool false)).setCell ⟨wv.heap.size, 6, none⟩ (.slice A5 l5.length c5)).setCell ⟨wv.heap.size, 7, none⟩ (.int .i64 (r : Int))).heap.size = w4.heap.size := by simp [World.setCell]
          generalize ((((((((w4.setCell ⟨wv.heap.size, 0, none⟩ (.int .i64 (r1 : Int))).setCell ⟨wv.heap.size, 1, none⟩ (.int .i64 (r : Int))).setCell ⟨wv.heap.size, 2, none⟩ (.int .i64 (L + (rr : Int) - q2))).setCell ⟨wv.heap.size, 3, none⟩ (.int .i64 (r3 : Int))).setCell ⟨wv.heap.size, 4, none⟩ (.bool false)).setCell ⟨wv.heap.size, 5, none⟩ (.bool false)).setCell ⟨wv.heap.size, 6, none⟩ (.slice A5 l5.length c5)).setCell ⟨wv.heap.size, 7, none⟩ (.int .i64 (r : Int))) = wz at *
          rw [← hsz] at hrz
          refine hK.out _ _ ?_ (fun hHeld => ?_)
          focus exact (Mod.of_only (M := (· = g)) hgz (fun _ => rfl)).cell c0 (show w.heap.size ≠ g by omega)
          clear hK K
          (try simp only [Act.put, List.getElem_toArray, List.getElem_cons_succ, List.getElem_cons_zero, List.setIfInBounds_toArray, List.set_cons_zero, List.set_cons_succ])
          refine wpAnyH_done (by kernel_rfl) ?_ _
          (try simp only [Act.put, List.getElem_toArray, List.getElem_cons_succ, List.getElem_cons_zero, List.setIfInBounds_toArray, List.set_cons_zero, List.set_cons_succ])
          go_wp2
          go_meet
          exact ⟨wv.heap.size, r1, L + (rr : Int) - q2, r3, l5, A5, c5, rfl, by omega, by omega, by omega, by omega, by omega, hc5, hby5, by omega, kz, hrz, hTz, hgz⟩
      case rest =>
        obtain ⟨g9, r1, at_, r3, l5, A5, c5, rfl, h7, ha0, ha1, h9, hl5, hc5, hby, hg9, hkz, hrz, hTz, hgz⟩ := hcut
        have hszz := hgz.size
        have hg9z := hkz.lt
        go_step
        go_step
        go_cut [] (fun wd => ∃ K : Int, 0 ≤ K ∧ K ≤ 6 ∧ Blk wd g9 75 #[.int .i64 K, .int .i64 (r : Int), .int .i64 at_, .int .i64 (r3 : Int), .bool false, .bool false, .slice A5 l5.length c5, .int .i64 (r : Int)] ∧ RdS wd (fun b => wv.heap.size ≤ b ∧ b < wd.heap.size ∧ b ≠ g9) .u8 A5 l5 ∧ TapeB wd B g ∧ wv.grownBy wd (some g))
        case first =>
          obtain ⟨⟨x0, x1, x2, x3, x4, x5, x6, x7⟩, _⟩ := hkz.eight
          by_cases h5 : r1 = 5
          · subst h5
            clear x1 x2 x3 x4 x5 x6 x7
            go_upto_if 49 with (first
              | (go_at_call 13; (with_reducible refine (next_any hTz 3 (by omega) (by omega)).mono ?_); rintro e wq ⟨r6, rfl, hr6, hTq, hgq⟩; obtain ⟨k6, hk6⟩ : ∃ b, decide (0 < r6) = b := ⟨_, rfl⟩; have hk6' : decide ((0 : Int) < (r6 : Int)) = k6 := (by rw [← hk6]; simp)))
            have hkq := hkz.grown hgq (by simp; omega)
            have hzq := hgq.size
            have hrq := (hrz.weak (S' := fun b => wv.heap.size ≤ b ∧ b < wq.heap.size ∧ b ≠ g9) (fun b hb _ => ⟨hb.1, by omega, hb.2.2⟩)).keep (Mod.of_only (M := (· = g)) hgq (fun _ => rfl)) (fun b hb _ e => by have := hb.1; omega)
            have hgz2 := only_trans hgz hgq
            cases k6 with
            | true =>
              have y0 := hkq.cell 0
              have f0 := hkq.frozen 0
              go_wp2
              go_meet
              have hkx := hkq.set_ 0 (.int .i64 4)
              have hM : Mod (· = g9) wq (wq.setCell ⟨g9, 0, none⟩ (.int .i64 4)) := mod_put (Mod.refl _ _) (fun _ => rfl)
              exact ⟨4, by omega, by omega, by simpa using hkx, (hrq.keep hM (fun b hb _ e => hb.2.2 e)).weak (fun b hb _ => ⟨hb.1, Nat.lt_of_lt_of_le hb.2.1 hM.size, hb.2.2⟩), hTq.mod hM (by omega) (fun b e => by omega), only_setCell (p := ⟨g9, 0, none⟩) hgz2 (.inr hg9) _⟩
            | false =>
              go_wp2
              go_meet
              exact ⟨5, by omega, by omega, hkq, hrq, hTq, hgz2⟩
          · have h5' : ((r1 : Int) == 5) = false := beq_false_of_ne (by omega)
            clear x1 x2 x3 x4 x5 x6 x7
            go_wp2_with (fail)
            go_meet
            exact ⟨r1, by omega, by omega, hkz, hrz, hTz, hgz⟩
        case rest =>
          obtain ⟨K, hK0, hK6, hkd, hrd, hTd, hgd⟩ := hcut
          have hszd := hgd.size
          have hMd : Mod (· = g) wv wc := Mod.of_only hgd (fun _ => rfl)
          have hownd := hownv.keep AcR.good hMd (fun b hb _ e => by omega) (fun b hb e => by have := hob0 b hb; omega)
          have hkvd := hkv.grown hgd (by simp; omega)
          obtain ⟨⟨x0, x1, x2, x3, x4, x5, x6, x7⟩, _⟩ := hkd.eight
          have hpr : AcR wc (fun b => wv.heap.size ≤ b ∧ b < wc.heap.size ∧ b ≠ g9) [.int .i64 K, .int .i64 (r : Int), .int .i64 at_, .int .i64 (r3 : Int), .bool false, .bool false, .slice A5 l5.length c5, .int .i64 (r : Int)] ⟨K, ⟨r, at_, r3, false, false, l5⟩, r⟩ :=
            ⟨A5, c5, rfl, hc5, hrd, ⟨⟨by simp only; omega, by simp only; omega⟩, ⟨ha0, ha1⟩, ⟨by simp only; omega, by simp only; omega⟩, by simp only; omega, hby⟩, ⟨by simp only; omega, by simp only; omega⟩, ⟨by simp only; omega, by simp only; omega⟩⟩
          have q1 : ∀ b, (fun b => w.heap.size ≤ b ∧ b < wr.heap.size ∧ b ≠ w.heap.size) b → b < wc.heap.size → (fun b => w.heap.size ≤ b ∧ b ≤ wc.heap.size ∧ b ≠ w.heap.size) b := fun b hb _ => ⟨hb.1, by have := hb.2.1; omega, hb.2.2⟩
          have q2 : ∀ b, (fun b => wv.heap.size ≤ b ∧ b < wc.heap.size ∧ b ≠ g9) b → b < wc.heap.size → (fun b => w.heap.size ≤ b ∧ b ≤ wc.heap.size ∧ b ≠ w.heap.size) b := fun b hb _ => ⟨by have := hb.1; omega, by have := hb.2.1; omega, by have := hb.1; omega⟩
          have q3 : ∀ b, (Value.slice A0 l.length c0_).ownBlock = some b → ¬ (fun b => wv.heap.size ≤ b ∧ b < wc.heap.size ∧ b ≠ g9) b := fun b hb hS => by have h1 := (hob0 b hb).2; have h2 := hS.1; omega
          have q4 : w.heap.size ≤ wc.heap.size := by omega
          have q5 : l.length ≤ 3999999999 := by omega
          have q7 : (fun b => w.heap.size ≤ b ∧ b ≤ wc.heap.size ∧ b ≠ w.heap.size) wc.heap.size := ⟨q4, Nat.le_refl _, by omega⟩
          clear hkz hrz hTz hgz hownv hkv hcv hgv hTv
          go_wp2_with (first
            | (at_builtin; go_must (refine wpList_push_G rfl (.tmp 51) (.tmp 53) _ rfl AcR.good wc (.agg #[.int .i64 0, .int .i64 0, .int .i64 0, .int .i64 0, .bool false, .bool false, .slice none 0 0, .int .i64 0]) 72 Try.underlying23 info_ac rfl (by omega) rfl hownd (fun b => wv.heap.size ≤ b ∧ b < wc.heap.size ∧ b ≠ g9) wc.heap.size 1 [.int .i64 K, .int .i64 (r : Int), .int .i64 at_, .int .i64 (r3 : Int), .bool false, .bool false, .slice A5 l5.length c5, .int .i64 (r : Int)] ⟨K, ⟨r, at_, r3, false, false, l5⟩, r⟩ rfl rfl hpr (fun b => w.heap.size ≤ b ∧ b ≤ wc.heap.size ∧ b ≠ w.heap.size) q1 q2 q3 (fun b hb => hb.2.1) q7 q5 q4 ?_); intro v6 w6 ow6 hg6 hv6))
          have hg6' : wc.grownBy w6 (Value.ownBlock _) := only_trans (only_alloc (only_refl _ _) _) hg6
          have hM6 : Mod (fun b => w.heap.size ≤ b ∧ b ≠ w.heap.size) wc w6 := Mod.of_grown hg6' (fun x hx _ => ⟨(hob0 x hx).1, hvb x hx⟩)
          have hbe6 : Below w.heap.size wc w6 := hM6.below (by omega) (fun b hb => hb.1)
          have hT6 := hTd.below hbe6 hgl
          have hgw6 := only_then_below (only_trans HGV.out hgd) hbe6 (Nat.le_refl _)
          have hs6 := hbe6.size
          go_roundw
          case rel =>
            refine ⟨l ++ [⟨K, ⟨r, at_, r3, false, false, l5⟩, r⟩], Lv, by simp; omega, HL4.out, fun x hx => by have := HL2.out x hx; simp; omega, by simp, fun a ha => ?_, hkvd.mod hM6 (fun h => h.2 rfl), ow6.weak AcR.good (fun b hb hl9 => ⟨hb.1, hl9, hb.2.2⟩), fun b hb e => ?_, hT6, hgw6⟩
            · rcases List.mem_append.1 ha with ha | ha
              · exact hld a ha
              · rw [List.mem_singleton] at ha; subst ha; exact hl5
            · rcases hv6 with hv6 | hv6
              · exact hvb b (hv6 ▸ hb) e
              · rw [hv6] at hb; injection hb with hb; omega
          case measure => simp [intOf]; omega
    · have hle : l.length = N := by omega
      have hp : ¬ (l.length : Int) < (N : Int) := by omega
      go_wp2_with (fail)
      go_ret
      exact ⟨_, rfl, l, hle, hld, hown.weak AcR.good (fun b hb _ => ⟨hb.1, hb.2.1⟩), hTr, hgw⟩
end Go.Proofs.Ytnflhogjonlnmaa
