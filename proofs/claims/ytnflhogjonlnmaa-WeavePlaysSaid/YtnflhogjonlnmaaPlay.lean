/- play: acts on both Weavers. -/
import Derived.Test.YtnflhogjonlnmaaTw
import Derived.Test.YtnflhogjonlnmaaAc
import Derived.Test.YtnflhogjonlnmaaPkSame
import Derived.Deep.DeepCutAuto
import Derived.Deep.CutBlock
set_option linter.unusedSimpArgs false
set_option linter.unusedVariables false
namespace Go.Proofs.Ytnflhogjonlnmaa
open Go.RowKit

theorem tw_new {w0 w1 w2 w3 : World} {gv gx : Nat} {s x : Wv} (h01 : w0.heap.size ≤ w1.heap.size) (h12 : Below w1.heap.size w1 w2) (h23 : Below w2.heap.size w2 w3)
    (hv : WvR w2 (fun b => b = w1.heap.size ∨ b = w1.heap.size + 1) (fun _ => False) gv s) (hx : RWvR w3 (fun b => b = w2.heap.size ∨ b = w2.heap.size + 1) (fun _ => False) gx x) : TwM w0 w3 gv gx s x := by
  have h1 := hv.Flt (w1.heap.size + 1) (.inr rfl)
  exact ⟨_, _, _, _, {
    pv := hv.below h23
    rx := hx
    f0 := fun b hb => by rcases hb with hb | hb <;> omega
    f1 := fun b hb => by rcases hb with hb | hb <;> omega
    fd := fun b hb => ⟨fun h2 => by rcases hb with hb | hb <;> rcases h2 with h2 | h2 <;> omega, fun h => h⟩
    df := fun b hb h => h }⟩

set_option maxHeartbeats 16000000 in
set_option maxRecDepth 100000 in
theorem play_any {streams most : Int} {l : List Ac} {A : Option Addr} {c : Nat} {w : World} (hr : RdAc w (· < w.heap.size) A l) (hl : l.length ≤ 9223372036854775807) (s0 : i64B streams) (m0 : i64B most) :
    Calls Try.prog 14 #[.int .i64 streams, .int .i64 most, .slice A l.length c] w fun e w' => e = .returned (.bool true) ∧ Below w.heap.size w w' := by
  by_cases hok : 1 ≤ streams ∧ streams ≤ 4 ∧ 0 ≤ most ∧ most ≤ 1125899906842624
  · obtain ⟨N, rfl⟩ := Int.eq_ofNat_of_zero_le (show 0 ≤ streams by omega)
    have HV := Lib.hid (fun W => weavenew_ok (N := N) rfl (by omega) (by omega) hok.2.2.1 hok.2.2.2 W)
    have HX := Lib.hid (fun W => rweavernew_ok (N := N) rfl (by omega) (by omega) hok.2.2.1 hok.2.2.2 W)
    have HR := Lib.hid hr
    clear hr
    go_enter Try.func14, Try.ntmps14
    go_upto_region 3 with (first
      | (go_at_call 17; (with_reducible refine (HV.out _).mono ?_); rintro e w1 ⟨rfl, hv1, hb1⟩)
      | (go_at_call 35; (with_reducible refine (HX.out _).mono ?_); rintro e w2 ⟨rfl, hx2, hb2⟩))
    have hT0 := tw_new (Nat.le_refl _) hb1 hb2 hv1 hx2
    have bb2 := below_then hb1 hb2
    have hS0 : Sim ⟨most, List.replicate N ⟨[], 0, false⟩, 0, 0⟩ ⟨most, List.replicate N ⟨[], 0, false⟩, -1, 0⟩ := ⟨rfl, rfl, rfl, rfl⟩
    have hq0 : (⟨most, List.replicate N ⟨[], 0, false⟩, 0, 0⟩ : Wv).late = 0 := rfl
    generalize (⟨most, List.replicate N ⟨[], 0, false⟩, 0, 0⟩ : Wv) = sv at *
    generalize (⟨most, List.replicate N ⟨[], 0, false⟩, -1, 0⟩ : Wv) = sx at *
    clear hv1 hx2 hb1 hb2 HV HX
    go_wp2_with (fail)
    go_loopw [11] (fun iv wr => ∃ (k : Nat) (s x : Wv), k ≤ l.length ∧ k ≤ 400 ∧ iv = .int .i64 k ∧ TwM w wr (w.heap.size + 1) (w1.heap.size + 1) s x ∧ Sim s x ∧ 0 ≤ s.late ∧ s.late ≤ k ∧ Below w.heap.size w wr) (fun iv _ => 400 - (intOf iv).toNat)
    case atStart => exact ⟨0, _, _, Nat.zero_le _, by omega, rfl, hT0, hS0, by omega, by omega, bb2⟩
    case round =>
      clear hT0 bb2 hS0 hq0
      obtain ⟨k, s, x, hk, hk4, rfl, hT, hS, hl0, hl1, hbb⟩ := hrel
      by_cases hc1 : k < l.length
      · by_cases hc2 : k < 400
        · obtain ⟨ad, p, Aj, cj, rfl, _, hp, e0, e1, e2, e3, e4, e5, e6, e7, hcj, hrj, hwj, hk0, hn0⟩ := RdAc.at_ HR.out hc1
          have hwl := hwj.len
          generalize l[k] = a at *
          have zK : ∀ {a9 : Addr} {u9 : Value}, w.cell? a9 = some u9 → wr.cell? a9 = some u9 := fun {a9} {u9} h9 => (hbb.cell (World.block_lt_of_cell? w a9 h9)).trans h9
          have y0 := zK e0
          have y7 := zK e7
          go_upto_block 2 with (fail)
          have hp17 : Below w.heap.size w wr.drew := hbb.drew
          go_cut [] (fun wc => ∃ s' x' : Wv, TwM w wc (w.heap.size + 1) (w1.heap.size + 1) s' x' ∧ Sim s' x' ∧ 0 ≤ s'.late ∧ s'.late ≤ k + 1 ∧ Below w.heap.size w wc)
          case first =>
            have HKd := Lib.hid (show ∀ j : Int, a.kind ≠ j → (a.kind == j) = false by intro j hj; exact beq_false_of_ne hj)
            go_step
            go_step
            go_cut [77] (fun v wc => v = .bool (decide (0 ≤ a.kind ∧ a.kind ≤ 3)) ∧ wr = wc)
            case first =>
              obtain ⟨K, pk, n⟩ := a
              simp only at *
              by_cases k0 : K = 0
              · subst k0
                go_wp2
                go_meet
                exact ⟨rfl, rfl⟩
              by_cases k1 : K = 1
              · subst k1
                go_wp2
                go_meet
                exact ⟨rfl, rfl⟩
              by_cases k2 : K = 2
              · subst k2
                go_wp2
                go_meet
                exact ⟨rfl, rfl⟩
              by_cases k3 : K = 3
              · subst k3
                go_wp2
                go_meet
                exact ⟨rfl, rfl⟩
              have q0 := HKd.out 0 k0
              have q1 := HKd.out 1 k1
              have q2 := HKd.out 2 k2
              have q3 := HKd.out 3 k3
              have HD := Lib.hid (show decide (0 ≤ K ∧ K ≤ 3) = false from decide_eq_false (by omega))
              clear k0 k1 k2 k3
              go_wp2
              go_meet
              rw [HD.out]
              exact ⟨rfl, rfl⟩
            case rest =>
              obtain ⟨rfl, rfl⟩ := hcut
              by_cases hput : 0 ≤ a.kind ∧ a.kind ≤ 3
              · rw [decide_eq_true hput]
                have HE := Lib.hid (hS.putE a.p)
                have HP := Lib.hid (fun W (h : TwM w W (w.heap.size + 1) (w1.heap.size + 1) s x) (hW : Below w.heap.size w W) => tw_put h a.p Aj cj hwj (RdI.more (RdI.below (RdS.top hrj) hW (Nat.le_refl _)) hW.size))
                have HQ := Lib.hid (fun W (h : TwM w W (w.heap.size + 1) (w1.heap.size + 1) (s.put a.p) x) (hW : Below w.heap.size w W) => tw_rput h a.p Aj cj hwj (RdI.more (RdI.below (RdS.top hrj) hW (Nat.le_refl _)) hW.size))
                have HS2 := Lib.hid (hS.put a.p)
                have HL2 := Lib.hid (Wv.put_late s a.p)
                clear zK y0 y7 hput
                go_wp2_with (fail)
                refine wp_region_held_drew (S := (fun w' => Below w.heap.size w w')) (by kernel_rfl) ?_ (fun hHeld => ?_)
                focus exact hp17
                refine wpAnyH_take (i := 0) (v := ?_) rfl (by kernel_rfl) (by kernel_rfl) (by kernel_rfl) (fun _ _ _ h => h) (Or.inl ⟨by kernel_rfl, ?_⟩) (by assumption) ?_
                rotate_left
                focus
                  intro w9 hSw
                  (try dsimp only at hSw)
                  have zK : ∀ {a9 : Addr} {u9 : Value}, w.cell? a9 = some u9 → w9.cell? a9 = some u9 := fun {a9} {u9} h9 => (hSw.cell (World.block_lt_of_cell? w a9 h9)).trans h9
                  have z0 := zK e1
                  have z1 := zK e2
                  have z2 := zK e3
                  have z3 := zK e4
                  have z4 := zK e5
                  have z5 := zK e6
                  clear zK hSw
                  go_simp
                  (try with_reducible rfl)
                (try simp only [Act.put, List.getElem_toArray, List.getElem_cons_succ, List.getElem_cons_zero, List.setIfInBounds_toArray, List.set_cons_zero, List.set_cons_succ])
                refine wpAnyH_take (i := 1) (v := ?_) rfl (by kernel_rfl) (by kernel_rfl) (by kernel_rfl) (fun _ _ _ h => h) (Or.inl ⟨by kernel_rfl, ?_⟩) (by assumption) ?_
                rotate_left
                focus
                  intro w9 hSw
                  (try dsimp only at hSw)
                  have zK : ∀ {a9 : Addr} {u9 : Value}, w.cell? a9 = some u9 → w9.cell? a9 = some u9 := fun {a9} {u9} h9 => (hSw.cell (World.block_lt_of_cell? w a9 h9)).trans h9
                  have z0 := zK e1
                  have z1 := zK e2
                  have z2 := zK e3
                  have z3 := zK e4
                  have z4 := zK e5
                  have z5 := zK e6
                  clear zK hSw
                  go_simp
                  (try with_reducible rfl)
                (try simp only [Act.put, List.getElem_toArray, List.getElem_cons_succ, List.getElem_cons_zero, List.setIfInBounds_toArray, List.set_cons_zero, List.set_cons_succ])
                refine wpAnyH_take (i := 2) (v := ?_) rfl (by kernel_rfl) (by kernel_rfl) (by kernel_rfl) (fun _ _ _ h => h) (Or.inl ⟨by kernel_rfl, ?_⟩) (by assumption) ?_
                rotate_left
                focus
                  intro w9 hSw
                  (try dsimp only at hSw)
                  have zK : ∀ {a9 : Addr} {u9 : Value}, w.cell? a9 = some u9 → w9.cell? a9 = some u9 := fun {a9} {u9} h9 => (hSw.cell (World.block_lt_of_cell? w a9 h9)).trans h9
                  have z0 := zK e1
                  have z1 := zK e2
                  have z2 := zK e3
                  have z3 := zK e4
                  have z4 := zK e5
                  have z5 := zK e6
                  clear zK hSw
                  go_simp
                  (try with_reducible rfl)
                (try simp only [Act.put, List.getElem_toArray, List.getElem_cons_succ, List.getElem_cons_zero, List.setIfInBounds_toArray, List.set_cons_zero, List.set_cons_succ])
                refine wpAnyH_take (i := 3) (v := ?_) rfl (by kernel_rfl) (by kernel_rfl) (by kernel_rfl) (fun _ _ _ h => h) (Or.inl ⟨by kernel_rfl, ?_⟩) (by assumption) ?_
                rotate_left
                focus
                  intro w9 hSw
                  (try dsimp only at hSw)
                  have zK : ∀ {a9 : Addr} {u9 : Value}, w.cell? a9 = some u9 → w9.cell? a9 = some u9 := fun {a9} {u9} h9 => (hSw.cell (World.block_lt_of_cell? w a9 h9)).trans h9
                  have z0 := zK e1
                  have z1 := zK e2
                  have z2 := zK e3
                  have z3 := zK e4
                  have z4 := zK e5
                  have z5 := zK e6
                  clear zK hSw
                  go_simp
                  (try with_reducible rfl)
                (try simp only [Act.put, List.getElem_toArray, List.getElem_cons_succ, List.getElem_cons_zero, List.setIfInBounds_toArray, List.set_cons_zero, List.set_cons_succ])
                refine wpAnyH_take (i := 4) (v := ?_) rfl (by kernel_rfl) (by kernel_rfl) (by kernel_rfl) (fun _ _ _ h => h) (Or.inl ⟨by kernel_rfl, ?_⟩) (by assumption) ?_
                rotate_left
                focus
                  intro w9 hSw
                  (try dsimp only at hSw)
                  have zK : ∀ {a9 : Addr} {u9 : Value}, w.cell? a9 = some u9 → w9.cell? a9 = some u9 := fun {a9} {u9} h9 => (hSw.cell (World.block_lt_of_cell? w a9 h9)).trans h9
                  have z0 := zK e1
                  have z1 := zK e2
                  have z2 := zK e3
                  have z3 := zK e4
                  have z4 := zK e5
                  have z5 := zK e6
                  clear zK hSw
                  go_simp
                  (try with_reducible rfl)
                (try simp only [Act.put, List.getElem_toArray, List.getElem_cons_succ, List.getElem_cons_zero, List.setIfInBounds_toArray, List.set_cons_zero, List.set_cons_succ])
                refine wpAnyH_take (i := 5) (v := ?_) rfl (by kernel_rfl) (by kernel_rfl) (by kernel_rfl) (fun _ _ _ h => h) (Or.inl ⟨by kernel_rfl, ?_⟩) (by assumption) ?_
                rotate_left
                focus
                  intro w9 hSw
                  (try dsimp only at hSw)
                  have zK : ∀ {a9 : Addr} {u9 : Value}, w.cell? a9 = some u9 → w9.cell? a9 = some u9 := fun {a9} {u9} h9 => (hSw.cell (World.block_lt_of_cell? w a9 h9)).trans h9
                  have z0 := zK e1
                  have z1 := zK e2
                  have z2 := zK e3
                  have z3 := zK e4
                  have z4 := zK e5
                  have z5 := zK e6
                  clear zK hSw
                  go_simp
                  (try with_reducible rfl)
                (try simp only [Act.put, List.getElem_toArray, List.getElem_cons_succ, List.getElem_cons_zero, List.setIfInBounds_toArray, List.set_cons_zero, List.set_cons_succ])
                refine wpAnyH_take (i := 7) (v := ?_) rfl (by kernel_rfl) (by kernel_rfl) (by kernel_rfl) (fun _ _ _ h => h) (Or.inl ⟨by kernel_rfl, ?_⟩) (by assumption) ?_
                rotate_left
                focus
                  intro w9 hSw
                  (try dsimp only at hSw)
                  have zK : ∀ {a9 : Addr} {u9 : Value}, w.cell? a9 = some u9 → w9.cell? a9 = some u9 := fun {a9} {u9} h9 => (hSw.cell (World.block_lt_of_cell? w a9 h9)).trans h9
                  have z0 := zK e1
                  have z1 := zK e2
                  have z2 := zK e3
                  have z3 := zK e4
                  have z4 := zK e5
                  have z5 := zK e6
                  clear zK hSw
                  go_simp
                  (try with_reducible rfl)
                (try simp only [Act.put, List.getElem_toArray, List.getElem_cons_succ, List.getElem_cons_zero, List.setIfInBounds_toArray, List.set_cons_zero, List.set_cons_succ])
                refine wpAnyH_take (i := 8) (v := ?_) rfl (by kernel_rfl) (by kernel_rfl) (by kernel_rfl) (fun _ _ _ h => h) (Or.inl ⟨by kernel_rfl, ?_⟩) (by assumption) ?_
                rotate_left
                focus
                  intro w9 hSw
                  (try dsimp only at hSw)
                  have zK : ∀ {a9 : Addr} {u9 : Value}, w.cell? a9 = some u9 → w9.cell? a9 = some u9 := fun {a9} {u9} h9 => (hSw.cell (World.block_lt_of_cell? w a9 h9)).trans h9
                  have z0 := zK e1
                  have z1 := zK e2
                  have z2 := zK e3
                  have z3 := zK e4
                  have z4 := zK e5
                  have z5 := zK e6
                  clear zK hSw
                  go_simp
                  (try with_reducible rfl)
                (try simp only [Act.put, List.getElem_toArray, List.getElem_cons_succ, List.getElem_cons_zero, List.setIfInBounds_toArray, List.set_cons_zero, List.set_cons_succ])
                refine wpAnyH_take (i := 9) (v := ?_) rfl (by kernel_rfl) (by kernel_rfl) (by kernel_rfl) (fun _ _ _ h => h) (Or.inl ⟨by kernel_rfl, ?_⟩) (by assumption) ?_
                rotate_left
                focus
                  intro w9 hSw
                  (try dsimp only at hSw)
                  have zK : ∀ {a9 : Addr} {u9 : Value}, w.cell? a9 = some u9 → w9.cell? a9 = some u9 := fun {a9} {u9} h9 => (hSw.cell (World.block_lt_of_cell? w a9 h9)).trans h9
                  have z0 := zK e1
                  have z1 := zK e2
                  have z2 := zK e3
                  have z3 := zK e4
                  have z4 := zK e5
                  have z5 := zK e6
                  clear zK hSw
                  go_simp
                  (try with_reducible rfl)
                (try simp only [Act.put, List.getElem_toArray, List.getElem_cons_succ, List.getElem_cons_zero, List.setIfInBounds_toArray, List.set_cons_zero, List.set_cons_succ])
                refine wpAnyH_take (i := 10) (v := ?_) rfl (by kernel_rfl) (by kernel_rfl) (by kernel_rfl) (fun _ _ _ h => h) (Or.inl ⟨by kernel_rfl, ?_⟩) (by assumption) ?_
                rotate_left
                focus
                  intro w9 hSw
                  (try dsimp only at hSw)
                  have zK : ∀ {a9 : Addr} {u9 : Value}, w.cell? a9 = some u9 → w9.cell? a9 = some u9 := fun {a9} {u9} h9 => (hSw.cell (World.block_lt_of_cell? w a9 h9)).trans h9
                  have z0 := zK e1
                  have z1 := zK e2
                  have z2 := zK e3
                  have z3 := zK e4
                  have z4 := zK e5
                  have z5 := zK e6
                  clear zK hSw
                  go_simp
                  (try with_reducible rfl)
                (try simp only [Act.put, List.getElem_toArray, List.getElem_cons_succ, List.getElem_cons_zero, List.setIfInBounds_toArray, List.set_cons_zero, List.set_cons_succ])
                refine wpAnyH_take (i := 11) (v := ?_) rfl (by kernel_rfl) (by kernel_rfl) (by kernel_rfl) (fun _ _ _ h => h) (Or.inl ⟨by kernel_rfl, ?_⟩) (by assumption) ?_
                rotate_left
                focus
                  intro w9 hSw
                  (try dsimp only at hSw)
                  have zK : ∀ {a9 : Addr} {u9 : Value}, w.cell? a9 = some u9 → w9.cell? a9 = some u9 := fun {a9} {u9} h9 => (hSw.cell (World.block_lt_of_cell? w a9 h9)).trans h9
                  have z0 := zK e1
                  have z1 := zK e2
                  have z2 := zK e3
                  have z3 := zK e4
                  have z4 := zK e5
                  have z5 := zK e6
                  clear zK hSw
                  go_simp
                  (try with_reducible rfl)
                (try simp only [Act.put, List.getElem_toArray, List.getElem_cons_succ, List.getElem_cons_zero, List.setIfInBounds_toArray, List.set_cons_zero, List.set_cons_succ])
                refine wpAnyH_take (i := 12) (v := ?_) rfl (by kernel_rfl) (by kernel_rfl) (by kernel_rfl) (fun _ _ _ h => h) (Or.inl ⟨by kernel_rfl, ?_⟩) (by assumption) ?_
                rotate_left
                focus
                  intro w9 hSw
                  (try dsimp only at hSw)
                  have zK : ∀ {a9 : Addr} {u9 : Value}, w.cell? a9 = some u9 → w9.cell? a9 = some u9 := fun {a9} {u9} h9 => (hSw.cell (World.block_lt_of_cell? w a9 h9)).trans h9
                  have z0 := zK e1
                  have z1 := zK e2
                  have z2 := zK e3
                  have z3 := zK e4
                  have z4 := zK e5
                  have z5 := zK e6
                  clear zK hSw
                  go_simp
                  (try with_reducible rfl)
                (try simp only [Act.put, List.getElem_toArray, List.getElem_cons_succ, List.getElem_cons_zero, List.setIfInBounds_toArray, List.set_cons_zero, List.set_cons_succ])
                refine wpAnyH_ready (rs := [6]) (by kernel_rfl) (by simp) (AllReadyH.cons rfl (fun K hK => ?_) AllReadyH.nil)
                go_simp
                go_at_call 18
                refine (HP.out _ (hT.drewN 1) hp17).mono ?_
                rintro e wa ⟨rfl, hTa, hMa⟩
                have hba := hp17.trans (hMa.below hp17.size (fun b hb => hb))
                refine hK.out _ _ ?_ (fun hHeld => ?_)
                focus exact hba
                clear hK K
                (try simp only [Act.put, List.getElem_toArray, List.getElem_cons_succ, List.getElem_cons_zero, List.setIfInBounds_toArray, List.set_cons_zero, List.set_cons_succ])
                refine wpAnyH_ready (rs := [13]) (by kernel_rfl) (by simp) (AllReadyH.cons rfl (fun K hK => ?_) AllReadyH.nil)
                go_simp
                go_at_call 36
                refine (HQ.out _ hTa hba).mono ?_
                rintro e wb ⟨rfl, hTb, hMb⟩
                have hbb' := hba.trans (hMb.below hba.size (fun b hb => hb))
                refine hK.out _ _ ?_ (fun hHeld => ?_)
                focus exact hbb'
                clear hK K
                (try simp only [Act.put, List.getElem_toArray, List.getElem_cons_succ, List.getElem_cons_zero, List.setIfInBounds_toArray, List.set_cons_zero, List.set_cons_succ])
                rw [← HE.out]
                refine wpAnyH_take (i := 14) (v := ?_) rfl (by kernel_rfl) (by kernel_rfl) (by kernel_rfl) (fun _ _ _ h => h) (Or.inl ⟨by kernel_rfl, ?_⟩) (by assumption) ?_
                rotate_left
                focus
                  intro w9 hSw
                  (try dsimp only at hSw)
                  go_simp
                  (try with_reducible rfl)
                (try simp only [Act.put, List.getElem_toArray, List.getElem_cons_succ, List.getElem_cons_zero, List.setIfInBounds_toArray, List.set_cons_zero, List.set_cons_succ])
                refine wpAnyH_done (by kernel_rfl) ?_ _
                (try simp only [Act.put, List.getElem_toArray, List.getElem_cons_succ, List.getElem_cons_zero, List.setIfInBounds_toArray, List.set_cons_zero, List.set_cons_succ])
                go_wp2
                go_meet
                exact ⟨_, _, hTb, HS2.out, by rw [HL2.out]; exact hl0, by rw [HL2.out]; omega, hbb'⟩
              · rw [decide_eq_false hput]
                by_cases h5 : a.kind = 5
                · have q5 : (a.kind == 5) = true := beq_iff_eq.2 h5
                  have HS2 := Lib.hid (hS.stop a.n)
                  have HL2 := Lib.hid (Wv.stop_late s a.n)
                  clear h5
                  go_wp2_with (first
                    | (go_at_call 26; (with_reducible refine (tw_end hT _).mono ?_); rintro e wa ⟨rfl, hTa, hMa⟩; have hba := hbb.trans (hMa.below hbb.size (fun b hb => hb)); have z7 := (hba.cell (World.block_lt_of_cell? w _ e7)).trans e7)
                    | (go_at_call 37; (with_reducible refine (tw_rend hTa _).mono ?_); rintro e wb ⟨rfl, hTb, hMb⟩))
                  have hbb' := hba.trans (hMb.below hba.size (fun b hb => hb))
                  go_meet
                  exact ⟨_, _, hTb, HS2.out, by rw [HL2.out]; exact hl0, by rw [HL2.out]; omega, hbb'⟩
                · have q5 := HKd.out 5 h5
                  have hTk := hS.take hT.oks.2
                  have hTl := Wv.take_late (s := s)
                  have hxl := hS.late
                  obtain ⟨hq1, hS2⟩ := hTk
                  obtain ⟨⟨p1, p2, p3, p4, p5, p6⟩, hq⟩ : ∃ q, s.take.1.getD pz = q := ⟨_, rfl⟩
                  have hqx : x.take.1.getD pz = ⟨p1, p2, p3, p4, p5, p6⟩ := by rw [← hq1]; exact hq
                  have HT1 := tw_take hT hl0 (by omega) hq
                  have HT2 := fun W A l g (h : TwB w W (w.heap.size + 1) (w1.heap.size + 1) s.take.2 x A l g) => tw_rtakeB h (by omega) (by omega) hqx
                  rw [← hq1] at HT2
                  generalize s.take.1.isSome = ok at *
                  generalize s.take.2 = s2 at *
                  generalize x.take.2 = x2 at *
                  have HS2 := Lib.hid hS2
                  have HTL := Lib.hid (show 0 ≤ s2.late ∧ s2.late ≤ (k : Int) + 1 by omega)
                  simp only [Pk.val] at HT1 HT2
                  replace HT1 := Lib.hid HT1
                  replace HT2 := Lib.hid HT2
                  have hws := hbb.size
                  clear hq1 hq hqx hS2 hxl hTl zK hp17 h5 y7
                  go_upto_region 10 with (first
                    | (go_at_call 20; (with_reducible refine HT1.out.mono ?_); rintro e wa ⟨A1, c1, rfl, hTa, hca, hwa, hMa⟩))
                  have hTb := hTa.box (.cells #[.int .i64 p1, .int .i64 p2, .int .i64 p3, .bool p4, .bool p5, .slice A1 p6.length c1] 40)
                  have hkb := Blk.new wa 40 #[.int .i64 p1, .int .i64 p2, .int .i64 p3, .bool p4, .bool p5, .slice A1 p6.length c1]
                  have hba := hbb.trans (hMa.below hbb.size (fun b hb => hb))
                  have hbbb := below_alloc hba (.cells #[.int .i64 p1, .int .i64 p2, .int .i64 p3, .bool p4, .bool p5, .slice A1 p6.length c1] 40)
                  generalize wa.alloc (.cells #[.int .i64 p1, .int .i64 p2, .int .i64 p3, .bool p4, .bool p5, .slice A1 p6.length c1] 40) = wb at *
                  clear hTa hMa HT1
                  go_upto_region 11 with (first
                    | (go_at_call 38; (with_reducible refine (HT2.out _ _ _ _ hTb).mono ?_); rintro e wd ⟨A2, c2, rfl, hTd, hrd1, hrd2, hcd, hwd, hMd⟩))
                  have hkd := hkb.mod hMd (fun h => h.2 rfl)
                  have hMb := hMd.below hbbb.size (fun b hb => hb.1)
                  have hbd := hbbb.trans hMb
                  have hbx : Below wd.heap.size wd (wd.alloc (.cells #[.int .i64 p1, .int .i64 p2, .int .i64 p3, .bool p4, .bool p5, .slice A2 p6.length c2] 40)) := below_alloc (Below.refl _ _) _
                  have hkx := Blk.new wd 40 #[.int .i64 p1, .int .i64 p2, .int .i64 p3, .bool p4, .bool p5, .slice A2 p6.length c2]
                  have hky := hkd.below hbx hkd.lt
                  have hTx := hTd.below hbx
                  have hrx1 := RdI.more (RdI.below hrd1 hbx (Nat.le_refl _)) hbx.size
                  have hrx2 := RdI.more (RdI.below hrd2 hbx (Nat.le_refl _)) hbx.size
                  have hbbx := below_then hbd hbx
                  generalize wd.alloc (.cells #[.int .i64 p1, .int .i64 p2, .int .i64 p3, .bool p4, .bool p5, .slice A2 p6.length c2] 40) = we at *
                  have hs : Calls Try.prog 25 _ _ _ := samepk_any ⟨p1, p2, p3, p4, p5, p6⟩ ⟨p1, p2, p3, p4, p5, p6⟩ A1 A2 c1 c2 we hrx1 hrx2 hwd.bytes hwd.bytes
                  simp only [Pk.val, decide_true] at hs
                  have HSm := Lib.hid hs
                  have x0 := hky.cell 0
                  have x1 := hky.cell 1
                  have x2' := hky.cell 2
                  have x3 := hky.cell 3
                  have x4 := hky.cell 4
                  have x5 := hky.cell 5
                  have z0 := hkx.cell 0
                  have z1 := hkx.cell 1
                  have z2 := hkx.cell 2
                  have z3 := hkx.cell 3
                  have z4 := hkx.cell 4
                  have z5 := hkx.cell 5
                  clear hs hTb hkb hba hbbb HT2 hTd hrd1 hrd2 hMd hkd hMb hbd hbx
                  go_wp2_with (first
                    | (go_at_call 25; (with_reducible refine HSm.out.mono ?_); rintro e wf ⟨rfl, hbf⟩))
                  go_meet
                  exact ⟨_, _, hTx.below hbf, HS2.out, HTL.out.1, HTL.out.2, below_then hbbx hbf⟩
          case rest =>
            obtain ⟨s', x', hT', hS', hl0', hl1', hbb'⟩ := hcut
            have HW1 := Lib.hid (fun n => tw_waits hT' n)
            have HW2 := Lib.hid (show ∀ n, Calls Try.prog 39 #[.pointer (some ⟨w1.heap.size + 1, 0, none⟩), .int .i64 n] wc fun e w' => e = .returned (.int .i64 (s'.waits n)) ∧ wc = w' from fun n => by have h := tw_rwaits hT' n; rw [← hS'.waits] at h; exact h)
            have HL1 := Lib.hid (tw_late hT')
            have HL2 := Lib.hid (show Calls Try.prog 40 #[.pointer (some ⟨w1.heap.size + 1, 0, none⟩)] wc fun e w' => e = .returned (.int .i64 s'.late) ∧ wc = w' from by have h := tw_rlate hT'; rw [← hS'.late] at h; exact h)
            have HRL := Lib.hid (⟨hT', hS', hl0', hl1', hbb'⟩ : TwM w wc (w.heap.size + 1) (w1.heap.size + 1) s' x' ∧ Sim s' x' ∧ 0 ≤ s'.late ∧ s'.late ≤ k + 1 ∧ Below w.heap.size w wc)
            clear hT' hS' hl0' hl1' hbb' hT hS hl0 hl1 hbb e0 e1 e2 e3 e4 e5 e6 e7 y0 y7 zK hp17 hcj hrj hwj hk0 hn0 hwl hp
            go_wp2_with (fail)
            go_loop [16] (fun nv => ∃ n : Int, nv = .int .i64 n ∧ -1 ≤ n ∧ n ≤ (N : Int) + 1) (fun nv => ((N : Int) + 1 - intOf nv).toNat)
            case atStart => exact ⟨-1, rfl, by omega, by omega⟩
            case round =>
              obtain ⟨n, rfl, hn0, hn1⟩ := hrel
              by_cases hnN : n ≤ (N : Int)
              · go_wp2_with (first
                  | (go_at_call 19; (with_reducible refine (HW1.out _).mono ?_); rintro e wx ⟨rfl, rfl⟩)
                  | (go_at_call 39; (with_reducible refine (HW2.out _).mono ?_); rintro e wx ⟨rfl, rfl⟩))
                go_round
                case rel => exact ⟨n + 1, by go_num, by omega, by omega⟩
                case measure => simp [intOf]; omega
              · go_wp2_with (first
                  | (go_at_call 28; (with_reducible refine HL1.out.mono ?_); rintro e wx ⟨rfl, rfl⟩)
                  | (go_at_call 40; (with_reducible refine HL2.out.mono ?_); rintro e wx ⟨rfl, rfl⟩))
                obtain ⟨hT', hS', hl0', hl1', hbb'⟩ := HRL.out
                go_roundw
                case rel => exact ⟨k + 1, s', x', by omega, by omega, by go_num, hT', hS', hl0', by omega, hbb'⟩
                case measure => simp [intOf]; omega
        · go_wp2_with (fail)
          go_ret
          exact ⟨rfl, hbb⟩
      · go_wp2_with (fail)
        go_ret
        exact ⟨rfl, hbb⟩
  · have HV := Lib.hid (fun W => weavenew_no (n := streams) (most := most) (by omega) W)
    have HX := Lib.hid (fun W => rweavernew_no (n := streams) (most := most) (by omega) W)
    clear hr hok
    go_enter Try.func14, Try.ntmps14
    go_wp2_with (first
      | (go_at_call 17; (with_reducible refine (HV.out _).mono ?_); rintro e w1 ⟨rfl, rfl⟩)
      | (go_at_call 35; (with_reducible refine (HX.out _).mono ?_); rintro e w2 ⟨rfl, rfl⟩))
    go_loop [11] (fun iv => iv = .int .i64 0) (fun _ => 0)
    case atStart => rfl
    case round =>
      subst hrel
      go_wp2_with (fail)
      go_ret
      exact ⟨rfl, Below.refl _ _⟩
end Go.Proofs.Ytnflhogjonlnmaa
