/- WeaveBound: the walk. -/
import Derived.Test.YtnflhogjonlnmaaWvKnown
import Derived.Test.YtnflhogjonlnmaaWvBdM
import Derived.Test.YtnflhogjonlnmaaPicLast
import Derived.Deep.DeepCutAuto
set_option linter.unusedSimpArgs false
set_option linter.unusedVariables false
namespace Go.Proofs.Ytnflhogjonlnmaa.weaveBound
open Go.RowKit

theorem mul01 {a b : Nat} (ha : (a : Int) < 3) (hb : (b : Int) < 2) : ∃ j : Nat, IntKind.i64.wrap ((a : Int) * (b : Int)) = (j : Int) ∧ j < 3 := by
  have h : b = 0 ∨ b = 1 := by omega
  rcases h with rfl | rfl
  · exact ⟨0, by simp [IntKind.wrap_i64], by omega⟩
  · exact ⟨a, by rw [show (a : Int) * ((1 : Nat) : Int) = (a : Int) by omega, IntKind.wrap_i64]; omega, by omega⟩

theorem info_i64 : (Try.prog.info? 2).map (fun i => (i.zero, i.size, i.bytes)) = some (some (.int .i64 0), 1, 8) := by kernel_rfl

def InW (qs : List Qu) (e : Int) : Prop := ∃ j : Nat, j < 3 ∧ e ∈ (wsOf qs).getD j []
theorem inW_bd {m : Int} {i : Nat} {s : Wv} {e : Int} (h : BdI m i s) (hi : i ≤ 60) (he : InW s.qs e) : 0 ≤ e ∧ e ≤ 3600 := by
  obtain ⟨j, hj, he⟩ := he
  rw [ws_at (by rw [h.len]; exact hj)] at he
  obtain ⟨p, hp, rfl⟩ := List.mem_map.1 he
  have h1 := (h.q j hj).pk p hp
  have h2 := (h.q j hj).last1
  omega
def LM (qs : List Qu) (x y : Int) : Prop := (x = -1 ∧ y = -1) ∨ (InW qs x ∧ InW qs y)
theorem LM.both {qs : List Qu} {x y e : Int} (_ : LM qs x y) (he : InW qs e) : LM qs e e := .inr ⟨he, he⟩
theorem LM.snd {qs : List Qu} {x y e : Int} (h : LM qs x y) (he : InW qs e) (h0 : 0 ≤ e) (hy : e ≤ y) : LM qs e y := by
  rcases h with h | h
  · omega
  · exact .inr ⟨he, h.2⟩
theorem LM.fst {qs : List Qu} {x y e : Int} (h : LM qs x y) (he : InW qs e) (hx : 0 ≤ x) : LM qs x e := by
  rcases h with h | h
  · omega
  · exact .inr ⟨h.1, he⟩
theorem LM.far {qs : List Qu} {x y m : Int} (h : LM qs x y) (hm : 0 ≤ m) (hf : ∀ j k : Nat, j < 3 → k < 3 → ∀ x ∈ (wsOf qs).getD j [], ∀ y ∈ (wsOf qs).getD k [], y - x ≤ m) : y - x ≤ m := by
  rcases h with h | ⟨⟨j, hj, hx⟩, k, hk, hy⟩
  · omega
  · exact hf j k hj hk x hx y hy

set_option maxHeartbeats 16000000 in
set_option maxRecDepth 100000 in
theorem walk (w : World) (A0 : Option Addr) (c0 : Nat) (t : List Int) (ht : ∀ x ∈ t, -9223372036854775808 ≤ x ∧ x ≤ 9223372036854775807) (hc : t.length ≤ c0) (h63 : c0 ≤ 9223372036854775807) (hrt : RdI w w.heap.size .i64 A0 t)
    (mo : Int) (i0 : -9223372036854775808 ≤ mo) (i1 : mo ≤ 9223372036854775807) :
    Calls Try.prog 5 #[.slice A0 t.length c0, .int .i64 mo] w fun e w' => e = .returned (.bool true) ∧ Below w.heap.size w w' := by
  have HK := Lib.hid (fun W => known_any W)
  have HT := Lib.hid (newtape_any A0 t c0 ht hc (by omega) w hrt (Nat.le_refl _))
  have HW := Lib.hid (fun W => within_any mo 0 300 i0 i1 (by omega) (by omega) (by omega) W)
  have hwb := withinV_in (n := mo) (lo := 0) (hi := 300) (by omega)
  generalize withinV mo 0 300 = m at *
  have HN := Lib.hid (fun W (hW : w.heap.size ≤ W.heap.size) (hX : ∀ b, b = w.heap.size → b < W.heap.size) => wvn_new (N := 3) (n := 3) (most := m) rfl (by omega) (by omega) (by omega) (by omega) (w0 := w) (X := fun b => b = w.heap.size) W hW hX)
  clear ht hrt
  go_enter Try.func5, Try.ntmps5
  go_upto_region 6 with (first
    | (go_at_call 11; (with_reducible refine HT.out.mono ?_); rintro e w1 ⟨rfl, hT1, hb1⟩)
    | (go_at_call 16; (with_reducible refine (HW.out _).mono ?_); rintro e w2 ⟨rfl, rfl⟩)
    | (go_at_call 17; (with_reducible refine (HN.out _ hb1.size (fun b hb => hb ▸ hT1.lt)).mono ?_); rintro e w2 ⟨rfl, hw2, hb2⟩))
  have hT2 := hT1.below hb2 hT1.lt
  obtain ⟨X0, hB0⟩ := BdM.start hw2 hT2
  have hbb0 := below_alloc (below_alloc (below_then hb1 hb2) (.cells #[.slice none 0 0, .slice none 0 0, .slice none 0 0] 43)) (.cells #[.int .i64 0, .int .i64 0, .int .i64 0] 44)
  have HI0 := Lib.hid (bd_zero m)
  have HBB := Lib.hid hB0
  clear hT1 hT2 hw2 hb1 hb2 HT HW HN hB0
  go_wp2_with (fail)
  go_loopw [11] (fun iv wr => ∃ (i : Nat) (s : Wv) (X : Nat → Prop) (vs : List Value), i ≤ 60 ∧ iv = .int .i64 i ∧ BdI m i s ∧ BdM w wr X w.heap.size w2.heap.size (w2.heap.size + 1) (w1.heap.size + 1) s vs (wsOf s.qs) (lsOf s.qs) ∧ Below w.heap.size w wr) (fun iv _ => 60 - (intOf iv).toNat)
  case atStart => exact ⟨0, _, _, _, by omega, rfl, HI0.out, HBB.out, hbb0⟩
  case round =>
    obtain ⟨i, s, X, vs, hi, rfl, hI, hB, hbb⟩ := hrel
    clear HI0 HBB hbb0
    by_cases hc1 : i < 60
    · go_upto_region 12 with (first
        | (go_at_call 13; (with_reducible refine (next_any hB.bt 3 (by omega) (by omega)).mono ?_); rintro e wa ⟨r1, rfl, hr1, hTa, hga⟩; have hBa := hB.tape hTa hga)
        | (go_at_call 13; (with_reducible refine (next_any hBa.bt 2 (by omega) (by omega)).mono ?_); rintro e wb ⟨r2, rfl, hr2, hTb, hgb⟩; have hBb := hBa.tape hTb hgb; obtain ⟨j, hmul, hjl⟩ := mul01 hr1 hr2))
      have hbbb := below_one (below_one hbb hga (Nat.le_refl _)) hgb (Nat.le_refl _)
      clear hga hgb hTa hTb hBa hB hbb hmul
      clear hr1 hr2
      obtain ⟨c1, f1⟩ := hBb.last_at hjl
      have hLq := hI.q j hjl
      have hLe := ls_at (qs := s.qs) (j := j) (by rw [hI.len]; exact hjl)
      have hL0 : 0 ≤ (lsOf s.qs).getD j 0 := by rw [hLe]; exact hLq.last0
      have hL1 : (lsOf s.qs).getD j 0 ≤ 3600 := by have := hLq.last1; rw [hLe]; omega
      have HPut := Lib.hid (fun r => bd_put (r := r) hI hc1 hjl)
      clear hLe hLq
      have HLs := Lib.hid (show (lsOf s.qs).getD j 0 = (lsOf s.qs).getD j 0 from rfl)
      generalize hLd : (lsOf s.qs).getD j 0 = L at *
      replace hLd := Lib.hid hLd
      clear HLs
      have hjl' : (j : Int) < 3 := by omega
      refine wp_region_last (S := (fun w' => w'.cell? ⟨w2.heap.size + 1, j, none⟩ = some (.int .i64 L))) 8 _ (by simp only [List.pop_toArray, List.dropLast_cons_cons, List.dropLast_singleton]; rfl) (by kernel_rfl) (by kernel_rfl) (by kernel_rfl) (by kernel_rfl) (by kernel_rfl) ?_ (fun hHeld => ?_)
      focus exact c1
      refine wpAnyH_take (i := 0) (v := ?_) rfl (by kernel_rfl) (by kernel_rfl) (by kernel_rfl) (fun _ _ _ h => h) (Or.inl ⟨by kernel_rfl, ?_⟩) (by assumption) ?_
      rotate_left
      focus
        intro w9 hSw
        (try dsimp only at hSw)
        go_simp
        (try with_reducible rfl)
      (try simp only [Act.put, List.getElem_toArray, List.getElem_cons_succ, List.getElem_cons_zero, List.setIfInBounds_toArray, List.set_cons_zero, List.set_cons_succ])
      refine wpAnyH_take (i := 1) (v := ?_) rfl (by kernel_rfl) (by kernel_rfl) (by kernel_rfl) (fun _ _ _ h => h) (Or.inl ⟨by kernel_rfl, ?_⟩) (by assumption) ?_
      rotate_left
      focus
        intro w9 hSw
        (try dsimp only at hSw)
        go_simp
        (try with_reducible rfl)
      (try simp only [Act.put, List.getElem_toArray, List.getElem_cons_succ, List.getElem_cons_zero, List.setIfInBounds_toArray, List.set_cons_zero, List.set_cons_succ])
      refine wpAnyH_take (i := 2) (v := ?_) rfl (by kernel_rfl) (by kernel_rfl) (by kernel_rfl) (fun _ _ _ h => h) (Or.inl ⟨by kernel_rfl, ?_⟩) (by assumption) ?_
      rotate_left
      focus
        intro w9 hSw
        (try dsimp only at hSw)
        go_simp
        (try with_reducible rfl)
      (try simp only [Act.put, List.getElem_toArray, List.getElem_cons_succ, List.getElem_cons_zero, List.setIfInBounds_toArray, List.set_cons_zero, List.set_cons_succ])
      refine wpAnyH_take (i := 3) (v := ?_) rfl (by kernel_rfl) (by kernel_rfl) (by kernel_rfl) (fun _ _ _ h => h) (Or.inl ⟨by kernel_rfl, ?_⟩) (by assumption) ?_
      rotate_left
      focus
        intro w9 hSw
        (try dsimp only at hSw)
        go_simp
        (try with_reducible rfl)
      (try simp only [Act.put, List.getElem_toArray, List.getElem_cons_succ, List.getElem_cons_zero, List.setIfInBounds_toArray, List.set_cons_zero, List.set_cons_succ])
      refine wpAnyH_take (i := 4) (v := ?_) rfl (by kernel_rfl) (by kernel_rfl) (by kernel_rfl) (fun _ _ _ h => h) (Or.inl ⟨by kernel_rfl, ?_⟩) (by assumption) ?_
      rotate_left
      focus
        intro w9 hSw
        (try dsimp only at hSw)
        go_simp
        (try with_reducible rfl)
      (try simp only [Act.put, List.getElem_toArray, List.getElem_cons_succ, List.getElem_cons_zero, List.setIfInBounds_toArray, List.set_cons_zero, List.set_cons_succ])
      refine wpAnyH_ready (rs := [5]) (by kernel_rfl) (by simp) (AllReadyH.cons rfl (fun K hK => ?_) AllReadyH.nil)
      go_simp
      go_at_call 13
      refine (next_any (hBb.drewN 1).bt 60 (by omega) (by omega)).mono ?_
      rintro e wc ⟨r, rfl, hr, hTc, hgc⟩
      have hBc := (hBb.drewN 1).tape hTc hgc
      obtain ⟨c2, f2⟩ := hBc.last_at hjl
      rw [hLd.out] at c2
      have hwr : IntKind.i64.wrap (L + (r : Int)) = L + (r : Int) := by rw [IntKind.wrap_i64]; omega
      refine hK.out _ _ ?_ (fun hHeld => ?_)
      focus exact c2
      clear hK K
      (try simp only [Act.put, List.getElem_toArray, List.getElem_cons_succ, List.getElem_cons_zero, List.setIfInBounds_toArray, List.set_cons_zero, List.set_cons_succ])
      refine wpAnyH_take (i := 6) (v := ?_) rfl (by kernel_rfl) (by kernel_rfl) (by kernel_rfl) (fun _ _ _ h => h) (Or.inl ⟨by kernel_rfl, ?_⟩) (by assumption) ?_
      rotate_left
      focus
        intro w9 hSw
        (try dsimp only at hSw)
        go_simp
        (try with_reducible rfl)
      (try simp only [Act.put, List.getElem_toArray, List.getElem_cons_succ, List.getElem_cons_zero, List.setIfInBounds_toArray, List.set_cons_zero, List.set_cons_succ])
      refine wpAnyH_take (i := 7) (v := ?_) rfl (by kernel_rfl) (by kernel_rfl) (by kernel_rfl) (fun _ _ _ h => h) (Or.inl ⟨by kernel_rfl, ?_⟩) (by assumption) ?_
      rotate_left
      focus
        intro w9 hSw
        (try dsimp only at hSw)
        go_simp
        (try with_reducible rfl)
      (try simp only [Act.put, List.getElem_toArray, List.getElem_cons_succ, List.getElem_cons_zero, List.setIfInBounds_toArray, List.set_cons_zero, List.set_cons_succ])
      refine wpAnyH_done (by kernel_rfl) (lastQ_step rfl (fun K hK => ?_)) _
      go_simp
      refine hK _ _ ?_
      clear hK K
      have hBd := hBc.last (j := j) (L + (r : Int))
      have hbbd := below_put (g := w2.heap.size + 1) (off := j) (u := .int .i64 (L + (r : Int))) (below_one (below_drewN hbbb 1) hgc (Nat.le_refl _)) hBc.ge.2
      obtain ⟨pE, pI, pW, pL⟩ := HPut.out r (by omega)
      obtain ⟨c3, f3⟩ := hBd.last_at hjl
      rw [getD_set_ (by rw [hBc.ll]; exact hjl), if_pos rfl] at c3
      have pL0 : (lsOf (s.put (bp j (L + r))).qs).getD j 0 = L + (r : Int) := by rw [pL, getD_set_ (by rw [hBc.ll]; exact hjl), if_pos rfl]
      rw [← pL] at hBd
      have hWl : ((wsOf s.qs).getD j []).length ≤ 60 := by
        have h1 := wait_le hI hjl
        have h2 := hI.late
        rw [ws_at (by rw [hI.len]; exact hjl), List.length_map]; omega
      have hPw : (bp j (L + r)).wf := ⟨by simp [bp, i64B]; omega, by simp [bp, i64B]; omega, by simp [bp, i64B], by simp [bp], fun x hx => by simp [bp] at hx⟩
      have HP := fun W (h : WvN w X W (w1.heap.size + 1) s) => wvn_put h (bp j (L + r)) none 0 hPw (by exact RdI.nil_)
      rw [pE] at HP
      simp only [bp, Pk.val, List.length_nil] at HP
      simp only [bp] at pW pI pL0 hBd
      replace HP := Lib.hid HP
      replace pW := Lib.hid pW
      replace pI := Lib.hid pI
      clear hBb hBc hTc hgc c1 c2 f1 f2 hbbb HPut pL pE hPw hwr hHeld hLd
      generalize wc.setCell ⟨w2.heap.size + 1, j, none⟩ (.int .i64 (L + (r : Int))) = wd at *
      go_upto_region 15 with (first
        | (go_at_call 18; (with_reducible refine (HP.out _ hBd.hv).mono ?_); rintro e we ⟨rfl, hwe, hme⟩))
      have hBe := hBd.free hme hwe
      have hbbe := hbbd.trans (hme.below hbbd.size (fun b hb => hb.1))
      generalize s.put ⟨(j : Int), L + (r : Int), 0, false, false, []⟩ = s1 at *
      obtain ⟨c4, f4⟩ := hBe.last_at hjl
      rw [pL0] at c4
      obtain ⟨Aq, cq, hva, hcq, hrq, q0, g0⟩ := hBe.wait_at hjl
      have hown := hBe.own j hjl
      rw [hva] at hown
      generalize (wsOf s.qs).getD j [] = lj at *
      have hgwl := hBe.bw.lt
      clear hBd hwe hme hbbd c3 f3 HP pL0
      have hgll := hBe.bl.lt
      refine wp_region_last (S := (fun w' => w'.cell? ⟨w2.heap.size, j, none⟩ = some (.slice Aq lj.length cq) ∧ w'.cell? ⟨w2.heap.size + 1, j, none⟩ = some (.int .i64 (L + (r : Int))))) 10 _ (by simp only [List.pop_toArray, List.dropLast_cons_cons, List.dropLast_singleton]; rfl) (by kernel_rfl) (by kernel_rfl) (by kernel_rfl) (by kernel_rfl) (by kernel_rfl) ?_ (fun hHeld => ?_)
      focus exact ⟨q0, c4⟩
      refine wpAnyH_take (i := 0) (v := ?_) rfl (by kernel_rfl) (by kernel_rfl) (by kernel_rfl) (fun _ _ _ h => h) (Or.inl ⟨by kernel_rfl, ?_⟩) (by assumption) ?_
      rotate_left
      focus
        intro w9 hSw
        (try dsimp only at hSw)
        go_simp
        (try with_reducible rfl)
      (try simp only [Act.put, List.getElem_toArray, List.getElem_cons_succ, List.getElem_cons_zero, List.setIfInBounds_toArray, List.set_cons_zero, List.set_cons_succ])
      refine wpAnyH_take (i := 1) (v := ?_) rfl (by kernel_rfl) (by kernel_rfl) (by kernel_rfl) (fun _ _ _ h => h) (Or.inl ⟨by kernel_rfl, ?_⟩) (by assumption) ?_
      rotate_left
      focus
        intro w9 hSw
        (try dsimp only at hSw)
        go_simp
        (try with_reducible rfl)
      (try simp only [Act.put, List.getElem_toArray, List.getElem_cons_succ, List.getElem_cons_zero, List.setIfInBounds_toArray, List.set_cons_zero, List.set_cons_succ])
      refine wpAnyH_take (i := 2) (v := ?_) rfl (by kernel_rfl) (by kernel_rfl) (by kernel_rfl) (fun _ _ _ h => h) (Or.inl ⟨by kernel_rfl, ?_⟩) (by assumption) ?_
      rotate_left
      focus
        intro w9 hSw
        (try dsimp only at hSw)
        go_simp
        (try with_reducible rfl)
      (try simp only [Act.put, List.getElem_toArray, List.getElem_cons_succ, List.getElem_cons_zero, List.setIfInBounds_toArray, List.set_cons_zero, List.set_cons_succ])
      refine wpAnyH_take (i := 3) (v := ?_) rfl (by kernel_rfl) (by kernel_rfl) (by kernel_rfl) (fun _ _ _ h => h) (Or.inl ⟨by kernel_rfl, ?_⟩) (by assumption) ?_
      rotate_left
      focus
        intro w9 hSw
        (try dsimp only at hSw)
        go_simp
        (try with_reducible rfl)
      (try simp only [Act.put, List.getElem_toArray, List.getElem_cons_succ, List.getElem_cons_zero, List.setIfInBounds_toArray, List.set_cons_zero, List.set_cons_succ])
      refine wpAnyH_take (i := 4) (v := ?_) rfl (by kernel_rfl) (by kernel_rfl) (by kernel_rfl) (fun _ _ _ h => h) (Or.inl ⟨by kernel_rfl, ?_⟩) (by assumption) ?_
      rotate_left
      focus
        intro w9 hSw
        (try dsimp only at hSw)
        go_simp
        (try with_reducible rfl)
      (try simp only [Act.put, List.getElem_toArray, List.getElem_cons_succ, List.getElem_cons_zero, List.setIfInBounds_toArray, List.set_cons_zero, List.set_cons_succ])
      refine wpAnyH_take (i := 5) (v := ?_) rfl (by kernel_rfl) (by kernel_rfl) (by kernel_rfl) (fun _ _ _ h => h) (Or.inl ⟨by kernel_rfl, ?_⟩) (by assumption) ?_
      rotate_left
      focus
        intro w9 hSw
        (try dsimp only at hSw)
        go_simp
        (try with_reducible rfl)
      (try simp only [Act.put, List.getElem_toArray, List.getElem_cons_succ, List.getElem_cons_zero, List.setIfInBounds_toArray, List.set_cons_zero, List.set_cons_succ])
      refine wpAnyH_take (i := 6) (v := ?_) rfl (by kernel_rfl) (by kernel_rfl) (by kernel_rfl) (fun _ _ _ h => h) (Or.inl ⟨by kernel_rfl, ?_⟩) (by assumption) ?_
      rotate_left
      focus
        intro w9 hSw
        (try dsimp only at hSw)
        go_simp
        (try with_reducible rfl)
      (try simp only [Act.put, List.getElem_toArray, List.getElem_cons_succ, List.getElem_cons_zero, List.setIfInBounds_toArray, List.set_cons_zero, List.set_cons_succ])
      refine wpAnyH_ready (rs := [7]) (by kernel_rfl) (by simp) (AllReadyH.cons rfl (fun K hK => ?_) AllReadyH.nil)
      go_simp
      have bl1 : Below we.heap.size we (we.drew.alloc (.cells #[.int .i64 (L + (r : Int))] 2)) := below_alloc (Below.refl _ _).drew _
      have q1 := (bl1.cell (p := ⟨w2.heap.size, j, none⟩) hgwl).trans q0
      have c5 := (bl1.cell (p := ⟨w2.heap.size + 1, j, none⟩) hgll).trans c4
      refine hK.out _ _ ?_ (fun hHeld => ?_)
      focus exact ⟨q1, c5⟩
      clear hK K
      (try simp only [Act.put, List.getElem_toArray, List.getElem_cons_succ, List.getElem_cons_zero, List.setIfInBounds_toArray, List.set_cons_zero, List.set_cons_succ])
      refine wpAnyH_ready (rs := [8]) (by kernel_rfl) (by simp) (AllReadyH.cons rfl (fun K hK => ?_) AllReadyH.nil)
      refine step_append_O _ (by rfl) (.tmp 62) (.tmp 66) _ (by rfl) w.heap.size 2 .i64 8 Try.underlying42 info_i64 (.slice Aq lj.length cq) lj (by rfl) (by exact hown.alloc _) _ (some ⟨we.heap.size, 0, none⟩) 1 _ [L + (r : Int)] (by rfl) (by rfl) (by exact RdI.one we .i64 (L + (r : Int)) 2) (by simp only [List.length_cons, List.length_nil]; omega) (by omega) (by have := bl1.size; exact Nat.le_trans hbbe.size this) ?_
      intro v5 w5 ow5 hg5 hv5
      obtain ⟨A5, c5_, hv5e, _, _⟩ := ow5.form
      rw [show (lj ++ [L + (r : Int)]).length = lj.length + 1 by simp] at hv5e
      subst hv5e
      have hM5 : Mod (fun b => (vAt vs j).ownBlock = some b) we w5 := (Mod.of_fresh bl1).then_ (Mod.of_grown hg5 (fun x e _ => by rw [hva]; exact e))
      have hn1 : ¬ (vAt vs j).ownBlock = some w2.heap.size := fun e => (hBe.inX j hjl _ e).2.1 rfl
      have hn2 : ¬ (vAt vs j).ownBlock = some (w2.heap.size + 1) := fun e => (hBe.inX j hjl _ e).2.2.1 rfl
      have q2 := hM5.cell q0 hn1
      have c6 := hM5.cell c4 hn2
      refine hK.out _ _ ?_ (fun hHeld => ?_)
      focus exact ⟨q2, c6⟩
      clear hK K
      (try simp only [Act.put, List.getElem_toArray, List.getElem_cons_succ, List.getElem_cons_zero, List.setIfInBounds_toArray, List.set_cons_zero, List.set_cons_succ])
      refine wpAnyH_take (i := 9) (v := ?_) rfl (by kernel_rfl) (by kernel_rfl) (by kernel_rfl) (fun _ _ _ h => h) (Or.inl ⟨by kernel_rfl, ?_⟩) (by assumption) ?_
      rotate_left
      focus
        intro w9 hSw
        (try dsimp only at hSw)
        go_simp
        (try with_reducible rfl)
      (try simp only [Act.put, List.getElem_toArray, List.getElem_cons_succ, List.getElem_cons_zero, List.setIfInBounds_toArray, List.set_cons_zero, List.set_cons_succ])
      have g2 := (hM5.frozen hgwl hn1).trans g0
      refine wpAnyH_done (by kernel_rfl) (lastQ_step rfl (fun K hK => ?_)) _
      go_simp
      refine hK _ _ ?_
      clear hK K
      have hBf := hBe.put hjl hM5 ow5 (by rw [hva]; exact hv5.imp id (fun h b hb => Nat.le_trans bl1.size (h b hb)))
      have hbbf := below_put (g := w2.heap.size) (off := j) (u := .slice A5 (lj.length + 1) c5_) (hbbe.trans (hM5.below hbbe.size (fun b hb => by rw [hva] at hb; exact (hown.lt b hb).1))) hBe.ge.1
      rw [← pW.out] at hBf
      have pI := pI.out
      clear hBe hown hM5 ow5 hg5 hv5 hn1 hn2 q0 q1 q2 g0 g2 c4 c5 c6 f4 bl1 hva hcq hrq hgwl hgll hbbe pW hWl hL0 hL1 hHeld hI
      generalize w5.setCell ⟨w2.heap.size, j, none⟩ (.slice A5 (lj.length + 1) c5_) = wf at *
      generalize hX' : More X we.heap.size w5.heap.size = X' at *
      generalize vs.set j (.slice A5 (lj.length + 1) c5_) = vs' at *
      clear hX'
      have hla := pI.late
      have HTk := Lib.hid (bd_calls hBf.hv hla.1 (by omega))
      have HIi := Lib.hid pI
      have HBf := Lib.hid hBf
      have hwf := hBf.lt3
      clear hBf pI hla
      go_wp2_with (first
        | (go_at_call 20; (with_reducible refine HTk.out.mono ?_); rintro e wg ⟨p1, p2, p3, p4, p5, p6, Ag, cg, hpg, rfl, hwg, hmg⟩))
      have hBg := HBf.out.free hmg hwg
      have hbbg := hbbf.trans (hmg.below hbbf.size (fun b hb => hb.1))
      have hBh := hBg.alloc (below_alloc (Below.refl _ _) (.cells #[.int .i64 p1, .int .i64 p2, .int .i64 p3, .bool p4, .bool p5, .slice Ag p6.length cg] 40))
      have hbbh := below_alloc hbbg (.cells #[.int .i64 p1, .int .i64 p2, .int .i64 p3, .bool p4, .bool p5, .slice Ag p6.length cg] 40)
      have hkh := Blk.new wg 40 #[.int .i64 p1, .int .i64 p2, .int .i64 p3, .bool p4, .bool p5, .slice Ag p6.length cg]
      have hgne : wg.heap.size ≠ w2.heap.size := by have := hBg.lt3.1; omega
      have HIi := HIi.out
      clear HTk HBf hBg hbbg hmg hwg hbbf hwf hHeld
      go_loopw [13, 14] (fun pv okv wr => ∃ (s0 : Wv) (X : Nat → Prop) (vs : List Value) (g : Nat) (st at_ ln : Int) (key hid : Bool) (d : List Int) (A : Option Addr) (c : Nat), BdI m (i + 1) s0 ∧ pv = .pointer (some ⟨g, 0, none⟩) ∧ okv = .bool s0.take.1.isSome ∧
        s0.take.1.getD pz = ⟨st, at_, ln, key, hid, d⟩ ∧ Blk wr g 40 #[.int .i64 st, .int .i64 at_, .int .i64 ln, .bool key, .bool hid, .slice A d.length c] ∧ g ≠ w2.heap.size ∧
        BdM w wr X w.heap.size w2.heap.size (w2.heap.size + 1) (w1.heap.size + 1) s0.take.2 vs (wsOf s0.qs) (lsOf s0.qs) ∧ Below w.heap.size w wr) (fun _ _ wr => meas wr w2.heap.size)
      case atStart => exact ⟨s1, _, _, _, _, _, _, _, _, _, _, _, HIi, rfl, rfl, hpg, hkh, hgne, hBh, hbbh⟩
      case round =>
        clear hBh hbbh hkh hgne HIi hpg
        obtain ⟨s0, X', vs', g, st, at_, ln, key, hid, d, A, c, hI0, rfl, rfl, hq, hk, hgn, hB0, hbb0⟩ := hrel
        have hms := hB0.meas
        rcases bd_take hI0 hwb.1 with ⟨k, p, l, hkl, ht, hst, hw, hI1, hw1, hl1, htt⟩ | ⟨ht, hfar⟩
        · have hok : s0.take.1.isSome = true := by rw [ht]; rfl
          rw [ht, Option.getD_some] at hq
          subst hq
          simp only at hst hw
          subst hst
          rw [hok]
          rw [← hl1] at hB0
          generalize s0.take.2 = s1 at *
          have x0 := hk.cell 0
          have x1 := hk.cell 1
          have x2 := hk.cell 2
          have x3 := hk.cell 3
          have x4 := hk.cell 4
          have x5 := hk.cell 5
          obtain ⟨Aq, cq, hva, hcq, hrq, q0, g0⟩ := hB0.wait_at hkl
          have hown := hB0.own k hkl
          rw [hva] at hown
          rw [hw] at hown hcq hrq q0
          obtain ⟨ad, rfl, _, y0⟩ := hrq.at_ (j := 0) (by simp)
          rw [show ad.add 0 = ad by simp [Addr.add]] at y0
          simp only [List.getD_cons_zero] at y0
          rw [List.length_cons] at hcq q0 hown
          obtain ⟨v6, hrun, hov, hvb⟩ := OwnO.cut (P := Try.prog) Try.underlying42 info_i64 hown (n := 1) (by simp)
          rw [List.drop_succ_cons, List.drop_zero] at hov
          rw [show ((1 : Nat) : Int) = 1 from rfl] at hrun
          obtain ⟨A6, c6, rfl, _, _⟩ := hov.form
          have hkl' : (k : Int) < 3 := by omega
          clear hrq hcq x2 x3 x4 x5
          go_upto_region 19 with (fail)
          go_quiet (fail)
          go_upto_region 21 with (fail)
          have hB2 := hB0.drewN nq
          have hk2 : Blk (wr.drewN nq) g 40 #[.int .i64 (k : Int), .int .i64 at_, .int .i64 ln, .bool key, .bool hid, .slice A d.length c] := hk.drewN nq
          have hov2 : OwnO (wr.drewN nq) w.heap.size 2 .i64 (.slice A6 l.length c6) l := hov.drewN nq
          have hbb2 := below_drewN hbb0 nq
          have g2 : (wr.drewN nq).frozen? ⟨w2.heap.size, k, none⟩ = false := g0
          have q2 : (wr.drewN nq).cell? ⟨w2.heap.size, k, none⟩ = some (.slice (some ad) (l.length + 1) cq) := q0
          have hms2 : meas (wr.drewN nq) w2.heap.size = tot3 s0.qs := hms
          have hms3 : meas wr w2.heap.size = meas (wr.drewN nq) w2.heap.size := rfl
          clear hB0 hk hov hbb0 g0 q0 x0 x1 y0 hown hms
          generalize wr.drewN nq = wq at *
          have x0 := hk2.cell 0
          refine wp_region_last (S := (fun w' => w'.cell? ⟨g, 0, none⟩ = some (.int .i64 (k : Int)) ∧ w'.cell? ⟨w2.heap.size, k, none⟩ = some (.slice (some ad) (l.length + 1) cq))) 8 _ (by simp only [List.pop_toArray, List.dropLast_cons_cons, List.dropLast_singleton]; rfl) (by kernel_rfl) (by kernel_rfl) (by kernel_rfl) (by kernel_rfl) (by kernel_rfl) ?_ (fun hHeld => ?_)
          focus exact ⟨x0, q2⟩
          refine wpAnyH_take (i := 0) (v := ?_) rfl (by kernel_rfl) (by kernel_rfl) (by kernel_rfl) (fun _ _ _ h => h) (Or.inl ⟨by kernel_rfl, ?_⟩) (by assumption) ?_
          rotate_left
          focus
            intro w9 hSw
            (try dsimp only at hSw)
            go_simp
            (try with_reducible rfl)
          (try simp only [Act.put, List.getElem_toArray, List.getElem_cons_succ, List.getElem_cons_zero, List.setIfInBounds_toArray, List.set_cons_zero, List.set_cons_succ])
          refine wpAnyH_take (i := 1) (v := ?_) rfl (by kernel_rfl) (by kernel_rfl) (by kernel_rfl) (fun _ _ _ h => h) (Or.inl ⟨by kernel_rfl, ?_⟩) (by assumption) ?_
          rotate_left
          focus
            intro w9 hSw
            (try dsimp only at hSw)
            go_simp
            (try with_reducible rfl)
          (try simp only [Act.put, List.getElem_toArray, List.getElem_cons_succ, List.getElem_cons_zero, List.setIfInBounds_toArray, List.set_cons_zero, List.set_cons_succ])
          refine wpAnyH_take (i := 2) (v := ?_) rfl (by kernel_rfl) (by kernel_rfl) (by kernel_rfl) (fun _ _ _ h => h) (Or.inl ⟨by kernel_rfl, ?_⟩) (by assumption) ?_
          rotate_left
          focus
            intro w9 hSw
            (try dsimp only at hSw)
            go_simp
            (try with_reducible rfl)
          (try simp only [Act.put, List.getElem_toArray, List.getElem_cons_succ, List.getElem_cons_zero, List.setIfInBounds_toArray, List.set_cons_zero, List.set_cons_succ])
          refine wpAnyH_take (i := 3) (v := ?_) rfl (by kernel_rfl) (by kernel_rfl) (by kernel_rfl) (fun _ _ _ h => h) (Or.inl ⟨by kernel_rfl, ?_⟩) (by assumption) ?_
          rotate_left
          focus
            intro w9 hSw
            (try dsimp only at hSw)
            go_simp
            (try with_reducible rfl)
          (try simp only [Act.put, List.getElem_toArray, List.getElem_cons_succ, List.getElem_cons_zero, List.setIfInBounds_toArray, List.set_cons_zero, List.set_cons_succ])
          refine wpAnyH_take (i := 4) (v := ?_) rfl (by kernel_rfl) (by kernel_rfl) (by kernel_rfl) (fun _ _ _ h => h) (Or.inl ⟨by kernel_rfl, ?_⟩) (by assumption) ?_
          rotate_left
          focus
            intro w9 hSw
            (try dsimp only at hSw)
            go_simp
            (try with_reducible rfl)
          (try simp only [Act.put, List.getElem_toArray, List.getElem_cons_succ, List.getElem_cons_zero, List.setIfInBounds_toArray, List.set_cons_zero, List.set_cons_succ])
          refine wpAnyH_take (i := 5) (v := ?_) rfl (by kernel_rfl) (by kernel_rfl) (by kernel_rfl) (fun _ _ _ h => h) (Or.inl ⟨by kernel_rfl, ?_⟩) (by assumption) ?_
          rotate_left
          focus
            intro w9 hSw
            (try dsimp only at hSw)
            go_simp
            (try with_reducible rfl)
          (try simp only [Act.put, List.getElem_toArray, List.getElem_cons_succ, List.getElem_cons_zero, List.setIfInBounds_toArray, List.set_cons_zero, List.set_cons_succ])
          refine wpAnyH_take (i := 6) (v := ?_) rfl (by kernel_rfl) (by kernel_rfl) (by kernel_rfl) (fun _ _ _ h => h) (Or.inl ⟨by kernel_rfl, ?_⟩) (by assumption) ?_
          rotate_left
          focus
            intro w9 hSw'
            (try dsimp only at hSw')
            have zr := (fun w9 _ => hrun w9) w9 hSw'
            clear hSw'
            go_simp
            (try with_reducible rfl)
          (try simp only [Act.put, List.getElem_toArray, List.getElem_cons_succ, List.getElem_cons_zero, List.setIfInBounds_toArray, List.set_cons_zero, List.set_cons_succ])
          refine wpAnyH_take (i := 7) (v := ?_) rfl (by kernel_rfl) (by kernel_rfl) (by kernel_rfl) (fun _ _ _ h => h) (Or.inl ⟨by kernel_rfl, ?_⟩) (by assumption) ?_
          rotate_left
          focus
            intro w9 hSw
            (try dsimp only at hSw)
            go_simp
            (try with_reducible rfl)
          (try simp only [Act.put, List.getElem_toArray, List.getElem_cons_succ, List.getElem_cons_zero, List.setIfInBounds_toArray, List.set_cons_zero, List.set_cons_succ])
          refine wpAnyH_done (by kernel_rfl) (lastQ_step rfl (fun K hK => ?_)) _
          go_simp
          refine hK _ _ ?_
          clear hK K
          have hB1 := (hB2.put hkl (Mod.refl _ _) hov2 (.inl (by rw [hva, hw]; exact hvb))).drewN 1
          rw [← hw1] at hB1
          have hbb1 := below_drewN (below_put (g := w2.heap.size) (off := k) (u := .slice A6 l.length c6) hbb2 hB2.ge.1) 1
          have hk1 := (hk2.far (p := ⟨w2.heap.size, k, none⟩) hgn (.slice A6 l.length c6)).drewN 1
          generalize hwz : (wq.setCell ⟨w2.heap.size, k, none⟩ (.slice A6 l.length c6)).drewN 1 = wz at *
          rw [show (wq.setCell ⟨w2.heap.size, k, none⟩ (.slice A6 l.length c6)).drew = wz from hwz]
          clear hwz hB2 hk2 hov2 hbb2 g2 q2 x0 hrun hva hw hw1 hl1 hvb hHeld
          have x0 := hk1.cell 0
          have x1 := hk1.cell 1
          have x2 := hk1.cell 2
          have x3 := hk1.cell 3
          have x4 := hk1.cell 4
          have x5 := hk1.cell 5
          go_upto_region 18 with (fail)
          have bly := below_alloc (Below.refl wz.heap.size wz) (.cells #[.int .i64 (k : Int), .int .i64 at_, .int .i64 ln, .bool key, .bool hid, .slice A d.length c] 40)
          have hky := Blk.new wz 40 #[.int .i64 (k : Int), .int .i64 at_, .int .i64 ln, .bool key, .bool hid, .slice A d.length c]
          generalize wz.alloc (.cells #[.int .i64 (k : Int), .int .i64 at_, .int .i64 ln, .bool key, .bool hid, .slice A d.length c] 40) = wy at *
          have hBy := hB1.alloc bly
          have hz3 := hB1.lt3
          have hzy := hky.lt
          have hbby := below_then hbb1 bly
          have hla := hI1.late
          have HTk := Lib.hid (bd_calls hBy.hv hla.1 (by omega))
          have Hms := Lib.hid (hms3.trans hms2)
          have Htt := Lib.hid htt
          have hbb1s := hbb1.size
          clear hB1 hbb1 hk1 x0 x1 x2 x3 x4 x5 bly hms2 hms3 hla htt
          go_wp2_with (first
            | (go_at_call 20; (with_reducible refine HTk.out.mono ?_); rintro e wt ⟨q1, q2, q3, q4, q5, q6, Aq, cq2, hpq, rfl, hwt, hmt⟩; have hkt := hky.mod hmt (fun hf => hf.2 (Or.inr ⟨Nat.le_refl _, hzy⟩)); have y0 := hkt.cell 0; have y1 := hkt.cell 1; have y2 := hkt.cell 2; have y3 := hkt.cell 3; have y4 := hkt.cell 4; have y5 := hkt.cell 5; have f0 := hkt.frozen 0; have f1 := hkt.frozen 1; have f2 := hkt.frozen 2; have f3 := hkt.frozen 3; have f4 := hkt.frozen 4; have f5 := hkt.frozen 5))
          have hBt := hBy.free hmt hwt
          have hbbt := hbby.trans (hmt.below hbby.size (fun b hb => hb.1))
          have hmf : Mod (· = wz.heap.size) wt ((((((wt.setCell ⟨wz.heap.size, 0, none⟩ (.int .i64 q1)).setCell ⟨wz.heap.size, 1, none⟩ (.int .i64 q2)).setCell ⟨wz.heap.size, 2, none⟩ (.int .i64 q3)).setCell ⟨wz.heap.size, 3, none⟩ (.bool q4)).setCell ⟨wz.heap.size, 4, none⟩ (.bool q5)).setCell ⟨wz.heap.size, 5, none⟩ (.slice Aq q6.length cq2)) := mod_put (mod_put (mod_put (mod_put (mod_put (mod_put (Mod.refl _ _) (fun _ => rfl)) (fun _ => rfl)) (fun _ => rfl)) (fun _ => rfl)) (fun _ => rfl)) (fun _ => rfl)
          have hkf : Blk ((((((wt.setCell ⟨wz.heap.size, 0, none⟩ (.int .i64 q1)).setCell ⟨wz.heap.size, 1, none⟩ (.int .i64 q2)).setCell ⟨wz.heap.size, 2, none⟩ (.int .i64 q3)).setCell ⟨wz.heap.size, 3, none⟩ (.bool q4)).setCell ⟨wz.heap.size, 4, none⟩ (.bool q5)).setCell ⟨wz.heap.size, 5, none⟩ (.slice Aq q6.length cq2)) wz.heap.size 40 #[.int .i64 q1, .int .i64 q2, .int .i64 q3, .bool q4, .bool q5, .slice Aq q6.length cq2] := by
            have h := ((((((hkt.set_ 0 (.int .i64 q1)).set_ 1 (.int .i64 q2)).set_ 2 (.int .i64 q3)).set_ 3 (.bool q4)).set_ 4 (.bool q5)).set_ 5 (.slice Aq q6.length cq2))
            simpa using h
          generalize ((((((wt.setCell ⟨wz.heap.size, 0, none⟩ (.int .i64 q1)).setCell ⟨wz.heap.size, 1, none⟩ (.int .i64 q2)).setCell ⟨wz.heap.size, 2, none⟩ (.int .i64 q3)).setCell ⟨wz.heap.size, 3, none⟩ (.bool q4)).setCell ⟨wz.heap.size, 4, none⟩ (.bool q5)).setCell ⟨wz.heap.size, 5, none⟩ (.slice Aq q6.length cq2)) = wx at *
          have hws := hbb1s
          have hBx := hBt.far (g := wz.heap.size) (.inr ⟨Nat.le_refl _, hzy⟩) hws ⟨by omega, by omega, by omega⟩ hz3.2.2.2 hmf
          have hbbx := hbbt.trans (hmf.below hbbt.size (fun b hb => by subst hb; exact hws))
          have hmx := hBx.meas
          go_roundw
          case rel => exact ⟨s1, _, _, wz.heap.size, q1, q2, q3, q4, q5, q6, Aq, cq2, hI1, rfl, rfl, hpq, hkf, by omega, hBx, hbbx⟩
          case measure => rw [hmx, Hms.out]; exact Htt.out
        · have hok : s0.take.1.isSome = false := by rw [ht]; rfl
          rw [hok]
          rw [show s0.take.2 = s0 by rw [ht]] at hB0
          have HF := Lib.hid hfar
          have HM := Lib.hid (fun e => inW_bd (e := e) hI0 (show i + 1 ≤ 60 by omega))
          have HI1 := Lib.hid hI0
          clear ht hq hk hgn hok hms hfar hI0
          go_wp2_with (fail)
          go_loop [15, 16, 17] (fun a b jv => ∃ (J : Nat) (x y : Int), J ≤ 3 ∧ jv = .int .i64 J ∧ a = .int .i64 x ∧ b = .int .i64 y ∧ LM s0.qs x y ∧ -1 ≤ x ∧ x ≤ 3600 ∧ -1 ≤ y ∧ y ≤ 3600) (fun _ _ jv => 3 - (intOf jv).toNat)
          case atStart => exact ⟨0, -1, -1, by omega, rfl, rfl, rfl, .inl ⟨rfl, rfl⟩, by omega, by omega, by omega, by omega⟩
          case round =>
            obtain ⟨J, x, y, hJ, rfl, rfl, rfl, hLM, x0, x1, y0, y1⟩ := hrel
            by_cases hJ3 : J < 3
            · obtain ⟨Aj, cj, _, hcj, hrj, q0, g0⟩ := hB0.wait_at hJ3
              have HW := Lib.hid (fun e (he : e ∈ (wsOf s0.qs).getD J []) => (show InW s0.qs e from ⟨J, hJ3, he⟩))
              have hln : ((wsOf s0.qs).getD J []).length ≤ 60 := by
                have h1 := wait_le HI1.out hJ3
                have h2 := HI1.out.late
                rw [ws_at (by rw [HI1.out.len]; exact hJ3), List.length_map]; omega
              generalize (wsOf s0.qs).getD J [] = li at *
              have hJ3' : (J : Int) < 3 := by omega
              have HLM := Lib.hid hLM
              clear hLM
              go_wp2_with (fail)
              go_loop [15, 16, 18] (fun a b nv => ∃ (N : Nat) (x y : Int), N ≤ li.length ∧ nv = .int .i64 N ∧ a = .int .i64 x ∧ b = .int .i64 y ∧ LM s0.qs x y ∧ -1 ≤ x ∧ x ≤ 3600 ∧ -1 ≤ y ∧ y ≤ 3600) (fun _ _ nv => li.length - (intOf nv).toNat)
              case atStart => exact ⟨0, x, y, by omega, rfl, rfl, rfl, HLM.out, x0, x1, y0, y1⟩
              case round =>
                clear HLM x0 x1 y0 y1
                obtain ⟨N, x, y, hN, rfl, rfl, rfl, hLM, x0, x1, y0, y1⟩ := hrel
                by_cases hNl : N < li.length
                · obtain ⟨ad, rfl, _, z0⟩ := hrj.at_ hNl
                  have hin : InW s0.qs (li.getD N 0) := HW.out _ (by rw [List.getD_eq_getElem?_getD, List.getElem?_eq_getElem hNl, Option.getD_some]; exact List.getElem_mem hNl)
                  have hbd := HM.out _ hin
                  generalize li.getD N 0 = e at *
                  obtain ⟨e0, e1⟩ := hbd
                  by_cases hx : x < 0
                  · have L1 := hLM.both hin
                    by_cases hy : y < e
                    · have HR := Lib.hid L1
                      clear hLM hin L1
                      go_wp2_with (fail)
                      go_round
                      case rel => exact ⟨N + 1, e, e, by omega, by go_num, rfl, rfl, HR.out, by omega, by omega, by omega, by omega⟩
                      case measure => simp [intOf]; omega
                    · have HR := Lib.hid (hLM.snd hin e0 (by omega))
                      clear hLM hin L1
                      go_wp2_with (fail)
                      go_round
                      case rel => exact ⟨N + 1, e, y, by omega, by go_num, rfl, rfl, HR.out, by omega, by omega, by omega, by omega⟩
                      case measure => simp [intOf]; omega
                  · have hx' : 0 ≤ x := by omega
                    by_cases hex : e < x
                    · by_cases hy : y < e
                      · have HR := Lib.hid (hLM.both hin)
                        clear hLM hin
                        go_wp2_with (fail)
                        go_round
                        case rel => exact ⟨N + 1, e, e, by omega, by go_num, rfl, rfl, HR.out, by omega, by omega, by omega, by omega⟩
                        case measure => simp [intOf]; omega
                      · have HR := Lib.hid (hLM.snd hin e0 (by omega))
                        clear hLM hin
                        go_wp2_with (fail)
                        go_round
                        case rel => exact ⟨N + 1, e, y, by omega, by go_num, rfl, rfl, HR.out, by omega, by omega, by omega, by omega⟩
                        case measure => simp [intOf]; omega
                    · have hex' : x ≤ e := by omega
                      by_cases hy : y < e
                      · have HR := Lib.hid (hLM.fst hin hx')
                        clear hLM hin
                        go_wp2_with (fail)
                        go_round
                        case rel => exact ⟨N + 1, x, e, by omega, by go_num, rfl, rfl, HR.out, by omega, by omega, by omega, by omega⟩
                        case measure => simp [intOf]; omega
                      · have HR := Lib.hid hLM
                        clear hLM hin
                        go_wp2_with (fail)
                        go_round
                        case rel => exact ⟨N + 1, x, y, by omega, by go_num, rfl, rfl, HR.out, by omega, by omega, by omega, by omega⟩
                        case measure => simp [intOf]; omega
                · have hNe : N = li.length := by omega
                  subst hNe
                  have HR := Lib.hid hLM
                  clear hLM
                  go_wp2_with (fail)
                  go_round
                  case rel => exact ⟨J + 1, x, y, by omega, by go_num, rfl, rfl, HR.out, by omega, by omega, by omega, by omega⟩
                  case measure => simp [intOf]; omega
            · have hJe : J = 3 := by omega
              subst hJe
              have hd := hLM.far hwb.1 HF.out
              have hd' : decide (m < y - x) = false := decide_eq_false (by omega)
              clear hLM
              go_wp2_with (fail)
              go_roundw
              case rel => exact ⟨i + 1, s0, _, _, by omega, by go_num, HI1.out, hB0, hbb0⟩
              case measure => simp [intOf]; omega
    · have hie : i = 60 := by omega
      subst hie
      clear hI hB hc1
      go_wp2_with (first
        | (go_at_call 15; (with_reducible refine (HK.out _).mono ?_); rintro e w3 ⟨rfl, hb3⟩))
      go_ret
      exact ⟨rfl, below_then hbb hb3⟩
end Go.Proofs.Ytnflhogjonlnmaa.weaveBound
