/- HueBack: the walk. -/
import Derived.Test.YticjiodnolngcaaHueInv
import Derived.Test.YticjiodnolngcaaHueK
import Derived.Test.YticjiodnolngcaaPicBackL
import Derived.Test.YticjiodnolngcaaPicRIs
set_option linter.unusedSimpArgs false
set_option linter.unusedVariables false
namespace Go.Proofs.Yticjiodnolngcaa.hueBack
open Go.RowKit

theorem head {w : World} {base G n C : Nat} {eS e : TypeId} {k : IntKind} {ls : List (List Int)} (h : OwnLL w base eS e k (.slice (some ⟨G, 0, none⟩) n C) ls) : base ≤ G ∧ ∃ cs, Blk w G eS cs := by
  obtain ⟨hs, ho, _⟩ := h
  rcases ho.2 with ⟨hh, _⟩ | ⟨G', _, cs, hv, hb, hcs, _⟩
  · simp at hh
  · simp only [Value.slice.injEq, Option.some.injEq, Addr.mk.injEq, and_true, true_and] at hv
    obtain ⟨rfl, _⟩ := hv
    exact ⟨hb, cs, hcs⟩

set_option maxHeartbeats 8000000 in
set_option maxRecDepth 100000 in
theorem walk (w : World) (A0 : Option Addr) (c0 : Nat) (t : List Int) (ht : ∀ x ∈ t, -9223372036854775808 ≤ x ∧ x ≤ 9223372036854775807) (hc : t.length ≤ c0) (h63 : c0 ≤ 9223372036854775807) (hrt : RdI w w.heap.size .i64 A0 t)
    (dd : Int) (d0 : -9223372036854775808 ≤ dd) (d1 : dd ≤ 9223372036854775807) :
    Calls Try.prog 5 #[.slice A0 t.length c0, .int .i64 dd] w fun e w' => e = .returned (.bool true) ∧ Below w.heap.size w w' := by
  have HK := Lib.hid (fun W => known_any W)
  have HT := Lib.hid (newtape_any A0 t c0 ht hc (by omega) w hrt (Nat.le_refl _))
  have HPic := Lib.hid (fun W (hW : TapeB W w.heap.size w.heap.size) => tapepic_any hW 16 (by omega) (by omega))
  have HD := Lib.hid (fun W => within_any dd 1 16 d0 d1 (by omega) (by omega) (by omega) W)
  have hdi := withinV_in (n := dd) (lo := 1) (hi := 16) (by omega)
  obtain ⟨d, hdn⟩ := Int.eq_ofNat_of_zero_le (show 0 ≤ withinV dd 1 16 by omega)
  rw [hdn] at HD hdi
  clear ht hrt hdn
  obtain ⟨d2, d3⟩ := hdi
  go_enter Try.func5, Try.ntmps5
  go_wp2_with (first
    | (go_at_call 8; go_must (refine HT.out.mono ?_); rintro e w1 ⟨rfl, hT1, hb1⟩)
    | (go_at_call 9; go_must (refine (HPic.out _ hT1).mono ?_); rintro e w2 ⟨W, H, dx, p, A, c, rfl, hB, _, _, ho2, hT2, hg2⟩; have bb2 : Below w.heap.size w w2 := below_only hb1 hg2 hb1.size (Nat.le_refl _))
    | (go_at_call 10; go_must (refine (HD.out _).mono ?_); rintro e w3 ⟨rfl, rfl⟩))
  have hT1l := hT1.lt
  have hsz2 := bb2.size
  have hT2l := hT2.lt
  obtain ⟨b1, b2, b3, b4, b5, b6, b7, b8, b9⟩ := isB_all hB
  have hcdp : 0 < W * H := Nat.mul_pos (by omega) (by omega)
  have hl0 : ∀ l ∈ p, l.length = W * H := fun l hl => (b9 l hl).1
  have ka := Blk.new w2 27 #[.int .i64 (W : Int), .int .i64 (H : Int), .int .i64 (d : Int), .slice A p.length c]
  have ga := only_alloc hg2 (.cells #[.int .i64 (W : Int), .int .i64 (H : Int), .int .i64 (d : Int), .slice A p.length c] 27)
  have Ta := hT2.alloc (.cells #[.int .i64 (W : Int), .int .i64 (H : Int), .int .i64 (d : Int), .slice A p.length c] 27)
  have oa := ho2.below (below_alloc (Below.refl w2.heap.size w2) (.cells #[.int .i64 (W : Int), .int .i64 (H : Int), .int .i64 (d : Int), .slice A p.length c] 27))
  generalize w2.alloc (.cells #[.int .i64 (W : Int), .int .i64 (H : Int), .int .i64 (d : Int), .slice A p.length c] 27) = wa at *
  obtain ⟨G, hA4⟩ : ∃ G, A = some ⟨G, 0, none⟩ := by
    obtain ⟨G, C, g5, c5, hv, _⟩ := OwnLL.at_ oa (j := 0) (by decide) (by omega) (by rw [hl0 _ (mem_getD (by omega))]; exact hcdp)
    simp only [Value.slice.injEq] at hv
    exact ⟨G, hv.1⟩
  subst hA4
  replace hl0 := Lib.hid hl0
  have hw12 : w.heap.size < w1.heap.size := hT1l
  have hb1 := hb1
  clear hT1 hT2 hg2 ho2 b9 hB b5 b6 HT HPic HD
  go_loopw [7] (fun i wr => ∃ (j : Nat) (ls : List (List Int)), j ≤ p.length ∧ i = .int .i64 j ∧ ls.length = p.length ∧ (∀ l ∈ ls, l.length = W * H) ∧ (∀ i, i < j → ∀ v ∈ ls.getD i [], okV d v = true) ∧ w1.grownBy wr (some w.heap.size) ∧ TapeB wr w.heap.size w.heap.size ∧
      Blk wr w2.heap.size 27 #[.int .i64 (W : Int), .int .i64 (H : Int), .int .i64 (d : Int), .slice (some ⟨G, 0, none⟩) p.length c] ∧ OwnLL wr w1.heap.size 22 3 .i64 (.slice (some ⟨G, 0, none⟩) p.length c) ls) (fun i _ => p.length - (intOf i).toNat)
  case atStart => exact ⟨0, _, Nat.zero_le _, rfl, rfl, hl0.out, fun i hi => absurd hi (by omega), ga, Ta, ka, oa⟩
  case round =>
    obtain ⟨j, ls, hj, rfl, hll, hvl, hok, hgr, hTr, hBr, hor⟩ := hrel
    obtain ⟨x0, x1, x2, x3, _⟩ := hBr.four
    by_cases hlt : j < p.length
    · have hvl := Lib.hid hvl
      have hok := Lib.hid hok
      have hszr := hgr.size
      obtain ⟨hGb, cs, hGB⟩ := head hor
      obtain ⟨G', C', gj, cj, hv, hC, hcell, _⟩ := OwnLL.at_ hor (j := j) (by decide) (by omega) (by rw [hvl.out _ (mem_getD (by omega))]; exact hcdp)
      simp only [Value.slice.injEq, Option.some.injEq, Addr.mk.injEq, and_true] at hv
      obtain ⟨rfl, hclr, rfl⟩ := hv
      clear hclr hC
      generalize (ls.getD j []).length = lj at *
      have hfr := hGB.frozen j
      go_wp2
      refine wp_region_last (S := (fun w' => w'.cell? ⟨w2.heap.size, 0, none⟩ = some (.int .i64 W) ∧ w'.cell? ⟨w2.heap.size, 1, none⟩ = some (.int .i64 H) ∧ w'.cell? ⟨w2.heap.size, 2, none⟩ = some (.int .i64 d) ∧ w'.cell? ⟨w2.heap.size, 3, none⟩ = some (.slice (some ⟨G, 0, none⟩) p.length c))) 12 _ (by simp only [List.pop_toArray, List.dropLast_cons_cons, List.dropLast_singleton]; rfl) (by kernel_rfl) (by kernel_rfl) (by kernel_rfl) (by kernel_rfl) (by kernel_rfl) ?_ (fun hHeld => ?_)
      focus exact ⟨x0, x1, x2, x3⟩
      refine wpAnyH_take (i := 0) (v := ?_) rfl (by kernel_rfl) (by kernel_rfl) (by kernel_rfl) (fun _ _ _ h => h) (Or.inl ⟨by rfl, ?_⟩) (by assumption) ?_
      rotate_left
      focus
        intro w9 hSw
        (try dsimp only at hSw)
        go_simp
        (try with_reducible rfl)
      (try simp only [Act.put, List.getElem_toArray, List.getElem_cons_succ, List.getElem_cons_zero, List.setIfInBounds_toArray, List.set_cons_zero, List.set_cons_succ])
      refine wpAnyH_take (i := 1) (v := ?_) rfl (by kernel_rfl) (by kernel_rfl) (by kernel_rfl) (fun _ _ _ h => h) (Or.inl ⟨by rfl, ?_⟩) (by assumption) ?_
      rotate_left
      focus
        intro w9 hSw
        (try dsimp only at hSw)
        go_simp
        (try with_reducible rfl)
      (try simp only [Act.put, List.getElem_toArray, List.getElem_cons_succ, List.getElem_cons_zero, List.setIfInBounds_toArray, List.set_cons_zero, List.set_cons_succ])
      refine wpAnyH_take (i := 2) (v := ?_) rfl (by kernel_rfl) (by kernel_rfl) (by kernel_rfl) (fun _ _ _ h => h) (Or.inl ⟨by rfl, ?_⟩) (by assumption) ?_
      rotate_left
      focus
        intro w9 hSw
        (try dsimp only at hSw)
        go_simp
        (try with_reducible rfl)
      (try simp only [Act.put, List.getElem_toArray, List.getElem_cons_succ, List.getElem_cons_zero, List.setIfInBounds_toArray, List.set_cons_zero, List.set_cons_succ])
      refine wpAnyH_take (i := 3) (v := ?_) rfl (by kernel_rfl) (by kernel_rfl) (by kernel_rfl) (fun _ _ _ h => h) (Or.inl ⟨by rfl, ?_⟩) (by assumption) ?_
      rotate_left
      focus
        intro w9 hSw
        (try dsimp only at hSw)
        go_simp
        (try with_reducible rfl)
      (try simp only [Act.put, List.getElem_toArray, List.getElem_cons_succ, List.getElem_cons_zero, List.setIfInBounds_toArray, List.set_cons_zero, List.set_cons_succ])
      refine wpAnyH_take (i := 4) (v := ?_) rfl (by kernel_rfl) (by kernel_rfl) (by kernel_rfl) (fun _ _ _ h => h) (Or.inl ⟨by rfl, ?_⟩) (by assumption) ?_
      rotate_left
      focus
        intro w9 hSw
        (try dsimp only at hSw)
        go_simp
        (try with_reducible rfl)
      (try simp only [Act.put, List.getElem_toArray, List.getElem_cons_succ, List.getElem_cons_zero, List.setIfInBounds_toArray, List.set_cons_zero, List.set_cons_succ])
      refine wpAnyH_take (i := 5) (v := ?_) rfl (by kernel_rfl) (by kernel_rfl) (by kernel_rfl) (fun _ _ _ h => h) (Or.inl ⟨by rfl, ?_⟩) (by assumption) ?_
      rotate_left
      focus
        intro w9 hSw
        (try dsimp only at hSw)
        go_simp
        (try with_reducible rfl)
      (try simp only [Act.put, List.getElem_toArray, List.getElem_cons_succ, List.getElem_cons_zero, List.setIfInBounds_toArray, List.set_cons_zero, List.set_cons_succ])
      refine wpAnyH_take (i := 6) (v := ?_) rfl (by kernel_rfl) (by kernel_rfl) (by kernel_rfl) (fun _ _ _ h => h) (Or.inl ⟨by rfl, ?_⟩) (by assumption) ?_
      rotate_left
      focus
        intro w9 hSw
        (try dsimp only at hSw)
        go_simp
        (try with_reducible rfl)
      (try simp only [Act.put, List.getElem_toArray, List.getElem_cons_succ, List.getElem_cons_zero, List.setIfInBounds_toArray, List.set_cons_zero, List.set_cons_succ])
      refine wpAnyH_take (i := 7) (v := ?_) rfl (by kernel_rfl) (by kernel_rfl) (by kernel_rfl) (fun _ _ _ h => h) (Or.inl ⟨by rfl, ?_⟩) (by assumption) ?_
      rotate_left
      focus
        intro w9 hSw
        (try dsimp only at hSw)
        go_simp
        (try with_reducible rfl)
      (try simp only [Act.put, List.getElem_toArray, List.getElem_cons_succ, List.getElem_cons_zero, List.setIfInBounds_toArray, List.set_cons_zero, List.set_cons_succ])
      refine wpAnyH_take (i := 8) (v := ?_) rfl (by kernel_rfl) (by kernel_rfl) (by kernel_rfl) (fun _ _ _ h => h) (Or.inl ⟨by rfl, ?_⟩) (by assumption) ?_
      rotate_left
      focus
        intro w9 hSw
        (try dsimp only at hSw)
        go_simp
        (try with_reducible rfl)
      (try simp only [Act.put, List.getElem_toArray, List.getElem_cons_succ, List.getElem_cons_zero, List.setIfInBounds_toArray, List.set_cons_zero, List.set_cons_succ])
      refine wpAnyH_take (i := 9) (v := ?_) rfl (by kernel_rfl) (by kernel_rfl) (by kernel_rfl) (fun _ _ _ h => h) (Or.inl ⟨by rfl, ?_⟩) (by assumption) ?_
      rotate_left
      focus
        intro w9 hSw
        (try dsimp only at hSw)
        go_simp
        (try with_reducible rfl)
      (try simp only [Act.put, List.getElem_toArray, List.getElem_cons_succ, List.getElem_cons_zero, List.setIfInBounds_toArray, List.set_cons_zero, List.set_cons_succ])
      refine wpAnyH_ready (rs := [10]) (by kernel_rfl) (by simp) (AllReadyH.cons rfl (fun K hK => ?_) AllReadyH.nil)
      go_simp
      go_at_call 16
      refine (plane_any (by exact hTr) W H d (by omega) (by omega) (by omega) (by omega) (by omega) (by omega)).mono ?_
      rintro e w6 ⟨A6, c6, l6, rfl, hl6, hok6, hown6, hT6, hg6'⟩
      have hg6 := only_undrew hg6'
      clear hg6'
      replace hl6 := Lib.hid hl6
      replace hok6 := Lib.hid hok6
      have hB6 := hBr.grown hg6 (by simp; omega)
      obtain ⟨z0, z1, z2, z3, _⟩ := hB6.four
      have hG6 := hGB.grown hg6 (by simp; omega)
      have hcell6 : w6.cell? ⟨G, j, none⟩ = some (.slice (some ⟨gj, 0, none⟩) lj cj) := by
        rw [hG6.cell j, ← hGB.cell j]
        exact hcell
      have hfr6 := hG6.frozen j
      refine hK.out _ _ ?_ (fun hHeld => ?_)
      focus
       (try dsimp only)
       first | (simp [*, World.cell?_alloc_some, World.cell?_setCell_far, add_block]; done) | go_keep
      clear hK K
      refine wpAnyH_take (i := 11) (v := ?_) rfl (by kernel_rfl) (by kernel_rfl) (by kernel_rfl) (fun _ _ _ h => h) (Or.inl ⟨by rfl, ?_⟩) (by assumption) ?_
      rotate_left
      focus
        intro w9 hSw
        (try dsimp only at hSw)
        go_simp
        (try with_reducible rfl)
      (try simp only [Act.put, List.getElem_toArray, List.getElem_cons_succ, List.getElem_cons_zero, List.setIfInBounds_toArray, List.set_cons_zero, List.set_cons_succ])
      refine wpAnyH_done (by kernel_rfl) (lastQ_step rfl (fun K hK => ?_)) _
      go_simp
      refine hK _ _ ?_
      clear hK K
      have hlo6 : ∀ ad, A6 = some ad → wr.heap.size ≤ ad.block := hown6.lo
      have hput := OwnLL.put hor (by decide) hg6 (.inl (by omega)) (i := j) (by omega) (hown6.base_ (by exact hszr)) hlo6
      have hgw := only_setCell (only_trans hgr hg6) (p := ⟨G, j, none⟩) (.inr hGb) (.slice A6 l6.length c6)
      have hT7 := hT6.far (a := ⟨G, j, none⟩) (show w.heap.size ≤ G by omega) (show w.heap.size ≠ G by omega) (.slice A6 l6.length c6)
      have hfar : ∀ {gx : Nat} {cs' : Array Value}, Blk w6 gx 27 cs' → Blk (w6.setCell ⟨G, j, none⟩ (.slice A6 l6.length c6)) gx 27 cs' := fun hx => hx.far (fun e => by
        subst e
        have := hG6.symm.trans hx
        simp at this) _
      go_wp2
      go_roundw
      case rel =>
        refine ⟨j + 1, _, by omega, by go_num, by rw [List.length_set]; exact hll, fun l hl => ?_, fun i hi v hv => ?_, hgw, hT7, hfar hB6, hput⟩
        · rcases List.mem_or_eq_of_mem_set hl with hl | rfl
          · exact hvl.out l hl
          · exact hl6.out
        · rw [getD_set (by omega)] at hv
          by_cases hij : i = j
          · rw [if_pos hij] at hv
            exact hok6.out v hv
          · rw [if_neg hij] at hv
            exact hok.out i (by omega) v hv
      case measure => simp [intOf]; omega
    · have hjl : j = p.length := by omega
      subst hjl
      have hBb : isB ⟨(W : Int), (H : Int), (d : Int), ls⟩ = true := isB_mk b1 b2 b3 b4 d2 d3 (by omega) (by omega) (fun l hl => ⟨hvl l hl, by
        obtain ⟨i, hi, rfl⟩ := List.getElem_of_mem hl
        intro v hv
        refine hok i (by omega) v ?_
        simpa [List.getD, hi] using hv⟩)
      have hbw : Below w.heap.size w wr := below_only hb1 hgr hb1.size (Nat.le_refl _)
      have hr0 := rdOwn hor (Below.refl _ _)
      have hd : 1 ≤ (d : Int) ∧ (d : Int) ≤ 16 := ⟨d2, d3⟩
      have HFo : ∀ (k : Int) (W' : World) (A' : Option Addr) (c' : Nat), mayB p.length k = true → RdLL W' W'.heap.size .i64 A' ls → Calls Try.prog 11 #[.agg #[.int .i64 (W : Int), .int .i64 (H : Int), .int .i64 (d : Int), .slice A' p.length c'], .int .i64 k] W' fun e w' => ∃ A2 c2, e = .returned (.tuple #[.agg #[.int .i64 (W : Int), .int .i64 (H : Int), .int .i64 (d : Int), .slice A2 p.length c2], .int .i64 0]) ∧ OwnLL w' W'.heap.size 22 3 .i64 (.slice A2 p.length c2) (hueLL (foreC k d) ls (W * H)) ∧ Below W'.heap.size W' w' := fun k W' A' c' hm hr => by
        have h := huefore_yes (c := c') hr (Nat.le_refl _) hBb k (by rw [hll]; exact hm)
        rw [hll] at h
        exact h
      have HBa : ∀ (k : Int) (W' : World) (A' : Option Addr) (c' : Nat), mayB p.length k = true → RdLL W' W'.heap.size .i64 A' ls → Calls Try.prog 18 #[.agg #[.int .i64 (W : Int), .int .i64 (H : Int), .int .i64 (d : Int), .slice A' p.length c'], .int .i64 k] W' fun e w' => ∃ A2 c2, e = .returned (.tuple #[.agg #[.int .i64 (W : Int), .int .i64 (H : Int), .int .i64 (d : Int), .slice A2 p.length c2], .int .i64 0]) ∧ OwnLL w' W'.heap.size 22 3 .i64 (.slice A2 p.length c2) (hueLL (backC k d) ls (W * H)) ∧ Below W'.heap.size W' w' := fun k W' A' c' hm hr => by
        have h := hueback_yes (c := c') hr (Nat.le_refl _) hBb k (by rw [hll]; exact hm)
        rw [hll] at h
        exact h
      have HBF : ∀ (k : Int) (W' : World) (A' : Option Addr) (c' : Nat), mayB p.length k = true → RdLL W' W'.heap.size .i64 A' (hueLL (foreC k d) ls (W * H)) → Calls Try.prog 18 #[.agg #[.int .i64 (W : Int), .int .i64 (H : Int), .int .i64 (d : Int), .slice A' p.length c'], .int .i64 k] W' fun e w' => ∃ A2 c2, e = .returned (.tuple #[.agg #[.int .i64 (W : Int), .int .i64 (H : Int), .int .i64 (d : Int), .slice A2 p.length c2], .int .i64 0]) ∧ OwnLL w' W'.heap.size 22 3 .i64 (.slice A2 p.length c2) ls ∧ Below W'.heap.size W' w' := fun k W' A' c' hm hr => by
        have h := hueback_yes (c := c') hr (Nat.le_refl _) (hueLL_isB hBb (fun x hx => foreC_ok hd k hx)) k (by rw [hueLL_length, hll]; exact hm)
        rw [hue_bf hBb (by rw [hll]; exact hm), hueLL_length, hll] at h
        exact h
      have HFB : ∀ (k : Int) (W' : World) (A' : Option Addr) (c' : Nat), mayB p.length k = true → RdLL W' W'.heap.size .i64 A' (hueLL (backC k d) ls (W * H)) → Calls Try.prog 11 #[.agg #[.int .i64 (W : Int), .int .i64 (H : Int), .int .i64 (d : Int), .slice A' p.length c'], .int .i64 k] W' fun e w' => ∃ A2 c2, e = .returned (.tuple #[.agg #[.int .i64 (W : Int), .int .i64 (H : Int), .int .i64 (d : Int), .slice A2 p.length c2], .int .i64 0]) ∧ OwnLL w' W'.heap.size 22 3 .i64 (.slice A2 p.length c2) ls ∧ Below W'.heap.size W' w' := fun k W' A' c' hm hr => by
        have h := huefore_yes (c := c') hr (Nat.le_refl _) (hueLL_isB hBb (fun x hx => backC_ok hd k hx)) k (by rw [hueLL_length, hll]; exact hm)
        rw [hue_fb hBb (by rw [hll]; exact hm), hueLL_length, hll] at h
        exact h
      have hs63 : Len63 ls := small_63 (isB_small hBb)
      have HSa := fun (W' : World) (A' A2 : Option Addr) (c' c2 : Nat) (hr : RdLL W' W'.heap.size .i64 A' ls) (hr2 : RdLL W' W'.heap.size .i64 A2 ls) => same_any (a := ⟨(W : Int), (H : Int), (d : Int), ls⟩) (b := ⟨(W : Int), (H : Int), (d : Int), ls⟩) (c := c') (c2 := c2) hr hr2 (Nat.le_refl _) hs63
      rw [show sameB ⟨(W : Int), (H : Int), (d : Int), ls⟩ ⟨(W : Int), (H : Int), (d : Int), ls⟩ = true by simp [sameB]] at HSa
      simp only [hll] at HSa
      have HIs : ∀ (k : Int) (W' : World) (A' : Option Addr) (c' : Nat), RdLL W' W'.heap.size .i64 A' (hueLL (foreC k d) ls (W * H)) → Calls Try.prog 20 #[.agg #[.int .i64 (W : Int), .int .i64 (H : Int), .int .i64 (d : Int), .slice A' p.length c']] W' fun e w' => e = .returned (.bool true) ∧ Below W'.heap.size W' w' := fun k W' A' c' hr => by
        have hi := hueLL_isB hBb (fun x hx => foreC_ok hd k hx)
        have h := picis_any (q := ⟨(W : Int), (H : Int), (d : Int), hueLL (foreC k d) ls (W * H)⟩) (c := c') hr (Nat.le_refl _) (small_63 (isB_small hi))
        simp only [hueLL_length, hll] at h
        rw [hi] at h
        exact h
      generalize W * H = N at *
      replace HFo := Lib.hid HFo
      replace HBa := Lib.hid HBa
      replace HBF := Lib.hid HBF
      replace HFB := Lib.hid HFB
      replace HSa := Lib.hid HSa
      replace HIs := Lib.hid HIs
      clear hok hvl hBb hll hs63 hT1l hw12 hcdp hl0 hTr x0 x1 x2 x3
      have hjn : ¬ ((p.length : Nat) : Int) < (p.length : Int) := by omega
      obtain ⟨x0, x1, x2, x3, _⟩ := hBr.four
      go_wp2
      clear x0 x1 x2 x3 hjn
      obtain ⟨wo, hwo⟩ : ∃ wo, wo = wr := ⟨_, rfl⟩
      subst hwo
      go_loopw [8] (fun i wr => ∃ k : Nat, k ≤ 5 ∧ i = .int .i64 k ∧ Below w.heap.size w wr ∧ Blk wr w2.heap.size 27 #[.int .i64 (W : Int), .int .i64 (H : Int), .int .i64 (d : Int), .slice (some ⟨G, 0, none⟩) p.length c] ∧ RdLL wr wr.heap.size .i64 (some ⟨G, 0, none⟩) ls) (fun i _ => 5 - (intOf i).toNat)
      case atStart => exact ⟨0, by omega, rfl, hbw, hBr, hr0⟩
      case round =>
        obtain ⟨k, hk, rfl, hbk, hBk, hrk⟩ := hrel
        obtain ⟨x0, x1, x2, x3, _⟩ := hBk.four
        by_cases hk5 : k < 5
        · have hk6 : (k : Int) ≤ 4 := by omega
          cases hm : mayB p.length k
          · have HM := Lib.hid (may_is hm)
            clear hm
            go_wp2_with (first
              | (go_at_call 17; go_must (refine (HM.out _).mono ?_); rintro e v1 ⟨rfl, rfl⟩))
            go_roundw
            case rel => exact ⟨k + 1, by omega, by go_num, hbk, hBk, hrk⟩
            case measure => simp [intOf]; omega
          · have HM := Lib.hid (may_is hm)
            have HF1 := Lib.hid (fun W' A' c' hr => HFo.out k W' A' c' hm hr)
            have HB1 := Lib.hid (fun W' A' c' hr => HBF.out k W' A' c' hm hr)
            have HB2 := Lib.hid (fun W' A' c' hr => HBa.out k W' A' c' hm hr)
            have HF2 := Lib.hid (fun W' A' c' hr => HFB.out k W' A' c' hm hr)
            have HI1 := Lib.hid (HIs.out k)
            generalize hueLL (foreC (k : Int) d) ls N = fs at *
            generalize hueLL (backC (k : Int) d) ls N = bs at *
            clear hm
            go_wp2_with (first
              | (go_at_call 17; go_must (refine (HM.out _).mono ?_); rintro e v1 ⟨rfl, rfl⟩)
              | (go_at_call 11; (with_reducible refine (HF1.out _ _ _ hrk).mono ?_); rintro e v2 ⟨A2, c2, rfl, ho2, hv2⟩; have k2 := hBk.below hv2 hBk.lt; have ra := rdOwn ho2 (below_alloc (Below.refl _ _) (.cells #[.int .i64 (W : Int), .int .i64 (H : Int), .int .i64 (d : Int), .slice A2 p.length c2] 27)); have yy2 := below_then hv2 (below_alloc (Below.refl _ _) (.cells #[.int .i64 (W : Int), .int .i64 (H : Int), .int .i64 (d : Int), .slice A2 p.length c2] 27)); have kk2 := (Blk.new v2 27 #[.int .i64 (W : Int), .int .i64 (H : Int), .int .i64 (d : Int), .slice A2 p.length c2]))
              | (go_at_call 18; (with_reducible refine (HB1.out _ _ _ ra).mono ?_); rintro e v3 ⟨A3, c3, rfl, ho3, hv3⟩; have kp3 := (k2.alloc (.cells #[.int .i64 (W : Int), .int .i64 (H : Int), .int .i64 (d : Int), .slice A2 p.length c2] 27)).below hv3 (Nat.lt_of_lt_of_le k2.lt (by simp)); have ka3 := kk2.below hv3 (by simp); clear x0 x1 x2 x3; obtain ⟨x0, x1, x2, x3, _⟩ := (kp3.alloc (.cells #[.int .i64 (W : Int), .int .i64 (H : Int), .int .i64 (d : Int), .slice A3 p.length c3] 27)).four; have yy3 := below_then yy2 (below_then hv3 (below_alloc (Below.refl _ _) (.cells #[.int .i64 (W : Int), .int .i64 (H : Int), .int .i64 (d : Int), .slice A3 p.length c3] 27))); have rp3 := hrk.to (Nat.le_refl _) yy3)
              | (go_at_call 18; (with_reducible refine (HB2.out _ _ _ rp3).mono ?_); rintro e v4 ⟨A4, c4, rfl, ho4, hv4⟩; have kb4 := (Blk.new v3 27 #[.int .i64 (W : Int), .int .i64 (H : Int), .int .i64 (d : Int), .slice A3 p.length c3]).below hv4 (by simp); have rc := rdOwn ho4 (below_alloc (Below.refl _ _) (.cells #[.int .i64 (W : Int), .int .i64 (H : Int), .int .i64 (d : Int), .slice A4 p.length c4] 27)))
              | (go_at_call 11; (with_reducible refine (HF2.out _ _ _ rc).mono ?_); rintro e v5 ⟨A5, c5, rfl, ho5, hv5⟩; have zz := below_then hv4 (below_then (below_alloc (Below.refl _ _) (.cells #[.int .i64 (W : Int), .int .i64 (H : Int), .int .i64 (d : Int), .slice A4 p.length c4] 27)) (below_then hv5 (below_alloc (Below.refl _ _) (.cells #[.int .i64 (W : Int), .int .i64 (H : Int), .int .i64 (d : Int), .slice A5 p.length c5] 27)))); have kp5 := (kp3.alloc (.cells #[.int .i64 (W : Int), .int .i64 (H : Int), .int .i64 (d : Int), .slice A3 p.length c3] 27)).below zz (Nat.lt_of_lt_of_le kp3.lt (by simp)); have ka5 := (ka3.alloc (.cells #[.int .i64 (W : Int), .int .i64 (H : Int), .int .i64 (d : Int), .slice A3 p.length c3] 27)).below zz (Nat.lt_of_lt_of_le ka3.lt (by simp)); have kb5 := (Blk.new v3 27 #[.int .i64 (W : Int), .int .i64 (H : Int), .int .i64 (d : Int), .slice A3 p.length c3]).below zz (by simp); have kd5 := Blk.new v5 27 #[.int .i64 (W : Int), .int .i64 (H : Int), .int .i64 (d : Int), .slice A5 p.length c5]; have zy := below_then yy3 zz; have ra5 := ra.to (Nat.le_refl _) (below_then (below_then hv3 (below_alloc (Below.refl _ _) (.cells #[.int .i64 (W : Int), .int .i64 (H : Int), .int .i64 (d : Int), .slice A3 p.length c3] 27))) zz); have rb5 := rdOwn ho3 (below_then (below_alloc (Below.refl _ _) (.cells #[.int .i64 (W : Int), .int .i64 (H : Int), .int .i64 (d : Int), .slice A3 p.length c3] 27)) zz); have rp5 := rp3.to (Nat.le_refl _) zz; have rd5 := rdOwn ho5 (below_alloc (Below.refl _ _) (.cells #[.int .i64 (W : Int), .int .i64 (H : Int), .int .i64 (d : Int), .slice A5 p.length c5] 27)); clear x0 x1 x2 x3; obtain ⟨x0, x1, x2, x3, _⟩ := kp5.four; obtain ⟨y0, y1, y2, y3, _⟩ := kb5.four)
              | (go_at_call 19; (with_reducible refine (HSa.out _ _ _ _ _ rb5 rp5).mono ?_); rintro e v6 ⟨rfl, hv6⟩; have kp6 := kp5.below hv6 kp5.lt; have kd6 := kd5.below hv6 kd5.lt; clear x0 x1 x2 x3 y0 y1 y2 y3; obtain ⟨x0, x1, x2, x3, _⟩ := kp6.four; obtain ⟨y0, y1, y2, y3, _⟩ := kd6.four; have rp6 := rp5.to (Nat.le_refl _) hv6; have rd6 := rd5.to (Nat.le_refl _) hv6)
              | (go_at_call 19; (with_reducible refine (HSa.out _ _ _ _ _ rd6 rp6).mono ?_); rintro e v7 ⟨rfl, hv7⟩; have ka7 := ka5.below (below_then hv6 hv7) ka5.lt; clear x0 x1 x2 x3 y0 y1 y2 y3; obtain ⟨x0, x1, x2, x3, _⟩ := ka7.four; have ra7 := ra5.to (Nat.le_refl _) (below_then hv6 hv7))
              | (go_at_call 20; (with_reducible refine (HI1.out _ _ _ ra7).mono ?_); rintro e v8 ⟨rfl, hv8⟩))
            have zend := below_then zy (below_then (below_then hv6 hv7) hv8)
            have kend := kp5.below (below_then (below_then hv6 hv7) hv8) kp5.lt
            have rend := rp5.to (Nat.le_refl _) (below_then (below_then hv6 hv7) hv8)
            have bend := hbk.trans (zend.mono hbk.size)
            go_roundw
            case rel => exact ⟨k + 1, by omega, by go_num, bend, kend, rend⟩
            case measure => simp [intOf]; omega
        · obtain rfl : k = 5 := by omega
          go_wp2_with (first
            | (go_at_call 13; go_must (refine (HK.out _).mono ?_); rintro e w9 ⟨rfl, hb9⟩))
          go_ret
          exact ⟨rfl, below_then hbk hb9⟩
end Go.Proofs.Yticjiodnolngcaa.hueBack
