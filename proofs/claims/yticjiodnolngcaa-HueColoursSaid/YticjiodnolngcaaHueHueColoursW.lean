/- HueColours: the walk. -/
import Derived.Test.YticjiodnolngcaaHueK
import Derived.Test.YticjiodnolngcaaPicTape
set_option linter.unusedSimpArgs false
set_option linter.unusedVariables false
namespace Go.Proofs.Yticjiodnolngcaa.hueColours
open Go.RowKit

theorem may4 {k : Nat} (h : k ≤ 4) : mayB 4 (k : Int) = true := by
  rcases (show k = 0 ∨ k = 1 ∨ k = 2 ∨ k = 3 ∨ k = 4 by omega) with rfl | rfl | rfl | rfl | rfl <;> decide
theorem ptAt {w : World} {B : Nat} {A : Option Addr} {l : List Int} (h : RdLL w B .i64 A (ptLL l)) {j : Nat} (hj : j < l.length) :
    ∃ ad a c, A = some ad ∧ ad.block < B ∧ w.cell? (ad.add j) = some (.slice (some a) 1 c) ∧ w.cell? a = some (.int .i64 (l.getD j 0)) := by
  have e : (ptLL l).getD j [] = [l.getD j 0] := by simp [ptLL, List.getD, hj]
  obtain ⟨ad, Aj, cj, h1, h2, h3, _, h5⟩ := h j (by rw [ptLL_length]; exact hj)
  rw [e] at h3 h5
  obtain ⟨a, h6, _, h7⟩ := h5.at_ (j := 0) (by simp)
  subst h6
  refine ⟨ad, a, cj, h1, h2, h3, ?_⟩
  have h8 : a.add 0 = a := by simp [Addr.add]
  rw [h8] at h7
  exact h7
theorem c4L_four {a b c e : Int} : c4L [a, b, c, e] = ⟨a, b, c, e⟩ := rfl
theorem ptF_four (f : C4 → C4) (a b c e : Int) : ptF f [a, b, c, e] = [(f ⟨a, b, c, e⟩).a, (f ⟨a, b, c, e⟩).b, (f ⟨a, b, c, e⟩).c, (f ⟨a, b, c, e⟩).e] := rfl
theorem foreC_e {k d : Int} (h : k ≠ 4) (x : C4) : (foreC k d x).e = x.e := by
  unfold foreC
  split
  · rfl
  · split
    · rfl
    · split
      · rfl
      · first | rfl | (rw [if_neg h])

set_option maxHeartbeats 8000000 in
set_option maxRecDepth 100000 in
theorem walk (w : World) (r : Int) (r0 : -9223372036854775808 ≤ r) (r1 : r ≤ 9223372036854775807) (g : Int) (g0 : -9223372036854775808 ≤ g) (g1 : g ≤ 9223372036854775807) (b : Int) (b0 : -9223372036854775808 ≤ b) (b1 : b ≤ 9223372036854775807)
    (a : Int) (a0 : -9223372036854775808 ≤ a) (a1 : a ≤ 9223372036854775807) (dd : Int) (d0 : -9223372036854775808 ≤ dd) (d1 : dd ≤ 9223372036854775807) :
    Calls Try.prog 6 #[.int .i64 r, .int .i64 g, .int .i64 b, .int .i64 a, .int .i64 dd] w fun e w' => e = .returned (.bool true) ∧ Below w.heap.size w w' := by
  have HK := Lib.hid (fun W => known_any W)
  have HD := Lib.hid (fun W => within_any dd 1 16 d0 d1 (by omega) (by omega) (by omega) W)
  have hdi := withinV_in (n := dd) (lo := 1) (hi := 16) (by omega)
  obtain ⟨dn, hdn⟩ := Int.eq_ofNat_of_zero_le (show 0 ≤ withinV dd 1 16 by omega)
  rw [hdn] at HD hdi
  clear hdn
  have hd : 1 ≤ (dn : Int) ∧ (dn : Int) ≤ 16 := hdi
  have HW := Lib.hid (fun v W => wrapref_any v (dn : Int) W)
  have R1 := Lib.hid (wrapP_range hd r)
  have R2 := Lib.hid (wrapP_range hd g)
  have R3 := Lib.hid (wrapP_range hd b)
  have R4 := Lib.hid (wrapP_range hd a)
  have HW1 := Lib.hid (fun W => HW.out r W)
  have HW2 := Lib.hid (fun W => HW.out g W)
  have HW3 := Lib.hid (fun W => HW.out b W)
  have HW4 := Lib.hid (fun W => HW.out a W)
  generalize wrapP r dn = u1 at *
  generalize wrapP g dn = u2 at *
  generalize wrapP b dn = u3 at *
  generalize wrapP a dn = u4 at *
  simp only [Int.toNat_natCast] at R1 R2 R3 R4
  have hx : C4.ok ⟨u1, u2, u3, u4⟩ dn := ⟨R1.out, R2.out, R3.out, R4.out⟩
  have HP : ∀ (W : World) (g : Nat), g = W.heap.size → Calls Try.prog 21 #[.int .i64 (dn : Int), .slice (some ⟨g, 0, none⟩) 4 4] (W.alloc (.cells #[.int .i64 u1, .int .i64 u2, .int .i64 u3, .int .i64 u4] 3)) fun e w' => ∃ A' c', e = .returned (.agg #[.int .i64 1, .int .i64 1, .int .i64 (dn : Int), .slice A' 4 c']) ∧ OwnLL w' (W.alloc (.cells #[.int .i64 u1, .int .i64 u2, .int .i64 u3, .int .i64 u4] 3)).heap.size 22 3 .i64 (.slice A' 4 c') (ptLL [u1, u2, u3, u4]) ∧ Below (W.alloc (.cells #[.int .i64 u1, .int .i64 u2, .int .i64 u3, .int .i64 u4] 3)).heap.size (W.alloc (.cells #[.int .i64 u1, .int .i64 u2, .int .i64 u3, .int .i64 u4] 3)) w' := fun W g hg => hg ▸ point_any (RdI.lit W .i64 [u1, u2, u3, u4] 3 #[.int .i64 u1, .int .i64 u2, .int .i64 u3, .int .i64 u4] rfl) (by simp) (by simp) dn
  have hv1 : ∀ v ∈ ([u1, u2, u3, u4] : List Int), 0 ≤ v ∧ v < 2 ^ dn := by
    intro v hv
    simp only [List.mem_cons, List.not_mem_nil, or_false] at hv
    rcases hv with rfl | rfl | rfl | rfl
    · exact R1.out
    · exact R2.out
    · exact R3.out
    · exact R4.out
  have HFo : ∀ (k : Nat), k ≤ 4 → ∀ (W : World) (A : Option Addr) (c : Nat), RdLL W W.heap.size .i64 A (ptLL [u1, u2, u3, u4]) → Calls Try.prog 11 #[.agg #[.int .i64 1, .int .i64 1, .int .i64 (dn : Int), .slice A 4 c], .int .i64 (k : Int)] W fun e w' => ∃ A' c', e = .returned (.tuple #[.agg #[.int .i64 1, .int .i64 1, .int .i64 (dn : Int), .slice A' 4 c'], .int .i64 0]) ∧
      OwnLL w' W.heap.size 22 3 .i64 (.slice A' 4 c') (ptLL (ptF (foreC k dn) [u1, u2, u3, u4])) ∧ Below W.heap.size W w' := fun k hk W A c hr => forept_any (l := [u1, u2, u3, u4]) hr (Nat.le_refl _) (by simp) (by simp) (by omega) hv1 k (may4 hk)
  have HBa : ∀ (k : Nat), k ≤ 4 → ∀ (W : World) (A : Option Addr) (c : Nat), RdLL W W.heap.size .i64 A (ptLL (ptF (foreC k dn) [u1, u2, u3, u4])) → Calls Try.prog 18 #[.agg #[.int .i64 1, .int .i64 1, .int .i64 (dn : Int), .slice A 4 c], .int .i64 (k : Int)] W fun e w' => ∃ A' c', e = .returned (.tuple #[.agg #[.int .i64 1, .int .i64 1, .int .i64 (dn : Int), .slice A' 4 c'], .int .i64 0]) ∧
      OwnLL w' W.heap.size 22 3 .i64 (.slice A' 4 c') (ptLL [u1, u2, u3, u4]) ∧ Below W.heap.size W w' := fun k hk W A c hr => by
    have hy := foreC_ok hd (k : Int) hx
    have h := backpt_any (l := ptF (foreC k dn) [u1, u2, u3, u4]) (d := dn) (c := c) hr (Nat.le_refl _) (by rw [ptF_length]; simp) (by rw [ptF_length]; simp) (by omega) (by
      intro v hv
      rw [ptF_four] at hv
      obtain ⟨y1, y2, y3, y4⟩ := hy
      simp only [List.mem_cons, List.not_mem_nil, or_false] at hv
      simp only [Int.toNat_natCast] at y1 y2 y3 y4
      rcases hv with rfl | rfl | rfl | rfl <;> assumption) k (by rw [ptF_length]; exact may4 hk)
    have e : ptF (backC k dn) (ptF (foreC k dn) [u1, u2, u3, u4]) = [u1, u2, u3, u4] := by
      rw [ptF_four (foreC k dn), ptF_four (backC k dn)]
      rw [show (⟨(foreC k dn ⟨u1, u2, u3, u4⟩).a, (foreC k dn ⟨u1, u2, u3, u4⟩).b, (foreC k dn ⟨u1, u2, u3, u4⟩).c, (foreC k dn ⟨u1, u2, u3, u4⟩).e⟩ : C4) = foreC k dn ⟨u1, u2, u3, u4⟩ from rfl, back_fore hd (k : Int) hx]
    rw [e, ptF_length] at h
    exact h
  have HE : ∀ (k : Nat), k < 4 → (ptF (foreC k dn) [u1, u2, u3, u4]).getD 3 0 = u4 := fun k hk => by
    rw [ptF_four]
    exact foreC_e (k := k) (by omega) _
  have HS := fun (W : World) (A A2 : Option Addr) (c c2 : Nat) (hr : RdLL W W.heap.size .i64 A (ptLL [u1, u2, u3, u4])) (hr2 : RdLL W W.heap.size .i64 A2 (ptLL [u1, u2, u3, u4])) => samept_any (l := [u1, u2, u3, u4]) (c := c) (c2 := c2) dn (by simp) hr hr2 (Nat.le_refl _)
  simp only [show ([u1, u2, u3, u4] : List Int).length = 4 from rfl] at HS
  have HLF : ∀ k : Nat, (ptF (foreC k dn) [u1, u2, u3, u4]).length = 4 := fun k => ptF_length _ _
  generalize hl : ([u1, u2, u3, u4] : List Int) = l at *
  have h3 : l.getD 3 0 = u4 := by rw [← hl]; rfl
  have hl4 : l.length = 4 := by rw [← hl]; rfl
  have H3 := Lib.hid h3
  have HL4 := Lib.hid hl4
  replace HP := Lib.hid HP
  replace HFo := Lib.hid HFo
  replace HBa := Lib.hid HBa
  replace HE := Lib.hid HE
  replace HS := Lib.hid HS
  replace HLF := Lib.hid HLF
  obtain ⟨d2, d3⟩ := hd
  clear h3 hl4 hv1 hx HW R1 R2 R3 R4 hl hdi
  go_enter Try.func6, Try.ntmps6
  go_wp2_with (first
    | (go_at_call 10; go_must (refine (HD.out _).mono ?_); rintro e w1 ⟨rfl, rfl⟩)
    | (go_at_call 22; (with_reducible refine (HW1.out _).mono ?_); rintro e w1 ⟨rfl, rfl⟩)
    | (go_at_call 22; (with_reducible refine (HW2.out _).mono ?_); rintro e w1 ⟨rfl, rfl⟩)
    | (go_at_call 22; (with_reducible refine (HW3.out _).mono ?_); rintro e w1 ⟨rfl, rfl⟩)
    | (go_at_call 22; (with_reducible refine (HW4.out _).mono ?_); rintro e w1 ⟨rfl, rfl⟩)
    | (go_at_call 21; go_must (refine (HP.out _ _ (by simp)).mono ?_); rintro e w2 ⟨A2, c2, rfl, ho2, hb2⟩; have bb2 := below_then (below_alloc (Below.refl _ _) _) hb2))
  have k0 := Blk.new w2 27 #[.int .i64 1, .int .i64 1, .int .i64 (dn : Int), .slice A2 4 c2]
  have r2 := rdOwn ho2 (below_alloc (Below.refl w2.heap.size w2) (.cells #[.int .i64 1, .int .i64 1, .int .i64 (dn : Int), .slice A2 4 c2] 27))
  have bb := below_then bb2 (below_alloc (Below.refl w2.heap.size w2) (.cells #[.int .i64 1, .int .i64 1, .int .i64 (dn : Int), .slice A2 4 c2] 27))
  generalize w2.alloc (.cells #[.int .i64 1, .int .i64 1, .int .i64 (dn : Int), .slice A2 4 c2] 27) = wa at *
  clear ho2 hb2 bb2 HP HD HW1 HW2 HW3 HW4
  go_loopw [13] (fun i wr => ∃ k : Nat, k ≤ 5 ∧ i = .int .i64 k ∧ Below w.heap.size w wr ∧ Blk wr w2.heap.size 27 #[.int .i64 1, .int .i64 1, .int .i64 (dn : Int), .slice A2 4 c2] ∧ RdLL wr wr.heap.size .i64 A2 (ptLL l)) (fun i _ => 5 - (intOf i).toNat)
  case atStart => exact ⟨0, by omega, rfl, bb, k0, r2⟩
  case round =>
    obtain ⟨k, hk, rfl, hbr, hkr, hr0⟩ := hrel
    obtain ⟨x0, x1, x2, x3, _⟩ := hkr.four
    rcases (show k < 4 ∨ k = 4 ∨ k = 5 by omega) with hk4 | rfl | rfl
    · have hk5 : (k : Int) < 4 := by omega
      have hk6 : (k : Int) ≤ 4 := by omega
      go_wp2_with (first
        | (go_at_call 11; (with_reducible refine (HFo.out k (by omega) _ _ _ hr0).mono ?_); rintro e w3 ⟨A3, c3, rfl, ho3, hb3⟩; have hb3 := hb3)
        | (go_at_call 18; (with_reducible refine (HBa.out k (by omega) _ _ _ (rdOwn ho3 (below_alloc (Below.refl _ _) _))).mono ?_); rintro e w4 ⟨A4, c4, rfl, ho4, hb4⟩))
      have y3 := below_then (below_alloc (Below.refl w3.heap.size w3) (.cells #[.int .i64 1, .int .i64 1, .int .i64 (dn : Int), .slice A3 4 c3] 27)) hb4
      have y4 := below_alloc (Below.refl w4.heap.size w4) (.cells #[.int .i64 1, .int .i64 1, .int .i64 (dn : Int), .slice A4 4 c4] 27)
      have y34 := below_then y3 y4
      have yr := below_then hb3 y34
      have k2 := hkr.below yr hkr.lt
      have k3 := (Blk.new w3 27 #[.int .i64 1, .int .i64 1, .int .i64 (dn : Int), .slice A3 4 c3]).below (below_then hb4 y4) (by simp)
      have k4 := Blk.new w4 27 #[.int .i64 1, .int .i64 1, .int .i64 (dn : Int), .slice A4 4 c4]
      have r2 := hr0.to (Nat.le_refl _) yr
      have r3 := rdOwn ho3 y34
      have r4 := rdOwn ho4 y4
      have bbw := hbr.trans (yr.mono hbr.size)
      generalize w4.alloc (.cells #[.int .i64 1, .int .i64 1, .int .i64 (dn : Int), .slice A4 4 c4] 27) = ws at *
      obtain ⟨x0, x1, x2, x3, _⟩ := k2.four
      obtain ⟨z0', z1', z2', z3', _⟩ := k3.four
      obtain ⟨y0, y1', y2', y3', _⟩ := k4.four
      obtain ⟨ad, el, ec, hA2, _, hc1, hc2⟩ := ptAt r2 (j := 3) (by rw [HL4.out]; omega)
      obtain ⟨ad3, el3, ec3, hA3, _, hd1, hd2⟩ := ptAt r3 (j := 3) (by rw [ptF_length, HL4.out]; omega)
      rw [H3.out] at hc2
      rw [HE.out k hk4] at hd2
      have hc3 : ws.cell? ⟨ad.block, ad.off + 3, none⟩ = some (.slice (some el) 1 ec) := hc1
      have hd3 : ws.cell? ⟨ad3.block, ad3.off + 3, none⟩ = some (.slice (some el3) 1 ec3) := hd1
      subst hA2 hA3
      have HSx := Lib.hid (fun W' (hb : Below ws.heap.size ws W') => HS.out W' A4 (some ad) c4 c2 (r4.to (Nat.le_refl _) hb) (r2.to (Nat.le_refl _) hb))
      have zc : (fun (x : World) => x.cell? el) = (fun x => x.cell? el) := rfl
      have kp2 := k2
      have rp2 := r2
      clear zc k2 k3 k4 r2 r3 r4 ho3 ho4 hb3 hb4 y3 y4 y34 hkr hr0
      refine wp_region_held_drew (S := (fun w' => Below ws.heap.size ws w')) (by kernel_rfl) ?_ (fun hHeld => ?_)
      focus exact (Below.refl _ _).drew
      refine wpAnyH_take (i := 0) (v := ?_) rfl (by kernel_rfl) (by kernel_rfl) (by kernel_rfl) (fun _ _ _ h => h) (Or.inl ⟨by rfl, ?_⟩) (by assumption) ?_
      rotate_left
      focus
        intro w9 hSw
        (try dsimp only at hSw)
        have zK : ∀ {a9 : Addr} {u9 : Value}, ws.cell? a9 = some u9 → w9.cell? a9 = some u9 := fun {a9} {u9} h9 => (hSw.cell (World.block_lt_of_cell? ws a9 h9)).trans h9
        have z0 := zK x0
        have z1 := zK x1
        have z2 := zK x2
        have z3 := zK x3
        have z4 := zK y0
        have z5 := zK y1'
        have z6 := zK y2'
        have z7 := zK y3'
        clear zK hSw
        go_simp
        (try with_reducible rfl)
      (try simp only [Act.put, List.getElem_toArray, List.getElem_cons_succ, List.getElem_cons_zero, List.setIfInBounds_toArray, List.set_cons_zero, List.set_cons_succ])
      refine wpAnyH_take (i := 1) (v := ?_) rfl (by kernel_rfl) (by kernel_rfl) (by kernel_rfl) (fun _ _ _ h => h) (Or.inl ⟨by rfl, ?_⟩) (by assumption) ?_
      rotate_left
      focus
        intro w9 hSw
        (try dsimp only at hSw)
        have zK : ∀ {a9 : Addr} {u9 : Value}, ws.cell? a9 = some u9 → w9.cell? a9 = some u9 := fun {a9} {u9} h9 => (hSw.cell (World.block_lt_of_cell? ws a9 h9)).trans h9
        have z0 := zK x0
        have z1 := zK x1
        have z2 := zK x2
        have z3 := zK x3
        have z4 := zK y0
        have z5 := zK y1'
        have z6 := zK y2'
        have z7 := zK y3'
        clear zK hSw
        go_simp
        (try with_reducible rfl)
      (try simp only [Act.put, List.getElem_toArray, List.getElem_cons_succ, List.getElem_cons_zero, List.setIfInBounds_toArray, List.set_cons_zero, List.set_cons_succ])
      refine wpAnyH_take (i := 2) (v := ?_) rfl (by kernel_rfl) (by kernel_rfl) (by kernel_rfl) (fun _ _ _ h => h) (Or.inl ⟨by rfl, ?_⟩) (by assumption) ?_
      rotate_left
      focus
        intro w9 hSw
        (try dsimp only at hSw)
        have zK : ∀ {a9 : Addr} {u9 : Value}, ws.cell? a9 = some u9 → w9.cell? a9 = some u9 := fun {a9} {u9} h9 => (hSw.cell (World.block_lt_of_cell? ws a9 h9)).trans h9
        have z0 := zK x0
        have z1 := zK x1
        have z2 := zK x2
        have z3 := zK x3
        have z4 := zK y0
        have z5 := zK y1'
        have z6 := zK y2'
        have z7 := zK y3'
        clear zK hSw
        go_simp
        (try with_reducible rfl)
      (try simp only [Act.put, List.getElem_toArray, List.getElem_cons_succ, List.getElem_cons_zero, List.setIfInBounds_toArray, List.set_cons_zero, List.set_cons_succ])
      refine wpAnyH_take (i := 3) (v := ?_) rfl (by kernel_rfl) (by kernel_rfl) (by kernel_rfl) (fun _ _ _ h => h) (Or.inl ⟨by rfl, ?_⟩) (by assumption) ?_
      rotate_left
      focus
        intro w9 hSw
        (try dsimp only at hSw)
        have zK : ∀ {a9 : Addr} {u9 : Value}, ws.cell? a9 = some u9 → w9.cell? a9 = some u9 := fun {a9} {u9} h9 => (hSw.cell (World.block_lt_of_cell? ws a9 h9)).trans h9
        have z0 := zK x0
        have z1 := zK x1
        have z2 := zK x2
        have z3 := zK x3
        have z4 := zK y0
        have z5 := zK y1'
        have z6 := zK y2'
        have z7 := zK y3'
        clear zK hSw
        go_simp
        (try with_reducible rfl)
      (try simp only [Act.put, List.getElem_toArray, List.getElem_cons_succ, List.getElem_cons_zero, List.setIfInBounds_toArray, List.set_cons_zero, List.set_cons_succ])
      refine wpAnyH_take (i := 4) (v := ?_) rfl (by kernel_rfl) (by kernel_rfl) (by kernel_rfl) (fun _ _ _ h => h) (Or.inl ⟨by rfl, ?_⟩) (by assumption) ?_
      rotate_left
      focus
        intro w9 hSw
        (try dsimp only at hSw)
        have zK : ∀ {a9 : Addr} {u9 : Value}, ws.cell? a9 = some u9 → w9.cell? a9 = some u9 := fun {a9} {u9} h9 => (hSw.cell (World.block_lt_of_cell? ws a9 h9)).trans h9
        have z0 := zK x0
        have z1 := zK x1
        have z2 := zK x2
        have z3 := zK x3
        have z4 := zK y0
        have z5 := zK y1'
        have z6 := zK y2'
        have z7 := zK y3'
        clear zK hSw
        go_simp
        (try with_reducible rfl)
      (try simp only [Act.put, List.getElem_toArray, List.getElem_cons_succ, List.getElem_cons_zero, List.setIfInBounds_toArray, List.set_cons_zero, List.set_cons_succ])
      refine wpAnyH_take (i := 5) (v := ?_) rfl (by kernel_rfl) (by kernel_rfl) (by kernel_rfl) (fun _ _ _ h => h) (Or.inl ⟨by rfl, ?_⟩) (by assumption) ?_
      rotate_left
      focus
        intro w9 hSw
        (try dsimp only at hSw)
        have zK : ∀ {a9 : Addr} {u9 : Value}, ws.cell? a9 = some u9 → w9.cell? a9 = some u9 := fun {a9} {u9} h9 => (hSw.cell (World.block_lt_of_cell? ws a9 h9)).trans h9
        have z0 := zK x0
        have z1 := zK x1
        have z2 := zK x2
        have z3 := zK x3
        have z4 := zK y0
        have z5 := zK y1'
        have z6 := zK y2'
        have z7 := zK y3'
        clear zK hSw
        go_simp
        (try with_reducible rfl)
      (try simp only [Act.put, List.getElem_toArray, List.getElem_cons_succ, List.getElem_cons_zero, List.setIfInBounds_toArray, List.set_cons_zero, List.set_cons_succ])
      refine wpAnyH_take (i := 6) (v := ?_) rfl (by kernel_rfl) (by kernel_rfl) (by kernel_rfl) (fun _ _ _ h => h) (Or.inl ⟨by rfl, ?_⟩) (by assumption) ?_
      rotate_left
      focus
        intro w9 hSw
        (try dsimp only at hSw)
        have zK : ∀ {a9 : Addr} {u9 : Value}, ws.cell? a9 = some u9 → w9.cell? a9 = some u9 := fun {a9} {u9} h9 => (hSw.cell (World.block_lt_of_cell? ws a9 h9)).trans h9
        have z0 := zK x0
        have z1 := zK x1
        have z2 := zK x2
        have z3 := zK x3
        have z4 := zK y0
        have z5 := zK y1'
        have z6 := zK y2'
        have z7 := zK y3'
        clear zK hSw
        go_simp
        (try with_reducible rfl)
      (try simp only [Act.put, List.getElem_toArray, List.getElem_cons_succ, List.getElem_cons_zero, List.setIfInBounds_toArray, List.set_cons_zero, List.set_cons_succ])
      refine wpAnyH_take (i := 7) (v := ?_) rfl (by kernel_rfl) (by kernel_rfl) (by kernel_rfl) (fun _ _ _ h => h) (Or.inl ⟨by rfl, ?_⟩) (by assumption) ?_
      rotate_left
      focus
        intro w9 hSw
        (try dsimp only at hSw)
        have zK : ∀ {a9 : Addr} {u9 : Value}, ws.cell? a9 = some u9 → w9.cell? a9 = some u9 := fun {a9} {u9} h9 => (hSw.cell (World.block_lt_of_cell? ws a9 h9)).trans h9
        have z0 := zK x0
        have z1 := zK x1
        have z2 := zK x2
        have z3 := zK x3
        have z4 := zK y0
        have z5 := zK y1'
        have z6 := zK y2'
        have z7 := zK y3'
        clear zK hSw
        go_simp
        (try with_reducible rfl)
      (try simp only [Act.put, List.getElem_toArray, List.getElem_cons_succ, List.getElem_cons_zero, List.setIfInBounds_toArray, List.set_cons_zero, List.set_cons_succ])
      refine wpAnyH_take (i := 8) (v := ?_) rfl (by kernel_rfl) (by kernel_rfl) (by kernel_rfl) (fun _ _ _ h => h) (Or.inl ⟨by rfl, ?_⟩) (by assumption) ?_
      rotate_left
      focus
        intro w9 hSw
        (try dsimp only at hSw)
        have zK : ∀ {a9 : Addr} {u9 : Value}, ws.cell? a9 = some u9 → w9.cell? a9 = some u9 := fun {a9} {u9} h9 => (hSw.cell (World.block_lt_of_cell? ws a9 h9)).trans h9
        have z0 := zK x0
        have z1 := zK x1
        have z2 := zK x2
        have z3 := zK x3
        have z4 := zK y0
        have z5 := zK y1'
        have z6 := zK y2'
        have z7 := zK y3'
        clear zK hSw
        go_simp
        (try with_reducible rfl)
      (try simp only [Act.put, List.getElem_toArray, List.getElem_cons_succ, List.getElem_cons_zero, List.setIfInBounds_toArray, List.set_cons_zero, List.set_cons_succ])
      refine wpAnyH_ready (rs := [9]) (by kernel_rfl) (by simp) (AllReadyH.cons rfl (fun K hK => ?_) AllReadyH.nil)
      go_simp
      go_at_call 19
      refine (HSx.out _ (by repeat (first | exact Below.refl _ _ | assumption | refine Below.drew ?_ | refine below_drewN ?_ _ | refine below_alloc ?_ _))).mono ?_
      rintro e v1 ⟨rfl, hv1'⟩
      have hv1 := below_undrew hv1'
      clear hv1'
      refine hK.out _ _ ?_ (fun hHeld => ?_)
      focus exact hv1
      clear hK K
      (try simp only [Act.put, List.getElem_toArray, List.getElem_cons_succ, List.getElem_cons_zero, List.setIfInBounds_toArray, List.set_cons_zero, List.set_cons_succ])
      refine wpAnyH_take (i := 10) (v := ?_) rfl (by kernel_rfl) (by kernel_rfl) (by kernel_rfl) (fun _ _ _ h => h) (Or.inl ⟨by rfl, ?_⟩) (by assumption) ?_
      rotate_left
      focus
        intro w9 hSw
        (try dsimp only at hSw)
        have zK : ∀ {a9 : Addr} {u9 : Value}, ws.cell? a9 = some u9 → w9.cell? a9 = some u9 := fun {a9} {u9} h9 => (hSw.cell (World.block_lt_of_cell? ws a9 h9)).trans h9
        have z0 := zK x0
        have z1 := zK x1
        have z2 := zK x2
        have z3 := zK x3
        have z4 := zK z0'
        have z5 := zK z1'
        have z6 := zK z2'
        have z7 := zK z3'
        clear zK hSw
        go_simp
        (try with_reducible rfl)
      (try simp only [Act.put, List.getElem_toArray, List.getElem_cons_succ, List.getElem_cons_zero, List.setIfInBounds_toArray, List.set_cons_zero, List.set_cons_succ])
      refine wpAnyH_take (i := 11) (v := ?_) rfl (by kernel_rfl) (by kernel_rfl) (by kernel_rfl) (fun _ _ _ h => h) (Or.inl ⟨by rfl, ?_⟩) (by assumption) ?_
      rotate_left
      focus
        intro w9 hSw
        (try dsimp only at hSw)
        have zK : ∀ {a9 : Addr} {u9 : Value}, ws.cell? a9 = some u9 → w9.cell? a9 = some u9 := fun {a9} {u9} h9 => (hSw.cell (World.block_lt_of_cell? ws a9 h9)).trans h9
        have z0 := zK x0
        have z1 := zK x1
        have z2 := zK x2
        have z3 := zK x3
        have z4 := zK z0'
        have z5 := zK z1'
        have z6 := zK z2'
        have z7 := zK z3'
        clear zK hSw
        go_simp
        (try with_reducible rfl)
      (try simp only [Act.put, List.getElem_toArray, List.getElem_cons_succ, List.getElem_cons_zero, List.setIfInBounds_toArray, List.set_cons_zero, List.set_cons_succ])
      refine wpAnyH_take (i := 12) (v := ?_) rfl (by kernel_rfl) (by kernel_rfl) (by kernel_rfl) (fun _ _ _ h => h) (Or.inl ⟨by rfl, ?_⟩) (by assumption) ?_
      rotate_left
      focus
        intro w9 hSw
        (try dsimp only at hSw)
        have zK : ∀ {a9 : Addr} {u9 : Value}, ws.cell? a9 = some u9 → w9.cell? a9 = some u9 := fun {a9} {u9} h9 => (hSw.cell (World.block_lt_of_cell? ws a9 h9)).trans h9
        have z0 := zK x0
        have z1 := zK x1
        have z2 := zK x2
        have z3 := zK x3
        have z4 := zK z0'
        have z5 := zK z1'
        have z6 := zK z2'
        have z7 := zK z3'
        clear zK hSw
        go_simp
        (try with_reducible rfl)
      (try simp only [Act.put, List.getElem_toArray, List.getElem_cons_succ, List.getElem_cons_zero, List.setIfInBounds_toArray, List.set_cons_zero, List.set_cons_succ])
      refine wpAnyH_take (i := 13) (v := ?_) rfl (by kernel_rfl) (by kernel_rfl) (by kernel_rfl) (fun _ _ _ h => h) (Or.inl ⟨by rfl, ?_⟩) (by assumption) ?_
      rotate_left
      focus
        intro w9 hSw
        (try dsimp only at hSw)
        have zK : ∀ {a9 : Addr} {u9 : Value}, ws.cell? a9 = some u9 → w9.cell? a9 = some u9 := fun {a9} {u9} h9 => (hSw.cell (World.block_lt_of_cell? ws a9 h9)).trans h9
        have z0 := zK x0
        have z1 := zK x1
        have z2 := zK x2
        have z3 := zK x3
        have z4 := zK z0'
        have z5 := zK z1'
        have z6 := zK z2'
        have z7 := zK z3'
        clear zK hSw
        go_simp
        (try with_reducible rfl)
      (try simp only [Act.put, List.getElem_toArray, List.getElem_cons_succ, List.getElem_cons_zero, List.setIfInBounds_toArray, List.set_cons_zero, List.set_cons_succ])
      refine wpAnyH_take (i := 14) (v := ?_) rfl (by kernel_rfl) (by kernel_rfl) (by kernel_rfl) (fun _ _ _ h => h) (Or.inl ⟨by rfl, ?_⟩) (by assumption) ?_
      rotate_left
      focus
        intro w9 hSw
        (try dsimp only at hSw)
        have zK : ∀ {a9 : Addr} {u9 : Value}, ws.cell? a9 = some u9 → w9.cell? a9 = some u9 := fun {a9} {u9} h9 => (hSw.cell (World.block_lt_of_cell? ws a9 h9)).trans h9
        have z0 := zK x0
        have z1 := zK x1
        have z2 := zK x2
        have z3 := zK x3
        have z4 := zK z0'
        have z5 := zK z1'
        have z6 := zK z2'
        have z7 := zK z3'
        clear zK hSw
        go_simp
        (try with_reducible rfl)
      (try simp only [Act.put, List.getElem_toArray, List.getElem_cons_succ, List.getElem_cons_zero, List.setIfInBounds_toArray, List.set_cons_zero, List.set_cons_succ])
      refine wpAnyH_take (i := 15) (v := ?_) rfl (by kernel_rfl) (by kernel_rfl) (by kernel_rfl) (fun _ _ _ h => h) (Or.inl ⟨by rfl, ?_⟩) (by assumption) ?_
      rotate_left
      focus
        intro w9 hSw
        (try dsimp only at hSw)
        have zK : ∀ {a9 : Addr} {u9 : Value}, ws.cell? a9 = some u9 → w9.cell? a9 = some u9 := fun {a9} {u9} h9 => (hSw.cell (World.block_lt_of_cell? ws a9 h9)).trans h9
        have z0 := zK x0
        have z1 := zK x1
        have z2 := zK x2
        have z3 := zK x3
        have z4 := zK z0'
        have z5 := zK z1'
        have z6 := zK z2'
        have z7 := zK z3'
        clear zK hSw
        go_simp
        (try with_reducible rfl)
      (try simp only [Act.put, List.getElem_toArray, List.getElem_cons_succ, List.getElem_cons_zero, List.setIfInBounds_toArray, List.set_cons_zero, List.set_cons_succ])
      refine wpAnyH_take (i := 16) (v := ?_) rfl (by kernel_rfl) (by kernel_rfl) (by kernel_rfl) (fun _ _ _ h => h) (Or.inl ⟨by rfl, ?_⟩) (by assumption) ?_
      rotate_left
      focus
        intro w9 hSw
        (try dsimp only at hSw)
        have zK : ∀ {a9 : Addr} {u9 : Value}, ws.cell? a9 = some u9 → w9.cell? a9 = some u9 := fun {a9} {u9} h9 => (hSw.cell (World.block_lt_of_cell? ws a9 h9)).trans h9
        have z0 := zK x0
        have z1 := zK x1
        have z2 := zK x2
        have z3 := zK x3
        have z4 := zK z0'
        have z5 := zK z1'
        have z6 := zK z2'
        have z7 := zK z3'
        clear zK hSw
        go_simp
        (try with_reducible rfl)
      (try simp only [Act.put, List.getElem_toArray, List.getElem_cons_succ, List.getElem_cons_zero, List.setIfInBounds_toArray, List.set_cons_zero, List.set_cons_succ])
      refine wpAnyH_take (i := 17) (v := ?_) rfl (by kernel_rfl) (by kernel_rfl) (by kernel_rfl) (fun _ _ _ h => h) (Or.inl ⟨by rfl, ?_⟩) (by assumption) ?_
      rotate_left
      focus
        intro w9 hSw
        (try dsimp only at hSw)
        have zK : ∀ {a9 : Addr} {u9 : Value}, ws.cell? a9 = some u9 → w9.cell? a9 = some u9 := fun {a9} {u9} h9 => (hSw.cell (World.block_lt_of_cell? ws a9 h9)).trans h9
        have z0 := zK x0
        have z1 := zK x1
        have z2 := zK x2
        have z3 := zK x3
        have z4 := zK z0'
        have z5 := zK z1'
        have z6 := zK z2'
        have z7 := zK z3'
        clear zK hSw
        go_simp
        (try with_reducible rfl)
      (try simp only [Act.put, List.getElem_toArray, List.getElem_cons_succ, List.getElem_cons_zero, List.setIfInBounds_toArray, List.set_cons_zero, List.set_cons_succ])
      refine wpAnyH_take (i := 18) (v := ?_) rfl (by kernel_rfl) (by kernel_rfl) (by kernel_rfl) (fun _ _ _ h => h) (Or.inl ⟨by rfl, ?_⟩) (by assumption) ?_
      rotate_left
      focus
        intro w9 hSw
        (try dsimp only at hSw)
        have zK : ∀ {a9 : Addr} {u9 : Value}, ws.cell? a9 = some u9 → w9.cell? a9 = some u9 := fun {a9} {u9} h9 => (hSw.cell (World.block_lt_of_cell? ws a9 h9)).trans h9
        have z0 := zK x0
        have z1 := zK x1
        have z2 := zK x2
        have z3 := zK x3
        have z4 := zK z0'
        have z5 := zK z1'
        have z6 := zK z2'
        have z7 := zK z3'
        clear zK hSw
        go_simp
        (try with_reducible rfl)
      (try simp only [Act.put, List.getElem_toArray, List.getElem_cons_succ, List.getElem_cons_zero, List.setIfInBounds_toArray, List.set_cons_zero, List.set_cons_succ])
      refine wpAnyH_take (i := 19) (v := ?_) rfl (by kernel_rfl) (by kernel_rfl) (by kernel_rfl) (fun _ _ _ h => h) (Or.inl ⟨by rfl, ?_⟩) (by assumption) ?_
      rotate_left
      focus
        intro w9 hSw
        (try dsimp only at hSw)
        have zK : ∀ {a9 : Addr} {u9 : Value}, ws.cell? a9 = some u9 → w9.cell? a9 = some u9 := fun {a9} {u9} h9 => (hSw.cell (World.block_lt_of_cell? ws a9 h9)).trans h9
        have z0 := zK x0
        have z1 := zK x1
        have z2 := zK x2
        have z3 := zK x3
        have z4 := zK z0'
        have z5 := zK z1'
        have z6 := zK z2'
        have z7 := zK z3'
        clear zK hSw
        go_simp
        (try with_reducible rfl)
      (try simp only [Act.put, List.getElem_toArray, List.getElem_cons_succ, List.getElem_cons_zero, List.setIfInBounds_toArray, List.set_cons_zero, List.set_cons_succ])
      refine wpAnyH_take (i := 20) (v := ?_) rfl (by kernel_rfl) (by kernel_rfl) (by kernel_rfl) (fun _ _ _ h => h) (Or.inl ⟨by rfl, ?_⟩) (by assumption) ?_
      rotate_left
      focus
        intro w9 hSw
        (try dsimp only at hSw)
        have zK : ∀ {a9 : Addr} {u9 : Value}, ws.cell? a9 = some u9 → w9.cell? a9 = some u9 := fun {a9} {u9} h9 => (hSw.cell (World.block_lt_of_cell? ws a9 h9)).trans h9
        have z0 := zK x0
        have z1 := zK x1
        have z2 := zK x2
        have z3 := zK x3
        have z4 := zK z0'
        have z5 := zK z1'
        have z6 := zK z2'
        have z7 := zK z3'
        clear zK hSw
        go_simp
        (try with_reducible rfl)
      (try simp only [Act.put, List.getElem_toArray, List.getElem_cons_succ, List.getElem_cons_zero, List.setIfInBounds_toArray, List.set_cons_zero, List.set_cons_succ])
      refine wpAnyH_take (i := 21) (v := ?_) rfl (by kernel_rfl) (by kernel_rfl) (by kernel_rfl) (fun _ _ _ h => h) (Or.inl ⟨by rfl, ?_⟩) (by assumption) ?_
      rotate_left
      focus
        intro w9 hSw
        (try dsimp only at hSw)
        have zK : ∀ {a9 : Addr} {u9 : Value}, ws.cell? a9 = some u9 → w9.cell? a9 = some u9 := fun {a9} {u9} h9 => (hSw.cell (World.block_lt_of_cell? ws a9 h9)).trans h9
        have z0 := zK x0
        have z1 := zK x1
        have z2 := zK x2
        have z3 := zK x3
        have z4 := zK z0'
        have z5 := zK z1'
        have z6 := zK z2'
        have z7 := zK z3'
        clear zK hSw
        go_simp
        (try with_reducible rfl)
      (try simp only [Act.put, List.getElem_toArray, List.getElem_cons_succ, List.getElem_cons_zero, List.setIfInBounds_toArray, List.set_cons_zero, List.set_cons_succ])
      refine wpAnyH_take (i := 22) (v := ?_) rfl (by kernel_rfl) (by kernel_rfl) (by kernel_rfl) (fun _ _ _ h => h) (Or.inl ⟨by rfl, ?_⟩) (by assumption) ?_
      rotate_left
      focus
        intro w9 hSw
        (try dsimp only at hSw)
        have zK : ∀ {a9 : Addr} {u9 : Value}, ws.cell? a9 = some u9 → w9.cell? a9 = some u9 := fun {a9} {u9} h9 => (hSw.cell (World.block_lt_of_cell? ws a9 h9)).trans h9
        have z0 := zK x0
        have z1 := zK x1
        have z2 := zK x2
        have z3 := zK x3
        have z4 := zK z0'
        have z5 := zK z1'
        have z6 := zK z2'
        have z7 := zK z3'
        have z8 := zK hc3
        have z9 := zK hc2
        have z10 := zK hd3
        have z11 := zK hd2
        clear zK hSw
        go_simp
        (try with_reducible rfl)
      (try simp only [Act.put, List.getElem_toArray, List.getElem_cons_succ, List.getElem_cons_zero, List.setIfInBounds_toArray, List.set_cons_zero, List.set_cons_succ])
      refine wpAnyH_take (i := 23) (v := ?_) rfl (by kernel_rfl) (by kernel_rfl) (by kernel_rfl) (fun _ _ _ h => h) (Or.inl ⟨by rfl, ?_⟩) (by assumption) ?_
      rotate_left
      focus
        intro w9 hSw
        (try dsimp only at hSw)
        have zK : ∀ {a9 : Addr} {u9 : Value}, ws.cell? a9 = some u9 → w9.cell? a9 = some u9 := fun {a9} {u9} h9 => (hSw.cell (World.block_lt_of_cell? ws a9 h9)).trans h9
        have z0 := zK x0
        have z1 := zK x1
        have z2 := zK x2
        have z3 := zK x3
        have z4 := zK z0'
        have z5 := zK z1'
        have z6 := zK z2'
        have z7 := zK z3'
        have z8 := zK hc3
        have z9 := zK hc2
        have z10 := zK hd3
        have z11 := zK hd2
        clear zK hSw
        go_simp
        (try with_reducible rfl)
      (try simp only [Act.put, List.getElem_toArray, List.getElem_cons_succ, List.getElem_cons_zero, List.setIfInBounds_toArray, List.set_cons_zero, List.set_cons_succ])
      refine wpAnyH_take (i := 24) (v := ?_) rfl (by kernel_rfl) (by kernel_rfl) (by kernel_rfl) (fun _ _ _ h => h) (Or.inl ⟨by rfl, ?_⟩) (by assumption) ?_
      rotate_left
      focus
        intro w9 hSw
        (try dsimp only at hSw)
        have zK : ∀ {a9 : Addr} {u9 : Value}, ws.cell? a9 = some u9 → w9.cell? a9 = some u9 := fun {a9} {u9} h9 => (hSw.cell (World.block_lt_of_cell? ws a9 h9)).trans h9
        have z0 := zK x0
        have z1 := zK x1
        have z2 := zK x2
        have z3 := zK x3
        have z4 := zK z0'
        have z5 := zK z1'
        have z6 := zK z2'
        have z7 := zK z3'
        have z8 := zK hc3
        have z9 := zK hc2
        have z10 := zK hd3
        have z11 := zK hd2
        clear zK hSw
        go_simp
        (try with_reducible rfl)
      (try simp only [Act.put, List.getElem_toArray, List.getElem_cons_succ, List.getElem_cons_zero, List.setIfInBounds_toArray, List.set_cons_zero, List.set_cons_succ])
      refine wpAnyH_take (i := 25) (v := ?_) rfl (by kernel_rfl) (by kernel_rfl) (by kernel_rfl) (fun _ _ _ h => h) (Or.inl ⟨by rfl, ?_⟩) (by assumption) ?_
      rotate_left
      focus
        intro w9 hSw
        (try dsimp only at hSw)
        have zK : ∀ {a9 : Addr} {u9 : Value}, ws.cell? a9 = some u9 → w9.cell? a9 = some u9 := fun {a9} {u9} h9 => (hSw.cell (World.block_lt_of_cell? ws a9 h9)).trans h9
        have z0 := zK x0
        have z1 := zK x1
        have z2 := zK x2
        have z3 := zK x3
        have z4 := zK z0'
        have z5 := zK z1'
        have z6 := zK z2'
        have z7 := zK z3'
        have z8 := zK hc3
        have z9 := zK hc2
        have z10 := zK hd3
        have z11 := zK hd2
        clear zK hSw
        go_simp
        (try with_reducible rfl)
      (try simp only [Act.put, List.getElem_toArray, List.getElem_cons_succ, List.getElem_cons_zero, List.setIfInBounds_toArray, List.set_cons_zero, List.set_cons_succ])
      refine wpAnyH_take (i := 26) (v := ?_) rfl (by kernel_rfl) (by kernel_rfl) (by kernel_rfl) (fun _ _ _ h => h) (Or.inl ⟨by rfl, ?_⟩) (by assumption) ?_
      rotate_left
      focus
        intro w9 hSw
        (try dsimp only at hSw)
        have zK : ∀ {a9 : Addr} {u9 : Value}, ws.cell? a9 = some u9 → w9.cell? a9 = some u9 := fun {a9} {u9} h9 => (hSw.cell (World.block_lt_of_cell? ws a9 h9)).trans h9
        have z0 := zK x0
        have z1 := zK x1
        have z2 := zK x2
        have z3 := zK x3
        have z4 := zK z0'
        have z5 := zK z1'
        have z6 := zK z2'
        have z7 := zK z3'
        have z8 := zK hc3
        have z9 := zK hc2
        have z10 := zK hd3
        have z11 := zK hd2
        clear zK hSw
        go_simp
        (try with_reducible rfl)
      (try simp only [Act.put, List.getElem_toArray, List.getElem_cons_succ, List.getElem_cons_zero, List.setIfInBounds_toArray, List.set_cons_zero, List.set_cons_succ])
      refine wpAnyH_take (i := 27) (v := ?_) rfl (by kernel_rfl) (by kernel_rfl) (by kernel_rfl) (fun _ _ _ h => h) (Or.inl ⟨by rfl, ?_⟩) (by assumption) ?_
      rotate_left
      focus
        intro w9 hSw
        (try dsimp only at hSw)
        have zK : ∀ {a9 : Addr} {u9 : Value}, ws.cell? a9 = some u9 → w9.cell? a9 = some u9 := fun {a9} {u9} h9 => (hSw.cell (World.block_lt_of_cell? ws a9 h9)).trans h9
        have z0 := zK x0
        have z1 := zK x1
        have z2 := zK x2
        have z3 := zK x3
        have z4 := zK z0'
        have z5 := zK z1'
        have z6 := zK z2'
        have z7 := zK z3'
        have z8 := zK hc3
        have z9 := zK hc2
        have z10 := zK hd3
        have z11 := zK hd2
        clear zK hSw
        go_simp
        (try with_reducible rfl)
      (try simp only [Act.put, List.getElem_toArray, List.getElem_cons_succ, List.getElem_cons_zero, List.setIfInBounds_toArray, List.set_cons_zero, List.set_cons_succ])
      refine wpAnyH_take (i := 28) (v := ?_) rfl (by kernel_rfl) (by kernel_rfl) (by kernel_rfl) (fun _ _ _ h => h) (Or.inl ⟨by rfl, ?_⟩) (by assumption) ?_
      rotate_left
      focus
        intro w9 hSw
        (try dsimp only at hSw)
        have zK : ∀ {a9 : Addr} {u9 : Value}, ws.cell? a9 = some u9 → w9.cell? a9 = some u9 := fun {a9} {u9} h9 => (hSw.cell (World.block_lt_of_cell? ws a9 h9)).trans h9
        have z0 := zK x0
        have z1 := zK x1
        have z2 := zK x2
        have z3 := zK x3
        have z4 := zK z0'
        have z5 := zK z1'
        have z6 := zK z2'
        have z7 := zK z3'
        have z8 := zK hc3
        have z9 := zK hc2
        have z10 := zK hd3
        have z11 := zK hd2
        clear zK hSw
        go_simp
        (try with_reducible rfl)
      (try simp only [Act.put, List.getElem_toArray, List.getElem_cons_succ, List.getElem_cons_zero, List.setIfInBounds_toArray, List.set_cons_zero, List.set_cons_succ])
      refine wpAnyH_take (i := 29) (v := ?_) rfl (by kernel_rfl) (by kernel_rfl) (by kernel_rfl) (fun _ _ _ h => h) (Or.inl ⟨by rfl, ?_⟩) (by assumption) ?_
      rotate_left
      focus
        intro w9 hSw
        (try dsimp only at hSw)
        have zK : ∀ {a9 : Addr} {u9 : Value}, ws.cell? a9 = some u9 → w9.cell? a9 = some u9 := fun {a9} {u9} h9 => (hSw.cell (World.block_lt_of_cell? ws a9 h9)).trans h9
        have z0 := zK x0
        have z1 := zK x1
        have z2 := zK x2
        have z3 := zK x3
        have z4 := zK z0'
        have z5 := zK z1'
        have z6 := zK z2'
        have z7 := zK z3'
        have z8 := zK hc3
        have z9 := zK hc2
        have z10 := zK hd3
        have z11 := zK hd2
        clear zK hSw
        go_simp
        (try with_reducible rfl)
      (try simp only [Act.put, List.getElem_toArray, List.getElem_cons_succ, List.getElem_cons_zero, List.setIfInBounds_toArray, List.set_cons_zero, List.set_cons_succ])
      refine wpAnyH_take (i := 30) (v := ?_) rfl (by kernel_rfl) (by kernel_rfl) (by kernel_rfl) (fun _ _ _ h => h) (Or.inl ⟨by rfl, ?_⟩) (by assumption) ?_
      rotate_left
      focus
        intro w9 hSw
        (try dsimp only at hSw)
        have zK : ∀ {a9 : Addr} {u9 : Value}, ws.cell? a9 = some u9 → w9.cell? a9 = some u9 := fun {a9} {u9} h9 => (hSw.cell (World.block_lt_of_cell? ws a9 h9)).trans h9
        have z0 := zK x0
        have z1 := zK x1
        have z2 := zK x2
        have z3 := zK x3
        have z4 := zK z0'
        have z5 := zK z1'
        have z6 := zK z2'
        have z7 := zK z3'
        have z8 := zK hc3
        have z9 := zK hc2
        have z10 := zK hd3
        have z11 := zK hd2
        clear zK hSw
        go_simp
        (try with_reducible rfl)
      (try simp only [Act.put, List.getElem_toArray, List.getElem_cons_succ, List.getElem_cons_zero, List.setIfInBounds_toArray, List.set_cons_zero, List.set_cons_succ])
      refine wpAnyH_take (i := 31) (v := ?_) rfl (by kernel_rfl) (by kernel_rfl) (by kernel_rfl) (fun _ _ _ h => h) (Or.inl ⟨by rfl, ?_⟩) (by assumption) ?_
      rotate_left
      focus
        intro w9 hSw
        (try dsimp only at hSw)
        have zK : ∀ {a9 : Addr} {u9 : Value}, ws.cell? a9 = some u9 → w9.cell? a9 = some u9 := fun {a9} {u9} h9 => (hSw.cell (World.block_lt_of_cell? ws a9 h9)).trans h9
        have z0 := zK x0
        have z1 := zK x1
        have z2 := zK x2
        have z3 := zK x3
        have z4 := zK z0'
        have z5 := zK z1'
        have z6 := zK z2'
        have z7 := zK z3'
        have z8 := zK hc3
        have z9 := zK hc2
        have z10 := zK hd3
        have z11 := zK hd2
        clear zK hSw
        go_simp
        (try with_reducible rfl)
      (try simp only [Act.put, List.getElem_toArray, List.getElem_cons_succ, List.getElem_cons_zero, List.setIfInBounds_toArray, List.set_cons_zero, List.set_cons_succ])
      refine wpAnyH_take (i := 32) (v := ?_) rfl (by kernel_rfl) (by kernel_rfl) (by kernel_rfl) (fun _ _ _ h => h) (Or.inl ⟨by rfl, ?_⟩) (by assumption) ?_
      rotate_left
      focus
        intro w9 hSw
        (try dsimp only at hSw)
        have zK : ∀ {a9 : Addr} {u9 : Value}, ws.cell? a9 = some u9 → w9.cell? a9 = some u9 := fun {a9} {u9} h9 => (hSw.cell (World.block_lt_of_cell? ws a9 h9)).trans h9
        have z0 := zK x0
        have z1 := zK x1
        have z2 := zK x2
        have z3 := zK x3
        have z4 := zK z0'
        have z5 := zK z1'
        have z6 := zK z2'
        have z7 := zK z3'
        have z8 := zK hc3
        have z9 := zK hc2
        have z10 := zK hd3
        have z11 := zK hd2
        clear zK hSw
        go_simp
        (try with_reducible rfl)
      (try simp only [Act.put, List.getElem_toArray, List.getElem_cons_succ, List.getElem_cons_zero, List.setIfInBounds_toArray, List.set_cons_zero, List.set_cons_succ])
      refine wpAnyH_take (i := 33) (v := ?_) rfl (by kernel_rfl) (by kernel_rfl) (by kernel_rfl) (fun _ _ _ h => h) (Or.inl ⟨by rfl, ?_⟩) (by assumption) ?_
      rotate_left
      focus
        intro w9 hSw
        (try dsimp only at hSw)
        have zK : ∀ {a9 : Addr} {u9 : Value}, ws.cell? a9 = some u9 → w9.cell? a9 = some u9 := fun {a9} {u9} h9 => (hSw.cell (World.block_lt_of_cell? ws a9 h9)).trans h9
        have z0 := zK x0
        have z1 := zK x1
        have z2 := zK x2
        have z3 := zK x3
        have z4 := zK z0'
        have z5 := zK z1'
        have z6 := zK z2'
        have z7 := zK z3'
        have z8 := zK hc3
        have z9 := zK hc2
        have z10 := zK hd3
        have z11 := zK hd2
        clear zK hSw
        go_simp
        (try with_reducible rfl)
      (try simp only [Act.put, List.getElem_toArray, List.getElem_cons_succ, List.getElem_cons_zero, List.setIfInBounds_toArray, List.set_cons_zero, List.set_cons_succ])
      refine wpAnyH_take (i := 34) (v := ?_) rfl (by kernel_rfl) (by kernel_rfl) (by kernel_rfl) (fun _ _ _ h => h) (Or.inl ⟨by rfl, ?_⟩) (by assumption) ?_
      rotate_left
      focus
        intro w9 hSw
        (try dsimp only at hSw)
        have zK : ∀ {a9 : Addr} {u9 : Value}, ws.cell? a9 = some u9 → w9.cell? a9 = some u9 := fun {a9} {u9} h9 => (hSw.cell (World.block_lt_of_cell? ws a9 h9)).trans h9
        have z0 := zK x0
        have z1 := zK x1
        have z2 := zK x2
        have z3 := zK x3
        have z4 := zK z0'
        have z5 := zK z1'
        have z6 := zK z2'
        have z7 := zK z3'
        have z8 := zK hc3
        have z9 := zK hc2
        have z10 := zK hd3
        have z11 := zK hd2
        clear zK hSw
        go_simp
        (try with_reducible rfl)
      (try simp only [Act.put, List.getElem_toArray, List.getElem_cons_succ, List.getElem_cons_zero, List.setIfInBounds_toArray, List.set_cons_zero, List.set_cons_succ])
      refine wpAnyH_take (i := 35) (v := ?_) rfl (by kernel_rfl) (by kernel_rfl) (by kernel_rfl) (fun _ _ _ h => h) (Or.inl ⟨by rfl, ?_⟩) (by assumption) ?_
      rotate_left
      focus
        intro w9 hSw
        (try dsimp only at hSw)
        have zK : ∀ {a9 : Addr} {u9 : Value}, ws.cell? a9 = some u9 → w9.cell? a9 = some u9 := fun {a9} {u9} h9 => (hSw.cell (World.block_lt_of_cell? ws a9 h9)).trans h9
        have z0 := zK x0
        have z1 := zK x1
        have z2 := zK x2
        have z3 := zK x3
        have z4 := zK z0'
        have z5 := zK z1'
        have z6 := zK z2'
        have z7 := zK z3'
        have z8 := zK hc3
        have z9 := zK hc2
        have z10 := zK hd3
        have z11 := zK hd2
        clear zK hSw
        go_simp
        (try with_reducible rfl)
      (try simp only [Act.put, List.getElem_toArray, List.getElem_cons_succ, List.getElem_cons_zero, List.setIfInBounds_toArray, List.set_cons_zero, List.set_cons_succ])
      refine wpAnyH_take (i := 36) (v := ?_) rfl (by kernel_rfl) (by kernel_rfl) (by kernel_rfl) (fun _ _ _ h => h) (Or.inl ⟨by rfl, ?_⟩) (by assumption) ?_
      rotate_left
      focus
        intro w9 hSw
        (try dsimp only at hSw)
        have zK : ∀ {a9 : Addr} {u9 : Value}, ws.cell? a9 = some u9 → w9.cell? a9 = some u9 := fun {a9} {u9} h9 => (hSw.cell (World.block_lt_of_cell? ws a9 h9)).trans h9
        have z0 := zK x0
        have z1 := zK x1
        have z2 := zK x2
        have z3 := zK x3
        have z4 := zK z0'
        have z5 := zK z1'
        have z6 := zK z2'
        have z7 := zK z3'
        have z8 := zK hc3
        have z9 := zK hc2
        have z10 := zK hd3
        have z11 := zK hd2
        clear zK hSw
        go_simp
        (try with_reducible rfl)
      (try simp only [Act.put, List.getElem_toArray, List.getElem_cons_succ, List.getElem_cons_zero, List.setIfInBounds_toArray, List.set_cons_zero, List.set_cons_succ])
      refine wpAnyH_done (by kernel_rfl) ?_ _
      (try simp only [Act.put, List.getElem_toArray, List.getElem_cons_succ, List.getElem_cons_zero, List.setIfInBounds_toArray, List.set_cons_zero, List.set_cons_succ])
      have hbn := bbw.trans (hv1.mono bbw.size)
      have kn := kp2.below hv1 kp2.lt
      have rn := rp2.to (Nat.le_refl _) hv1
      go_wp2
      go_roundw
      case rel => exact ⟨k + 1, by omega, by go_num, hbn, kn, rn⟩
      case measure => simp [intOf]; omega
    · have hk5 : ¬ ((4 : Nat) : Int) < 4 := by omega
      have HF4 := HFo.out 4 (by omega)
      have HB4 := HBa.out 4 (by omega)
      simp only [show ((4 : Nat) : Int) = 4 from rfl] at HF4 HB4
      replace HF4 := Lib.hid HF4
      replace HB4 := Lib.hid HB4
      rw [show ((4 : Nat) : Int) = 4 from rfl]
      go_wp2_with (first
        | (go_at_call 11; (with_reducible refine (HF4.out _ _ _ hr0).mono ?_); rintro e w3 ⟨A3, c3, rfl, ho3, hb3⟩; have hb3 := hb3)
        | (go_at_call 18; (with_reducible refine (HB4.out _ _ _ (rdOwn ho3 (below_alloc (Below.refl _ _) _))).mono ?_); rintro e w4 ⟨A4, c4, rfl, ho4, hb4⟩))
      have y3 := below_then (below_alloc (Below.refl w3.heap.size w3) (.cells #[.int .i64 1, .int .i64 1, .int .i64 (dn : Int), .slice A3 4 c3] 27)) hb4
      have y4 := below_alloc (Below.refl w4.heap.size w4) (.cells #[.int .i64 1, .int .i64 1, .int .i64 (dn : Int), .slice A4 4 c4] 27)
      have y34 := below_then y3 y4
      have yr := below_then hb3 y34
      have k2 := hkr.below yr hkr.lt
      have k3 := (Blk.new w3 27 #[.int .i64 1, .int .i64 1, .int .i64 (dn : Int), .slice A3 4 c3]).below (below_then hb4 y4) (by simp)
      have k4 := Blk.new w4 27 #[.int .i64 1, .int .i64 1, .int .i64 (dn : Int), .slice A4 4 c4]
      have r2 := hr0.to (Nat.le_refl _) yr
      have r3 := rdOwn ho3 y34
      have r4 := rdOwn ho4 y4
      have bbw := hbr.trans (yr.mono hbr.size)
      generalize w4.alloc (.cells #[.int .i64 1, .int .i64 1, .int .i64 (dn : Int), .slice A4 4 c4] 27) = ws at *
      obtain ⟨x0, x1, x2, x3, _⟩ := k2.four
      obtain ⟨z0', z1', z2', z3', _⟩ := k3.four
      obtain ⟨y0, y1', y2', y3', _⟩ := k4.four
      obtain ⟨ad, el, ec, hA2, _, hc1, hc2⟩ := ptAt r2 (j := 3) (by rw [HL4.out]; omega)
      obtain ⟨ad3, el3, ec3, hA3, _, hd1, hd2⟩ := ptAt r3 (j := 3) (by rw [ptF_length, HL4.out]; omega)
      rw [H3.out] at hc2
      have hc3 : ws.cell? ⟨ad.block, ad.off + 3, none⟩ = some (.slice (some el) 1 ec) := hc1
      have hd3 : ws.cell? ⟨ad3.block, ad3.off + 3, none⟩ = some (.slice (some el3) 1 ec3) := hd1
      subst hA2 hA3
      have HSx := Lib.hid (fun W' (hb : Below ws.heap.size ws W') => HS.out W' A4 (some ad) c4 c2 (r4.to (Nat.le_refl _) hb) (r2.to (Nat.le_refl _) hb))
      have zc : (fun (x : World) => x.cell? el) = (fun x => x.cell? el) := rfl
      have kp2 := k2
      have rp2 := r2
      clear zc k2 k3 k4 r2 r3 r4 ho3 ho4 hb3 hb4 y3 y4 y34 hkr hr0
      refine wp_region_held_drew (S := (fun w' => Below ws.heap.size ws w')) (by kernel_rfl) ?_ (fun hHeld => ?_)
      focus exact (Below.refl _ _).drew
      refine wpAnyH_take (i := 0) (v := ?_) rfl (by kernel_rfl) (by kernel_rfl) (by kernel_rfl) (fun _ _ _ h => h) (Or.inl ⟨by rfl, ?_⟩) (by assumption) ?_
      rotate_left
      focus
        intro w9 hSw
        (try dsimp only at hSw)
        have zK : ∀ {a9 : Addr} {u9 : Value}, ws.cell? a9 = some u9 → w9.cell? a9 = some u9 := fun {a9} {u9} h9 => (hSw.cell (World.block_lt_of_cell? ws a9 h9)).trans h9
        have z0 := zK x0
        have z1 := zK x1
        have z2 := zK x2
        have z3 := zK x3
        have z4 := zK y0
        have z5 := zK y1'
        have z6 := zK y2'
        have z7 := zK y3'
        clear zK hSw
        go_simp
        (try with_reducible rfl)
      (try simp only [Act.put, List.getElem_toArray, List.getElem_cons_succ, List.getElem_cons_zero, List.setIfInBounds_toArray, List.set_cons_zero, List.set_cons_succ])
      refine wpAnyH_take (i := 1) (v := ?_) rfl (by kernel_rfl) (by kernel_rfl) (by kernel_rfl) (fun _ _ _ h => h) (Or.inl ⟨by rfl, ?_⟩) (by assumption) ?_
      rotate_left
      focus
        intro w9 hSw
        (try dsimp only at hSw)
        have zK : ∀ {a9 : Addr} {u9 : Value}, ws.cell? a9 = some u9 → w9.cell? a9 = some u9 := fun {a9} {u9} h9 => (hSw.cell (World.block_lt_of_cell? ws a9 h9)).trans h9
        have z0 := zK x0
        have z1 := zK x1
        have z2 := zK x2
        have z3 := zK x3
        have z4 := zK y0
        have z5 := zK y1'
        have z6 := zK y2'
        have z7 := zK y3'
        clear zK hSw
        go_simp
        (try with_reducible rfl)
      (try simp only [Act.put, List.getElem_toArray, List.getElem_cons_succ, List.getElem_cons_zero, List.setIfInBounds_toArray, List.set_cons_zero, List.set_cons_succ])
      refine wpAnyH_take (i := 2) (v := ?_) rfl (by kernel_rfl) (by kernel_rfl) (by kernel_rfl) (fun _ _ _ h => h) (Or.inl ⟨by rfl, ?_⟩) (by assumption) ?_
      rotate_left
      focus
        intro w9 hSw
        (try dsimp only at hSw)
        have zK : ∀ {a9 : Addr} {u9 : Value}, ws.cell? a9 = some u9 → w9.cell? a9 = some u9 := fun {a9} {u9} h9 => (hSw.cell (World.block_lt_of_cell? ws a9 h9)).trans h9
        have z0 := zK x0
        have z1 := zK x1
        have z2 := zK x2
        have z3 := zK x3
        have z4 := zK y0
        have z5 := zK y1'
        have z6 := zK y2'
        have z7 := zK y3'
        clear zK hSw
        go_simp
        (try with_reducible rfl)
      (try simp only [Act.put, List.getElem_toArray, List.getElem_cons_succ, List.getElem_cons_zero, List.setIfInBounds_toArray, List.set_cons_zero, List.set_cons_succ])
      refine wpAnyH_take (i := 3) (v := ?_) rfl (by kernel_rfl) (by kernel_rfl) (by kernel_rfl) (fun _ _ _ h => h) (Or.inl ⟨by rfl, ?_⟩) (by assumption) ?_
      rotate_left
      focus
        intro w9 hSw
        (try dsimp only at hSw)
        have zK : ∀ {a9 : Addr} {u9 : Value}, ws.cell? a9 = some u9 → w9.cell? a9 = some u9 := fun {a9} {u9} h9 => (hSw.cell (World.block_lt_of_cell? ws a9 h9)).trans h9
        have z0 := zK x0
        have z1 := zK x1
        have z2 := zK x2
        have z3 := zK x3
        have z4 := zK y0
        have z5 := zK y1'
        have z6 := zK y2'
        have z7 := zK y3'
        clear zK hSw
        go_simp
        (try with_reducible rfl)
      (try simp only [Act.put, List.getElem_toArray, List.getElem_cons_succ, List.getElem_cons_zero, List.setIfInBounds_toArray, List.set_cons_zero, List.set_cons_succ])
      refine wpAnyH_take (i := 4) (v := ?_) rfl (by kernel_rfl) (by kernel_rfl) (by kernel_rfl) (fun _ _ _ h => h) (Or.inl ⟨by rfl, ?_⟩) (by assumption) ?_
      rotate_left
      focus
        intro w9 hSw
        (try dsimp only at hSw)
        have zK : ∀ {a9 : Addr} {u9 : Value}, ws.cell? a9 = some u9 → w9.cell? a9 = some u9 := fun {a9} {u9} h9 => (hSw.cell (World.block_lt_of_cell? ws a9 h9)).trans h9
        have z0 := zK x0
        have z1 := zK x1
        have z2 := zK x2
        have z3 := zK x3
        have z4 := zK y0
        have z5 := zK y1'
        have z6 := zK y2'
        have z7 := zK y3'
        clear zK hSw
        go_simp
        (try with_reducible rfl)
      (try simp only [Act.put, List.getElem_toArray, List.getElem_cons_succ, List.getElem_cons_zero, List.setIfInBounds_toArray, List.set_cons_zero, List.set_cons_succ])
      refine wpAnyH_take (i := 5) (v := ?_) rfl (by kernel_rfl) (by kernel_rfl) (by kernel_rfl) (fun _ _ _ h => h) (Or.inl ⟨by rfl, ?_⟩) (by assumption) ?_
      rotate_left
      focus
        intro w9 hSw
        (try dsimp only at hSw)
        have zK : ∀ {a9 : Addr} {u9 : Value}, ws.cell? a9 = some u9 → w9.cell? a9 = some u9 := fun {a9} {u9} h9 => (hSw.cell (World.block_lt_of_cell? ws a9 h9)).trans h9
        have z0 := zK x0
        have z1 := zK x1
        have z2 := zK x2
        have z3 := zK x3
        have z4 := zK y0
        have z5 := zK y1'
        have z6 := zK y2'
        have z7 := zK y3'
        clear zK hSw
        go_simp
        (try with_reducible rfl)
      (try simp only [Act.put, List.getElem_toArray, List.getElem_cons_succ, List.getElem_cons_zero, List.setIfInBounds_toArray, List.set_cons_zero, List.set_cons_succ])
      refine wpAnyH_take (i := 6) (v := ?_) rfl (by kernel_rfl) (by kernel_rfl) (by kernel_rfl) (fun _ _ _ h => h) (Or.inl ⟨by rfl, ?_⟩) (by assumption) ?_
      rotate_left
      focus
        intro w9 hSw
        (try dsimp only at hSw)
        have zK : ∀ {a9 : Addr} {u9 : Value}, ws.cell? a9 = some u9 → w9.cell? a9 = some u9 := fun {a9} {u9} h9 => (hSw.cell (World.block_lt_of_cell? ws a9 h9)).trans h9
        have z0 := zK x0
        have z1 := zK x1
        have z2 := zK x2
        have z3 := zK x3
        have z4 := zK y0
        have z5 := zK y1'
        have z6 := zK y2'
        have z7 := zK y3'
        clear zK hSw
        go_simp
        (try with_reducible rfl)
      (try simp only [Act.put, List.getElem_toArray, List.getElem_cons_succ, List.getElem_cons_zero, List.setIfInBounds_toArray, List.set_cons_zero, List.set_cons_succ])
      refine wpAnyH_take (i := 7) (v := ?_) rfl (by kernel_rfl) (by kernel_rfl) (by kernel_rfl) (fun _ _ _ h => h) (Or.inl ⟨by rfl, ?_⟩) (by assumption) ?_
      rotate_left
      focus
        intro w9 hSw
        (try dsimp only at hSw)
        have zK : ∀ {a9 : Addr} {u9 : Value}, ws.cell? a9 = some u9 → w9.cell? a9 = some u9 := fun {a9} {u9} h9 => (hSw.cell (World.block_lt_of_cell? ws a9 h9)).trans h9
        have z0 := zK x0
        have z1 := zK x1
        have z2 := zK x2
        have z3 := zK x3
        have z4 := zK y0
        have z5 := zK y1'
        have z6 := zK y2'
        have z7 := zK y3'
        clear zK hSw
        go_simp
        (try with_reducible rfl)
      (try simp only [Act.put, List.getElem_toArray, List.getElem_cons_succ, List.getElem_cons_zero, List.setIfInBounds_toArray, List.set_cons_zero, List.set_cons_succ])
      refine wpAnyH_take (i := 8) (v := ?_) rfl (by kernel_rfl) (by kernel_rfl) (by kernel_rfl) (fun _ _ _ h => h) (Or.inl ⟨by rfl, ?_⟩) (by assumption) ?_
      rotate_left
      focus
        intro w9 hSw
        (try dsimp only at hSw)
        have zK : ∀ {a9 : Addr} {u9 : Value}, ws.cell? a9 = some u9 → w9.cell? a9 = some u9 := fun {a9} {u9} h9 => (hSw.cell (World.block_lt_of_cell? ws a9 h9)).trans h9
        have z0 := zK x0
        have z1 := zK x1
        have z2 := zK x2
        have z3 := zK x3
        have z4 := zK y0
        have z5 := zK y1'
        have z6 := zK y2'
        have z7 := zK y3'
        clear zK hSw
        go_simp
        (try with_reducible rfl)
      (try simp only [Act.put, List.getElem_toArray, List.getElem_cons_succ, List.getElem_cons_zero, List.setIfInBounds_toArray, List.set_cons_zero, List.set_cons_succ])
      refine wpAnyH_ready (rs := [9]) (by kernel_rfl) (by simp) (AllReadyH.cons rfl (fun K hK => ?_) AllReadyH.nil)
      go_simp
      go_at_call 19
      refine (HSx.out _ (by repeat (first | exact Below.refl _ _ | assumption | refine Below.drew ?_ | refine below_drewN ?_ _ | refine below_alloc ?_ _))).mono ?_
      rintro e v1 ⟨rfl, hv1'⟩
      have hv1 := below_undrew hv1'
      clear hv1'
      refine hK.out _ _ ?_ (fun hHeld => ?_)
      focus exact hv1
      clear hK K
      (try simp only [Act.put, List.getElem_toArray, List.getElem_cons_succ, List.getElem_cons_zero, List.setIfInBounds_toArray, List.set_cons_zero, List.set_cons_succ])
      refine wpAnyH_take (i := 10) (v := ?_) rfl (by kernel_rfl) (by kernel_rfl) (by kernel_rfl) (fun _ _ _ h => h) (Or.inl ⟨by rfl, ?_⟩) (by assumption) ?_
      rotate_left
      focus
        intro w9 hSw
        (try dsimp only at hSw)
        have zK : ∀ {a9 : Addr} {u9 : Value}, ws.cell? a9 = some u9 → w9.cell? a9 = some u9 := fun {a9} {u9} h9 => (hSw.cell (World.block_lt_of_cell? ws a9 h9)).trans h9
        have z0 := zK x0
        have z1 := zK x1
        have z2 := zK x2
        have z3 := zK x3
        have z4 := zK z0'
        have z5 := zK z1'
        have z6 := zK z2'
        have z7 := zK z3'
        clear zK hSw
        go_simp
        (try with_reducible rfl)
      (try simp only [Act.put, List.getElem_toArray, List.getElem_cons_succ, List.getElem_cons_zero, List.setIfInBounds_toArray, List.set_cons_zero, List.set_cons_succ])
      refine wpAnyH_take (i := 11) (v := ?_) rfl (by kernel_rfl) (by kernel_rfl) (by kernel_rfl) (fun _ _ _ h => h) (Or.inl ⟨by rfl, ?_⟩) (by assumption) ?_
      rotate_left
      focus
        intro w9 hSw
        (try dsimp only at hSw)
        have zK : ∀ {a9 : Addr} {u9 : Value}, ws.cell? a9 = some u9 → w9.cell? a9 = some u9 := fun {a9} {u9} h9 => (hSw.cell (World.block_lt_of_cell? ws a9 h9)).trans h9
        have z0 := zK x0
        have z1 := zK x1
        have z2 := zK x2
        have z3 := zK x3
        have z4 := zK z0'
        have z5 := zK z1'
        have z6 := zK z2'
        have z7 := zK z3'
        clear zK hSw
        go_simp
        (try with_reducible rfl)
      (try simp only [Act.put, List.getElem_toArray, List.getElem_cons_succ, List.getElem_cons_zero, List.setIfInBounds_toArray, List.set_cons_zero, List.set_cons_succ])
      refine wpAnyH_take (i := 12) (v := ?_) rfl (by kernel_rfl) (by kernel_rfl) (by kernel_rfl) (fun _ _ _ h => h) (Or.inl ⟨by rfl, ?_⟩) (by assumption) ?_
      rotate_left
      focus
        intro w9 hSw
        (try dsimp only at hSw)
        have zK : ∀ {a9 : Addr} {u9 : Value}, ws.cell? a9 = some u9 → w9.cell? a9 = some u9 := fun {a9} {u9} h9 => (hSw.cell (World.block_lt_of_cell? ws a9 h9)).trans h9
        have z0 := zK x0
        have z1 := zK x1
        have z2 := zK x2
        have z3 := zK x3
        have z4 := zK z0'
        have z5 := zK z1'
        have z6 := zK z2'
        have z7 := zK z3'
        clear zK hSw
        go_simp
        (try with_reducible rfl)
      (try simp only [Act.put, List.getElem_toArray, List.getElem_cons_succ, List.getElem_cons_zero, List.setIfInBounds_toArray, List.set_cons_zero, List.set_cons_succ])
      refine wpAnyH_take (i := 13) (v := ?_) rfl (by kernel_rfl) (by kernel_rfl) (by kernel_rfl) (fun _ _ _ h => h) (Or.inl ⟨by rfl, ?_⟩) (by assumption) ?_
      rotate_left
      focus
        intro w9 hSw
        (try dsimp only at hSw)
        have zK : ∀ {a9 : Addr} {u9 : Value}, ws.cell? a9 = some u9 → w9.cell? a9 = some u9 := fun {a9} {u9} h9 => (hSw.cell (World.block_lt_of_cell? ws a9 h9)).trans h9
        have z0 := zK x0
        have z1 := zK x1
        have z2 := zK x2
        have z3 := zK x3
        have z4 := zK z0'
        have z5 := zK z1'
        have z6 := zK z2'
        have z7 := zK z3'
        clear zK hSw
        go_simp
        (try with_reducible rfl)
      (try simp only [Act.put, List.getElem_toArray, List.getElem_cons_succ, List.getElem_cons_zero, List.setIfInBounds_toArray, List.set_cons_zero, List.set_cons_succ])
      refine wpAnyH_take (i := 14) (v := ?_) rfl (by kernel_rfl) (by kernel_rfl) (by kernel_rfl) (fun _ _ _ h => h) (Or.inl ⟨by rfl, ?_⟩) (by assumption) ?_
      rotate_left
      focus
        intro w9 hSw
        (try dsimp only at hSw)
        have zK : ∀ {a9 : Addr} {u9 : Value}, ws.cell? a9 = some u9 → w9.cell? a9 = some u9 := fun {a9} {u9} h9 => (hSw.cell (World.block_lt_of_cell? ws a9 h9)).trans h9
        have z0 := zK x0
        have z1 := zK x1
        have z2 := zK x2
        have z3 := zK x3
        have z4 := zK z0'
        have z5 := zK z1'
        have z6 := zK z2'
        have z7 := zK z3'
        clear zK hSw
        go_simp
        (try with_reducible rfl)
      (try simp only [Act.put, List.getElem_toArray, List.getElem_cons_succ, List.getElem_cons_zero, List.setIfInBounds_toArray, List.set_cons_zero, List.set_cons_succ])
      refine wpAnyH_take (i := 15) (v := ?_) rfl (by kernel_rfl) (by kernel_rfl) (by kernel_rfl) (fun _ _ _ h => h) (Or.inl ⟨by rfl, ?_⟩) (by assumption) ?_
      rotate_left
      focus
        intro w9 hSw
        (try dsimp only at hSw)
        have zK : ∀ {a9 : Addr} {u9 : Value}, ws.cell? a9 = some u9 → w9.cell? a9 = some u9 := fun {a9} {u9} h9 => (hSw.cell (World.block_lt_of_cell? ws a9 h9)).trans h9
        have z0 := zK x0
        have z1 := zK x1
        have z2 := zK x2
        have z3 := zK x3
        have z4 := zK z0'
        have z5 := zK z1'
        have z6 := zK z2'
        have z7 := zK z3'
        clear zK hSw
        go_simp
        (try with_reducible rfl)
      (try simp only [Act.put, List.getElem_toArray, List.getElem_cons_succ, List.getElem_cons_zero, List.setIfInBounds_toArray, List.set_cons_zero, List.set_cons_succ])
      refine wpAnyH_take (i := 16) (v := ?_) rfl (by kernel_rfl) (by kernel_rfl) (by kernel_rfl) (fun _ _ _ h => h) (Or.inl ⟨by rfl, ?_⟩) (by assumption) ?_
      rotate_left
      focus
        intro w9 hSw
        (try dsimp only at hSw)
        have zK : ∀ {a9 : Addr} {u9 : Value}, ws.cell? a9 = some u9 → w9.cell? a9 = some u9 := fun {a9} {u9} h9 => (hSw.cell (World.block_lt_of_cell? ws a9 h9)).trans h9
        have z0 := zK x0
        have z1 := zK x1
        have z2 := zK x2
        have z3 := zK x3
        have z4 := zK z0'
        have z5 := zK z1'
        have z6 := zK z2'
        have z7 := zK z3'
        clear zK hSw
        go_simp
        (try with_reducible rfl)
      (try simp only [Act.put, List.getElem_toArray, List.getElem_cons_succ, List.getElem_cons_zero, List.setIfInBounds_toArray, List.set_cons_zero, List.set_cons_succ])
      refine wpAnyH_take (i := 17) (v := ?_) rfl (by kernel_rfl) (by kernel_rfl) (by kernel_rfl) (fun _ _ _ h => h) (Or.inl ⟨by rfl, ?_⟩) (by assumption) ?_
      rotate_left
      focus
        intro w9 hSw
        (try dsimp only at hSw)
        have zK : ∀ {a9 : Addr} {u9 : Value}, ws.cell? a9 = some u9 → w9.cell? a9 = some u9 := fun {a9} {u9} h9 => (hSw.cell (World.block_lt_of_cell? ws a9 h9)).trans h9
        have z0 := zK x0
        have z1 := zK x1
        have z2 := zK x2
        have z3 := zK x3
        have z4 := zK z0'
        have z5 := zK z1'
        have z6 := zK z2'
        have z7 := zK z3'
        clear zK hSw
        go_simp
        (try with_reducible rfl)
      (try simp only [Act.put, List.getElem_toArray, List.getElem_cons_succ, List.getElem_cons_zero, List.setIfInBounds_toArray, List.set_cons_zero, List.set_cons_succ])
      refine wpAnyH_take (i := 18) (v := ?_) rfl (by kernel_rfl) (by kernel_rfl) (by kernel_rfl) (fun _ _ _ h => h) (Or.inl ⟨by rfl, ?_⟩) (by assumption) ?_
      rotate_left
      focus
        intro w9 hSw
        (try dsimp only at hSw)
        have zK : ∀ {a9 : Addr} {u9 : Value}, ws.cell? a9 = some u9 → w9.cell? a9 = some u9 := fun {a9} {u9} h9 => (hSw.cell (World.block_lt_of_cell? ws a9 h9)).trans h9
        have z0 := zK x0
        have z1 := zK x1
        have z2 := zK x2
        have z3 := zK x3
        have z4 := zK z0'
        have z5 := zK z1'
        have z6 := zK z2'
        have z7 := zK z3'
        clear zK hSw
        go_simp
        (try with_reducible rfl)
      (try simp only [Act.put, List.getElem_toArray, List.getElem_cons_succ, List.getElem_cons_zero, List.setIfInBounds_toArray, List.set_cons_zero, List.set_cons_succ])
      refine wpAnyH_take (i := 19) (v := ?_) rfl (by kernel_rfl) (by kernel_rfl) (by kernel_rfl) (fun _ _ _ h => h) (Or.inl ⟨by rfl, ?_⟩) (by assumption) ?_
      rotate_left
      focus
        intro w9 hSw
        (try dsimp only at hSw)
        have zK : ∀ {a9 : Addr} {u9 : Value}, ws.cell? a9 = some u9 → w9.cell? a9 = some u9 := fun {a9} {u9} h9 => (hSw.cell (World.block_lt_of_cell? ws a9 h9)).trans h9
        have z0 := zK x0
        have z1 := zK x1
        have z2 := zK x2
        have z3 := zK x3
        have z4 := zK z0'
        have z5 := zK z1'
        have z6 := zK z2'
        have z7 := zK z3'
        clear zK hSw
        go_simp
        (try with_reducible rfl)
      (try simp only [Act.put, List.getElem_toArray, List.getElem_cons_succ, List.getElem_cons_zero, List.setIfInBounds_toArray, List.set_cons_zero, List.set_cons_succ])
      refine wpAnyH_take (i := 20) (v := ?_) rfl (by kernel_rfl) (by kernel_rfl) (by kernel_rfl) (fun _ _ _ h => h) (Or.inl ⟨by rfl, ?_⟩) (by assumption) ?_
      rotate_left
      focus
        intro w9 hSw
        (try dsimp only at hSw)
        have zK : ∀ {a9 : Addr} {u9 : Value}, ws.cell? a9 = some u9 → w9.cell? a9 = some u9 := fun {a9} {u9} h9 => (hSw.cell (World.block_lt_of_cell? ws a9 h9)).trans h9
        have z0 := zK x0
        have z1 := zK x1
        have z2 := zK x2
        have z3 := zK x3
        have z4 := zK z0'
        have z5 := zK z1'
        have z6 := zK z2'
        have z7 := zK z3'
        clear zK hSw
        go_simp
        (try with_reducible rfl)
      (try simp only [Act.put, List.getElem_toArray, List.getElem_cons_succ, List.getElem_cons_zero, List.setIfInBounds_toArray, List.set_cons_zero, List.set_cons_succ])
      refine wpAnyH_take (i := 21) (v := ?_) rfl (by kernel_rfl) (by kernel_rfl) (by kernel_rfl) (fun _ _ _ h => h) (Or.inl ⟨by rfl, ?_⟩) (by assumption) ?_
      rotate_left
      focus
        intro w9 hSw
        (try dsimp only at hSw)
        have zK : ∀ {a9 : Addr} {u9 : Value}, ws.cell? a9 = some u9 → w9.cell? a9 = some u9 := fun {a9} {u9} h9 => (hSw.cell (World.block_lt_of_cell? ws a9 h9)).trans h9
        have z0 := zK x0
        have z1 := zK x1
        have z2 := zK x2
        have z3 := zK x3
        have z4 := zK z0'
        have z5 := zK z1'
        have z6 := zK z2'
        have z7 := zK z3'
        clear zK hSw
        go_simp
        (try with_reducible rfl)
      (try simp only [Act.put, List.getElem_toArray, List.getElem_cons_succ, List.getElem_cons_zero, List.setIfInBounds_toArray, List.set_cons_zero, List.set_cons_succ])
      refine wpAnyH_take (i := 22) (v := undef) rfl (by kernel_rfl) (by kernel_rfl) (by kernel_rfl) (fun _ _ _ h => h) (Or.inr ⟨by rfl, rfl⟩) (by assumption) ?_
      (try simp only [Act.put, List.getElem_toArray, List.getElem_cons_succ, List.getElem_cons_zero, List.setIfInBounds_toArray, List.set_cons_zero, List.set_cons_succ])
      refine wpAnyH_take (i := 23) (v := undef) rfl (by kernel_rfl) (by kernel_rfl) (by kernel_rfl) (fun _ _ _ h => h) (Or.inr ⟨by rfl, rfl⟩) (by assumption) ?_
      (try simp only [Act.put, List.getElem_toArray, List.getElem_cons_succ, List.getElem_cons_zero, List.setIfInBounds_toArray, List.set_cons_zero, List.set_cons_succ])
      refine wpAnyH_take (i := 24) (v := undef) rfl (by kernel_rfl) (by kernel_rfl) (by kernel_rfl) (fun _ _ _ h => h) (Or.inr ⟨by rfl, rfl⟩) (by assumption) ?_
      (try simp only [Act.put, List.getElem_toArray, List.getElem_cons_succ, List.getElem_cons_zero, List.setIfInBounds_toArray, List.set_cons_zero, List.set_cons_succ])
      refine wpAnyH_take (i := 25) (v := undef) rfl (by kernel_rfl) (by kernel_rfl) (by kernel_rfl) (fun _ _ _ h => h) (Or.inr ⟨by rfl, rfl⟩) (by assumption) ?_
      (try simp only [Act.put, List.getElem_toArray, List.getElem_cons_succ, List.getElem_cons_zero, List.setIfInBounds_toArray, List.set_cons_zero, List.set_cons_succ])
      refine wpAnyH_take (i := 26) (v := undef) rfl (by kernel_rfl) (by kernel_rfl) (by kernel_rfl) (fun _ _ _ h => h) (Or.inr ⟨by rfl, rfl⟩) (by assumption) ?_
      (try simp only [Act.put, List.getElem_toArray, List.getElem_cons_succ, List.getElem_cons_zero, List.setIfInBounds_toArray, List.set_cons_zero, List.set_cons_succ])
      refine wpAnyH_take (i := 27) (v := undef) rfl (by kernel_rfl) (by kernel_rfl) (by kernel_rfl) (fun _ _ _ h => h) (Or.inr ⟨by rfl, rfl⟩) (by assumption) ?_
      (try simp only [Act.put, List.getElem_toArray, List.getElem_cons_succ, List.getElem_cons_zero, List.setIfInBounds_toArray, List.set_cons_zero, List.set_cons_succ])
      refine wpAnyH_take (i := 28) (v := undef) rfl (by kernel_rfl) (by kernel_rfl) (by kernel_rfl) (fun _ _ _ h => h) (Or.inr ⟨by rfl, rfl⟩) (by assumption) ?_
      (try simp only [Act.put, List.getElem_toArray, List.getElem_cons_succ, List.getElem_cons_zero, List.setIfInBounds_toArray, List.set_cons_zero, List.set_cons_succ])
      refine wpAnyH_take (i := 29) (v := undef) rfl (by kernel_rfl) (by kernel_rfl) (by kernel_rfl) (fun _ _ _ h => h) (Or.inr ⟨by rfl, rfl⟩) (by assumption) ?_
      (try simp only [Act.put, List.getElem_toArray, List.getElem_cons_succ, List.getElem_cons_zero, List.setIfInBounds_toArray, List.set_cons_zero, List.set_cons_succ])
      refine wpAnyH_take (i := 30) (v := undef) rfl (by kernel_rfl) (by kernel_rfl) (by kernel_rfl) (fun _ _ _ h => h) (Or.inr ⟨by rfl, rfl⟩) (by assumption) ?_
      (try simp only [Act.put, List.getElem_toArray, List.getElem_cons_succ, List.getElem_cons_zero, List.setIfInBounds_toArray, List.set_cons_zero, List.set_cons_succ])
      refine wpAnyH_take (i := 31) (v := undef) rfl (by kernel_rfl) (by kernel_rfl) (by kernel_rfl) (fun _ _ _ h => h) (Or.inr ⟨by rfl, rfl⟩) (by assumption) ?_
      (try simp only [Act.put, List.getElem_toArray, List.getElem_cons_succ, List.getElem_cons_zero, List.setIfInBounds_toArray, List.set_cons_zero, List.set_cons_succ])
      refine wpAnyH_take (i := 32) (v := undef) rfl (by kernel_rfl) (by kernel_rfl) (by kernel_rfl) (fun _ _ _ h => h) (Or.inr ⟨by rfl, rfl⟩) (by assumption) ?_
      (try simp only [Act.put, List.getElem_toArray, List.getElem_cons_succ, List.getElem_cons_zero, List.setIfInBounds_toArray, List.set_cons_zero, List.set_cons_succ])
      refine wpAnyH_take (i := 33) (v := undef) rfl (by kernel_rfl) (by kernel_rfl) (by kernel_rfl) (fun _ _ _ h => h) (Or.inr ⟨by rfl, rfl⟩) (by assumption) ?_
      (try simp only [Act.put, List.getElem_toArray, List.getElem_cons_succ, List.getElem_cons_zero, List.setIfInBounds_toArray, List.set_cons_zero, List.set_cons_succ])
      refine wpAnyH_take (i := 34) (v := undef) rfl (by kernel_rfl) (by kernel_rfl) (by kernel_rfl) (fun _ _ _ h => h) (Or.inr ⟨by rfl, rfl⟩) (by assumption) ?_
      (try simp only [Act.put, List.getElem_toArray, List.getElem_cons_succ, List.getElem_cons_zero, List.setIfInBounds_toArray, List.set_cons_zero, List.set_cons_succ])
      refine wpAnyH_take (i := 35) (v := ?_) rfl (by kernel_rfl) (by kernel_rfl) (by kernel_rfl) (fun _ _ _ h => h) (Or.inl ⟨by rfl, ?_⟩) (by assumption) ?_
      rotate_left
      focus
        intro w9 hSw
        (try dsimp only at hSw)
        have zK : ∀ {a9 : Addr} {u9 : Value}, ws.cell? a9 = some u9 → w9.cell? a9 = some u9 := fun {a9} {u9} h9 => (hSw.cell (World.block_lt_of_cell? ws a9 h9)).trans h9
        have z0 := zK x0
        have z1 := zK x1
        have z2 := zK x2
        have z3 := zK x3
        have z4 := zK z0'
        have z5 := zK z1'
        have z6 := zK z2'
        have z7 := zK z3'
        clear zK hSw
        go_simp
        (try with_reducible rfl)
      (try simp only [Act.put, List.getElem_toArray, List.getElem_cons_succ, List.getElem_cons_zero, List.setIfInBounds_toArray, List.set_cons_zero, List.set_cons_succ])
      refine wpAnyH_take (i := 36) (v := ?_) rfl (by kernel_rfl) (by kernel_rfl) (by kernel_rfl) (fun _ _ _ h => h) (Or.inl ⟨by rfl, ?_⟩) (by assumption) ?_
      rotate_left
      focus
        intro w9 hSw
        (try dsimp only at hSw)
        have zK : ∀ {a9 : Addr} {u9 : Value}, ws.cell? a9 = some u9 → w9.cell? a9 = some u9 := fun {a9} {u9} h9 => (hSw.cell (World.block_lt_of_cell? ws a9 h9)).trans h9
        have z0 := zK x0
        have z1 := zK x1
        have z2 := zK x2
        have z3 := zK x3
        have z4 := zK z0'
        have z5 := zK z1'
        have z6 := zK z2'
        have z7 := zK z3'
        clear zK hSw
        go_simp
        (try with_reducible rfl)
      (try simp only [Act.put, List.getElem_toArray, List.getElem_cons_succ, List.getElem_cons_zero, List.setIfInBounds_toArray, List.set_cons_zero, List.set_cons_succ])
      refine wpAnyH_done (by kernel_rfl) ?_ _
      (try simp only [Act.put, List.getElem_toArray, List.getElem_cons_succ, List.getElem_cons_zero, List.setIfInBounds_toArray, List.set_cons_zero, List.set_cons_succ])
      have hbn := bbw.trans (hv1.mono bbw.size)
      have kn := kp2.below hv1 kp2.lt
      have rn := rp2.to (Nat.le_refl _) hv1
      go_wp2
      go_roundw
      case rel => exact ⟨4 + 1, by omega, by go_num, hbn, kn, rn⟩
      case measure => simp [intOf]
    · go_wp2_with (first
        | (go_at_call 13; go_must (refine (HK.out _).mono ?_); rintro e w9 ⟨rfl, hb9⟩))
      go_ret
      exact ⟨rfl, below_then hbr hb9⟩
end Go.Proofs.Yticjiodnolngcaa.hueColours
