/- Pictures of one place, fore and back; known. -/
import Derived.Test.YticjiodnolngcaaHuePt
import Derived.Test.YticjiodnolngcaaHueF
import Derived.Test.YticjiodnolngcaaHueB
import Derived.Test.YticjiodnolngcaaPicSame
set_option linter.unusedSimpArgs false
set_option linter.unusedVariables false
namespace Go.Proofs.Yticjiodnolngcaa
open Go.RowKit

theorem below_undrew' {a b c : World} (h : Below a.heap.size a b) (k : Below b.drew.heap.size b.drew c) : Below a.heap.size a c := h.trans ((below_undrew k).mono h.size)
def c4L (l : List Int) : C4 := ⟨l.getD 0 0, l.getD 1 0, l.getD 2 0, l.getD 3 0⟩
def ptF (f : C4 → C4) (l : List Int) : List Int := (List.range l.length).map fun k => (f (c4L l)).sel k
theorem ptF_length (f : C4 → C4) (l : List Int) : (ptF f l).length = l.length := by simp [ptF]
theorem getD_ptLL (l : List Int) (k : Nat) : ((ptLL l).getD k []).getD 0 0 = l.getD k 0 := by
  simp only [ptLL, List.getD, List.getElem?_map]
  cases l[k]? <;> simp
theorem hueLL_pt (f : C4 → C4) (l : List Int) : hueLL f (ptLL l) (1 * 1) = ptLL (ptF f l) := by
  have e : colC (ptLL l) 0 = c4L l := by simp only [colC, c4L, getD_ptLL]
  rw [hueLL, ptLL_length, show ptLL (ptF f l) = (List.range l.length).map (fun k => [(f (c4L l)).sel k]) by rw [ptLL, ptF, List.map_map]; rfl]
  refine List.map_congr_left fun k _ => ?_
  show (List.range 1).map (fun i => (f (colC (ptLL l) i)).sel k) = _
  rw [show List.range 1 = [0] from rfl, List.map_cons, List.map_nil, e]
theorem pt_isB {l : List Int} {d : Nat} (h1 : 1 ≤ l.length) (h4 : l.length ≤ 4) (hd : 1 ≤ d ∧ d ≤ 16) (hv : ∀ v ∈ l, 0 ≤ v ∧ v < 2 ^ d) : isB ⟨((1 : Nat) : Int), ((1 : Nat) : Int), (d : Int), ptLL l⟩ = true := by
  refine isB_mk (by omega) (by omega) (by omega) (by omega) (by omega) (by omega) (by rw [ptLL_length]; exact h1) (by rw [ptLL_length]; exact h4) fun x hx => ?_
  simp only [ptLL, List.mem_map] at hx
  obtain ⟨v, hv', rfl⟩ := hx
  refine ⟨rfl, fun u hu => ?_⟩
  simp only [List.mem_singleton] at hu
  subst hu
  simp only [okV, decide_eq_true_eq, Int.toNat_natCast]
  exact hv _ hv'

theorem forept_any {w : World} {B : Nat} {l : List Int} {d : Nat} {A : Option Addr} {c : Nat} (hr : RdLL w B .i64 A (ptLL l)) (hB : B ≤ w.heap.size) (h1 : 1 ≤ l.length) (h4 : l.length ≤ 4) (hd : 1 ≤ d ∧ d ≤ 16) (hv : ∀ v ∈ l, 0 ≤ v ∧ v < 2 ^ d) (kind : Int) (hm : mayB l.length kind = true) :
    Calls Try.prog 11 #[.agg #[.int .i64 1, .int .i64 1, .int .i64 (d : Int), .slice A l.length c], .int .i64 kind] w fun e w' => ∃ A' c', e = .returned (.tuple #[.agg #[.int .i64 1, .int .i64 1, .int .i64 (d : Int), .slice A' l.length c'], .int .i64 0]) ∧
      OwnLL w' w.heap.size 22 3 .i64 (.slice A' l.length c') (ptLL (ptF (foreC kind d) l)) ∧ Below w.heap.size w w' := by
  have h := huefore_yes (c := c) hr hB (pt_isB h1 h4 hd hv) kind (by rw [ptLL_length]; exact hm)
  rw [hueLL_pt, ptLL_length] at h
  exact h
theorem backpt_any {w : World} {B : Nat} {l : List Int} {d : Nat} {A : Option Addr} {c : Nat} (hr : RdLL w B .i64 A (ptLL l)) (hB : B ≤ w.heap.size) (h1 : 1 ≤ l.length) (h4 : l.length ≤ 4) (hd : 1 ≤ d ∧ d ≤ 16) (hv : ∀ v ∈ l, 0 ≤ v ∧ v < 2 ^ d) (kind : Int) (hm : mayB l.length kind = true) :
    Calls Try.prog 18 #[.agg #[.int .i64 1, .int .i64 1, .int .i64 (d : Int), .slice A l.length c], .int .i64 kind] w fun e w' => ∃ A' c', e = .returned (.tuple #[.agg #[.int .i64 1, .int .i64 1, .int .i64 (d : Int), .slice A' l.length c'], .int .i64 0]) ∧
      OwnLL w' w.heap.size 22 3 .i64 (.slice A' l.length c') (ptLL (ptF (backC kind d) l)) ∧ Below w.heap.size w w' := by
  have h := hueback_yes (c := c) hr hB (pt_isB h1 h4 hd hv) kind (by rw [ptLL_length]; exact hm)
  rw [hueLL_pt, ptLL_length] at h
  exact h
theorem may_is {n k : Int} {b : Bool} (h : mayB n k = b) (w : World) : Calls Try.prog 17 #[.int .i64 n, .int .i64 k] w fun e w' => e = .returned (.bool b) ∧ w = w' := h ▸ may_any n k w
theorem samept_any {w : World} {B : Nat} {A A2 : Option Addr} {c c2 : Nat} {l : List Int} (d : Int) (hl : l.length ≤ 4) (hr : RdLL w B .i64 A (ptLL l)) (hr2 : RdLL w B .i64 A2 (ptLL l)) (hB : B ≤ w.heap.size) :
    Calls Try.prog 19 #[.agg #[.int .i64 1, .int .i64 1, .int .i64 d, .slice A l.length c], .agg #[.int .i64 1, .int .i64 1, .int .i64 d, .slice A2 l.length c2]] w fun e w' => e = .returned (.bool true) ∧ Below w.heap.size w w' := by
  have h := same_any (a := ⟨1, 1, d, ptLL l⟩) (b := ⟨1, 1, d, ptLL l⟩) (c := c) (c2 := c2) hr hr2 hB ⟨by rw [ptLL_length]; omega, fun x hx => by
    simp only [ptLL, List.mem_map] at hx
    obtain ⟨v, _, rfl⟩ := hx
    simp⟩
  simp only [ptLL_length] at h
  rw [show sameB ⟨1, 1, d, ptLL l⟩ ⟨1, 1, d, ptLL l⟩ = true by simp [sameB]] at h
  exact h

set_option maxHeartbeats 8000000 in
set_option maxRecDepth 100000 in
theorem known_any (w : World) : Calls Try.prog 13 #[] w fun e w' => e = .returned (.bool true) ∧ Below w.heap.size w w' := by
  have F1 : ptF (foreC 1 (8 : Nat)) [10, 20, 250] = [246, 20, 230] := by decide
  have F2 : ptF (foreC 2 (8 : Nat)) [10, 20, 250] = [11, 16, 18] := by decide
  have HP1 : ∀ (W : World) (g : Nat), g = W.heap.size → Calls Try.prog 21 #[.int .i64 8, .slice (some ⟨g, 0, none⟩) 3 3] (W.alloc (.cells #[.int .i64 10, .int .i64 20, .int .i64 250] 3)) fun e w' => ∃ A' c', e = .returned (.agg #[.int .i64 1, .int .i64 1, .int .i64 8, .slice A' 3 c']) ∧ OwnLL w' (W.alloc (.cells #[.int .i64 10, .int .i64 20, .int .i64 250] 3)).heap.size 22 3 .i64 (.slice A' 3 c') (ptLL [10, 20, 250]) ∧ Below (W.alloc (.cells #[.int .i64 10, .int .i64 20, .int .i64 250] 3)).heap.size (W.alloc (.cells #[.int .i64 10, .int .i64 20, .int .i64 250] 3)) w' := fun W g hg => hg ▸ point_any (RdI.lit W .i64 [10, 20, 250] 3 #[.int .i64 10, .int .i64 20, .int .i64 250] rfl) (show W.heap.size + 1 ≤ (W.alloc (.cells #[.int .i64 10, .int .i64 20, .int .i64 250] 3)).heap.size by simp) (c := 3) (by decide) 8
  have HF1 := fun (W : World) (A : Option Addr) (c : Nat) (hr : RdLL W W.heap.size .i64 A (ptLL [10, 20, 250])) => forept_any (d := 8) (c := c) hr (Nat.le_refl _) (by decide) (by decide) (by omega) (by decide) 1 (by decide)
  have HF2 := fun (W : World) (A : Option Addr) (c : Nat) (hr : RdLL W W.heap.size .i64 A (ptLL [10, 20, 250])) => forept_any (d := 8) (c := c) hr (Nat.le_refl _) (by decide) (by decide) (by omega) (by decide) 2 (by decide)
  rw [F1] at HF1
  rw [F2] at HF2
  have l3 : ([10, 20, 250] : List Int).length = 3 := rfl
  simp only [l3, show ((8 : Nat) : Int) = 8 from rfl] at HF1 HF2
  replace HP1 := Lib.hid HP1
  replace HF1 := Lib.hid HF1
  replace HF2 := Lib.hid HF2
  clear F1 F2 l3
  go_enter Try.func13, Try.ntmps13
  go_wp2_with (first
    | (go_at_call 21; go_must (refine (HP1.out _ _ (by simp)).mono ?_); rintro e w1 ⟨A1, c1, rfl, ho1, hb1⟩; have hr1 := rdOwn ho1 (Below.refl _ _); have bb1 := below_then (below_alloc (Below.refl _ _) _) hb1)
    | (go_at_call 11; (with_reducible refine (HF1.out _ _ _ hr1).mono ?_); rintro e w2 ⟨A2, c2, rfl, ho2, hb2⟩; have bz2 := below_then bb1 hb2; clear hr1 bb1)
    | (go_at_call 11; (with_reducible refine (HF2.out _ _ _ hr1).mono ?_); rintro e w4 ⟨A4, c4, rfl, ho4, hb4⟩; have bz4 := below_then bb1 hb4; clear hr1 bb1))
  have k2 := ((Blk.new w2 27 #[.int .i64 1, .int .i64 1, .int .i64 8, .slice A2 3 c2]).below bz4 (by simp)).alloc (.cells #[.int .i64 1, .int .i64 1, .int .i64 8, .slice A4 3 c4] 27)
  have k4 := Blk.new w4 27 #[.int .i64 1, .int .i64 1, .int .i64 8, .slice A4 3 c4]
  have y4 := below_alloc (Below.refl w4.heap.size w4) (.cells #[.int .i64 1, .int .i64 1, .int .i64 8, .slice A4 3 c4] 27)
  have y2 := below_then (below_then (below_alloc (Below.refl w2.heap.size w2) (.cells #[.int .i64 1, .int .i64 1, .int .i64 8, .slice A2 3 c2] 27)) bz4) y4
  have bbs := bz2.trans (y2.mono bz2.size)
  have r2 := rdOwn ho2 y2
  have r4 := rdOwn ho4 y4
  generalize w4.alloc (.cells #[.int .i64 1, .int .i64 1, .int .i64 8, .slice A4 3 c4] 27) = ws at *
  obtain ⟨x0, x1, x2, x3, _⟩ := k2.four
  obtain ⟨y0, y1, y2, y3, _⟩ := k4.four
  have HQ1 := Lib.hid (fun (W : World) (A : Option Addr) (c : Nat) (hb : Below ws.heap.size ws W) (hr : RdLL W W.heap.size .i64 A (ptLL [246, 20, 230])) => samept_any (l := [246, 20, 230]) (c := c2) (c2 := c) 8 (by decide) (r2.to (Nat.le_refl _) hb) hr (Nat.le_refl _))
  have HQ2 := Lib.hid (fun (W : World) (A : Option Addr) (c : Nat) (hb : Below ws.heap.size ws W) (hr : RdLL W W.heap.size .i64 A (ptLL [11, 16, 18])) => samept_any (l := [11, 16, 18]) (c := c4) (c2 := c) 8 (by decide) (r4.to (Nat.le_refl _) hb) hr (Nat.le_refl _))
  clear k2 k4 bz4 bz2 ho2 ho4 hb2 hb4 r2 r4 HP1 HF1 HF2 y4
  refine wp_region_held_drew (S := (fun w' => Below ws.heap.size ws w')) (by kernel_rfl) ?_ (fun hHeld => ?_)
  focus exact (Below.refl _ _).drew
  refine wpAnyH_take (i := 0) (v := ?_) rfl (by kernel_rfl) (by kernel_rfl) (by kernel_rfl) (fun _ _ _ h => h) (Or.inl ⟨by kernel_rfl, ?_⟩) (by assumption) ?_
  rotate_left
  focus
    intro w9 hSw
    (try dsimp only at hSw)
    have zK : ∀ {a9 : Addr} {u9 : Value}, ws.cell? a9 = some u9 → w9.cell? a9 = some u9 := fun {a9} {u9} h9 => (hSw.cell (World.block_lt_of_cell? ws a9 h9)).trans h9
    have z0 := zK x0
    have z1 := zK x1
    have z2 := zK x2
    have z3 := zK x3
    clear zK hSw
    go_simp
    (try with_reducible rfl)
  (try simp only [Act.put, List.getElem_toArray, List.getElem_cons_succ, List.getElem_cons_zero, List.setIfInBounds_toArray, List.set_cons_zero, List.set_cons_succ])
  refine wpAnyH_take (i := 1) (v := ?_) rfl (by kernel_rfl) (by kernel_rfl) (by kernel_rfl) (fun _ _ _ h => h) (Or.inl ⟨by kernel_rfl, ?_⟩) (by assumption) ?_
  rotate_left
  focus
    intro w9 hSw
    (try dsimp only at hSw)
    have zK : ∀ {a9 : Addr} {u9 : Value}, ws.cell? a9 = some u9 → w9.cell? a9 = some u9 := fun {a9} {u9} h9 => (hSw.cell (World.block_lt_of_cell? ws a9 h9)).trans h9
    have z0 := zK x0
    have z1 := zK x1
    have z2 := zK x2
    have z3 := zK x3
    clear zK hSw
    go_simp
    (try with_reducible rfl)
  (try simp only [Act.put, List.getElem_toArray, List.getElem_cons_succ, List.getElem_cons_zero, List.setIfInBounds_toArray, List.set_cons_zero, List.set_cons_succ])
  refine wpAnyH_take (i := 2) (v := ?_) rfl (by kernel_rfl) (by kernel_rfl) (by kernel_rfl) (fun _ _ _ h => h) (Or.inl ⟨by kernel_rfl, ?_⟩) (by assumption) ?_
  rotate_left
  focus
    intro w9 hSw
    (try dsimp only at hSw)
    have zK : ∀ {a9 : Addr} {u9 : Value}, ws.cell? a9 = some u9 → w9.cell? a9 = some u9 := fun {a9} {u9} h9 => (hSw.cell (World.block_lt_of_cell? ws a9 h9)).trans h9
    have z0 := zK x0
    have z1 := zK x1
    have z2 := zK x2
    have z3 := zK x3
    clear zK hSw
    go_simp
    (try with_reducible rfl)
  (try simp only [Act.put, List.getElem_toArray, List.getElem_cons_succ, List.getElem_cons_zero, List.setIfInBounds_toArray, List.set_cons_zero, List.set_cons_succ])
  refine wpAnyH_take (i := 3) (v := ?_) rfl (by kernel_rfl) (by kernel_rfl) (by kernel_rfl) (fun _ _ _ h => h) (Or.inl ⟨by kernel_rfl, ?_⟩) (by assumption) ?_
  rotate_left
  focus
    intro w9 hSw
    (try dsimp only at hSw)
    have zK : ∀ {a9 : Addr} {u9 : Value}, ws.cell? a9 = some u9 → w9.cell? a9 = some u9 := fun {a9} {u9} h9 => (hSw.cell (World.block_lt_of_cell? ws a9 h9)).trans h9
    have z0 := zK x0
    have z1 := zK x1
    have z2 := zK x2
    have z3 := zK x3
    clear zK hSw
    go_simp
    (try with_reducible rfl)
  (try simp only [Act.put, List.getElem_toArray, List.getElem_cons_succ, List.getElem_cons_zero, List.setIfInBounds_toArray, List.set_cons_zero, List.set_cons_succ])
  refine wpAnyH_ready (rs := [4]) (by kernel_rfl) (by simp) (AllReadyH.cons rfl (fun K hK => ?_) AllReadyH.nil)
  go_simp
  refine hK.out _ _ ?_ (fun hHeld => ?_)
  focus exact Below.drew (below_alloc (Below.refl _ _) _)
  clear hK K
  (try simp only [Act.put, List.getElem_toArray, List.getElem_cons_succ, List.getElem_cons_zero, List.setIfInBounds_toArray, List.set_cons_zero, List.set_cons_succ])
  refine wpAnyH_ready (rs := [5]) (by kernel_rfl) (by simp) (AllReadyH.cons rfl (fun K hK => ?_) AllReadyH.nil)
  go_simp
  go_at_call 21
  refine (point_any (w := (ws.alloc (.cells #[.int .i64 246, .int .i64 20, .int .i64 230] 3)).drew) (l := [246, 20, 230]) (RdI.lit ws .i64 [246, 20, 230] 3 #[.int .i64 246, .int .i64 20, .int .i64 230] rfl) (by simp) (by decide) 8).mono ?_
  rintro e v1 ⟨A5, c5, rfl, ho5, hb5⟩
  have hv1 : Below ws.heap.size ws v1 := below_undrew' (below_alloc (Below.refl ws.heap.size ws) (.cells #[.int .i64 246, .int .i64 20, .int .i64 230] 3)) hb5
  have r5 := rdOwn ho5 (Below.refl _ _)
  refine hK.out _ _ ?_ (fun hHeld => ?_)
  focus exact hv1
  clear hK K
  (try simp only [Act.put, List.getElem_toArray, List.getElem_cons_succ, List.getElem_cons_zero, List.setIfInBounds_toArray, List.set_cons_zero, List.set_cons_succ])
  refine wpAnyH_ready (rs := [6]) (by kernel_rfl) (by simp) (AllReadyH.cons rfl (fun K hK => ?_) AllReadyH.nil)
  go_simp
  go_at_call 19
  refine (HQ1.out _ _ _ hv1 r5).mono ?_
  rintro e v2 ⟨rfl, hv2'⟩
  have hv2 := below_then hv1 hv2'
  refine hK.out _ _ ?_ (fun hHeld => ?_)
  focus exact hv2
  clear hK K
  (try simp only [Act.put, List.getElem_toArray, List.getElem_cons_succ, List.getElem_cons_zero, List.setIfInBounds_toArray, List.set_cons_zero, List.set_cons_succ])
  refine wpAnyH_take (i := 7) (v := ?_) rfl (by kernel_rfl) (by kernel_rfl) (by kernel_rfl) (fun _ _ _ h => h) (Or.inl ⟨by kernel_rfl, ?_⟩) (by assumption) ?_
  rotate_left
  focus
    intro w9 hSw
    (try dsimp only at hSw)
    have zK : ∀ {a9 : Addr} {u9 : Value}, ws.cell? a9 = some u9 → w9.cell? a9 = some u9 := fun {a9} {u9} h9 => (hSw.cell (World.block_lt_of_cell? ws a9 h9)).trans h9
    have z0 := zK y0
    have z1 := zK y1
    have z2 := zK y2
    have z3 := zK y3
    clear zK hSw
    go_simp
    (try with_reducible rfl)
  (try simp only [Act.put, List.getElem_toArray, List.getElem_cons_succ, List.getElem_cons_zero, List.setIfInBounds_toArray, List.set_cons_zero, List.set_cons_succ])
  refine wpAnyH_take (i := 8) (v := ?_) rfl (by kernel_rfl) (by kernel_rfl) (by kernel_rfl) (fun _ _ _ h => h) (Or.inl ⟨by kernel_rfl, ?_⟩) (by assumption) ?_
  rotate_left
  focus
    intro w9 hSw
    (try dsimp only at hSw)
    have zK : ∀ {a9 : Addr} {u9 : Value}, ws.cell? a9 = some u9 → w9.cell? a9 = some u9 := fun {a9} {u9} h9 => (hSw.cell (World.block_lt_of_cell? ws a9 h9)).trans h9
    have z0 := zK y0
    have z1 := zK y1
    have z2 := zK y2
    have z3 := zK y3
    clear zK hSw
    go_simp
    (try with_reducible rfl)
  (try simp only [Act.put, List.getElem_toArray, List.getElem_cons_succ, List.getElem_cons_zero, List.setIfInBounds_toArray, List.set_cons_zero, List.set_cons_succ])
  refine wpAnyH_take (i := 9) (v := ?_) rfl (by kernel_rfl) (by kernel_rfl) (by kernel_rfl) (fun _ _ _ h => h) (Or.inl ⟨by kernel_rfl, ?_⟩) (by assumption) ?_
  rotate_left
  focus
    intro w9 hSw
    (try dsimp only at hSw)
    have zK : ∀ {a9 : Addr} {u9 : Value}, ws.cell? a9 = some u9 → w9.cell? a9 = some u9 := fun {a9} {u9} h9 => (hSw.cell (World.block_lt_of_cell? ws a9 h9)).trans h9
    have z0 := zK y0
    have z1 := zK y1
    have z2 := zK y2
    have z3 := zK y3
    clear zK hSw
    go_simp
    (try with_reducible rfl)
  (try simp only [Act.put, List.getElem_toArray, List.getElem_cons_succ, List.getElem_cons_zero, List.setIfInBounds_toArray, List.set_cons_zero, List.set_cons_succ])
  refine wpAnyH_take (i := 10) (v := ?_) rfl (by kernel_rfl) (by kernel_rfl) (by kernel_rfl) (fun _ _ _ h => h) (Or.inl ⟨by kernel_rfl, ?_⟩) (by assumption) ?_
  rotate_left
  focus
    intro w9 hSw
    (try dsimp only at hSw)
    have zK : ∀ {a9 : Addr} {u9 : Value}, ws.cell? a9 = some u9 → w9.cell? a9 = some u9 := fun {a9} {u9} h9 => (hSw.cell (World.block_lt_of_cell? ws a9 h9)).trans h9
    have z0 := zK y0
    have z1 := zK y1
    have z2 := zK y2
    have z3 := zK y3
    clear zK hSw
    go_simp
    (try with_reducible rfl)
  (try simp only [Act.put, List.getElem_toArray, List.getElem_cons_succ, List.getElem_cons_zero, List.setIfInBounds_toArray, List.set_cons_zero, List.set_cons_succ])
  refine wpAnyH_take (i := 11) (v := ?_) rfl (by kernel_rfl) (by kernel_rfl) (by kernel_rfl) (fun _ _ _ h => h) (Or.inl ⟨by kernel_rfl, ?_⟩) (by assumption) ?_
  rotate_left
  focus
    intro w9 hSw
    (try dsimp only at hSw)
    have zK : ∀ {a9 : Addr} {u9 : Value}, ws.cell? a9 = some u9 → w9.cell? a9 = some u9 := fun {a9} {u9} h9 => (hSw.cell (World.block_lt_of_cell? ws a9 h9)).trans h9
    have z0 := zK y0
    have z1 := zK y1
    have z2 := zK y2
    have z3 := zK y3
    clear zK hSw
    go_simp
    (try with_reducible rfl)
  (try simp only [Act.put, List.getElem_toArray, List.getElem_cons_succ, List.getElem_cons_zero, List.setIfInBounds_toArray, List.set_cons_zero, List.set_cons_succ])
  refine wpAnyH_take (i := 12) (v := ?_) rfl (by kernel_rfl) (by kernel_rfl) (by kernel_rfl) (fun _ _ _ h => h) (Or.inl ⟨by kernel_rfl, ?_⟩) (by assumption) ?_
  rotate_left
  focus
    intro w9 hSw
    (try dsimp only at hSw)
    have zK : ∀ {a9 : Addr} {u9 : Value}, ws.cell? a9 = some u9 → w9.cell? a9 = some u9 := fun {a9} {u9} h9 => (hSw.cell (World.block_lt_of_cell? ws a9 h9)).trans h9
    have z0 := zK y0
    have z1 := zK y1
    have z2 := zK y2
    have z3 := zK y3
    clear zK hSw
    go_simp
    (try with_reducible rfl)
  (try simp only [Act.put, List.getElem_toArray, List.getElem_cons_succ, List.getElem_cons_zero, List.setIfInBounds_toArray, List.set_cons_zero, List.set_cons_succ])
  refine wpAnyH_take (i := 13) (v := ?_) rfl (by kernel_rfl) (by kernel_rfl) (by kernel_rfl) (fun _ _ _ h => h) (Or.inl ⟨by kernel_rfl, ?_⟩) (by assumption) ?_
  rotate_left
  focus
    intro w9 hSw
    (try dsimp only at hSw)
    have zK : ∀ {a9 : Addr} {u9 : Value}, ws.cell? a9 = some u9 → w9.cell? a9 = some u9 := fun {a9} {u9} h9 => (hSw.cell (World.block_lt_of_cell? ws a9 h9)).trans h9
    have z0 := zK y0
    have z1 := zK y1
    have z2 := zK y2
    have z3 := zK y3
    clear zK hSw
    go_simp
    (try with_reducible rfl)
  (try simp only [Act.put, List.getElem_toArray, List.getElem_cons_succ, List.getElem_cons_zero, List.setIfInBounds_toArray, List.set_cons_zero, List.set_cons_succ])
  refine wpAnyH_ready (rs := [14]) (by kernel_rfl) (by simp) (AllReadyH.cons rfl (fun K hK => ?_) AllReadyH.nil)
  go_simp
  refine hK.out _ _ ?_ (fun hHeld => ?_)
  focus exact hv2.alloc hv2.size _
  clear hK K
  (try simp only [Act.put, List.getElem_toArray, List.getElem_cons_succ, List.getElem_cons_zero, List.setIfInBounds_toArray, List.set_cons_zero, List.set_cons_succ])
  refine wpAnyH_ready (rs := [15]) (by kernel_rfl) (by simp) (AllReadyH.cons rfl (fun K hK => ?_) AllReadyH.nil)
  go_simp
  go_at_call 21
  refine (point_any (w := v2.alloc (.cells #[.int .i64 11, .int .i64 16, .int .i64 18] 3)) (l := [11, 16, 18]) (RdI.lit v2 .i64 [11, 16, 18] 3 #[.int .i64 11, .int .i64 16, .int .i64 18] rfl) (by simp) (by decide) 8).mono ?_
  rintro e v3 ⟨A6, c6, rfl, ho6, hb6⟩
  have hv3 : Below ws.heap.size ws v3 := below_then (hv2.alloc hv2.size (.cells #[.int .i64 11, .int .i64 16, .int .i64 18] 3)) hb6
  have r6 := rdOwn ho6 (Below.refl _ _)
  refine hK.out _ _ ?_ (fun hHeld => ?_)
  focus exact hv3
  clear hK K
  (try simp only [Act.put, List.getElem_toArray, List.getElem_cons_succ, List.getElem_cons_zero, List.setIfInBounds_toArray, List.set_cons_zero, List.set_cons_succ])
  refine wpAnyH_ready (rs := [16]) (by kernel_rfl) (by simp) (AllReadyH.cons rfl (fun K hK => ?_) AllReadyH.nil)
  go_simp
  go_at_call 19
  refine (HQ2.out _ _ _ hv3 r6).mono ?_
  rintro e v4 ⟨rfl, hv4'⟩
  have hv4 := below_then hv3 hv4'
  refine hK.out _ _ ?_ (fun hHeld => ?_)
  focus exact hv4
  clear hK K
  (try simp only [Act.put, List.getElem_toArray, List.getElem_cons_succ, List.getElem_cons_zero, List.setIfInBounds_toArray, List.set_cons_zero, List.set_cons_succ])
  refine wpAnyH_take (i := 17) (v := ?_) rfl (by kernel_rfl) (by kernel_rfl) (by kernel_rfl) (fun _ _ _ h => h) (Or.inl ⟨by kernel_rfl, ?_⟩) (by assumption) ?_
  rotate_left
  focus
    intro w9 hSw
    (try dsimp only at hSw)
    have zK : ∀ {a9 : Addr} {u9 : Value}, ws.cell? a9 = some u9 → w9.cell? a9 = some u9 := fun {a9} {u9} h9 => (hSw.cell (World.block_lt_of_cell? ws a9 h9)).trans h9
    have z0 := zK y0
    have z1 := zK y1
    have z2 := zK y2
    have z3 := zK y3
    clear zK hSw
    go_simp
    (try with_reducible rfl)
  (try simp only [Act.put, List.getElem_toArray, List.getElem_cons_succ, List.getElem_cons_zero, List.setIfInBounds_toArray, List.set_cons_zero, List.set_cons_succ])
  refine wpAnyH_take (i := 18) (v := ?_) rfl (by kernel_rfl) (by kernel_rfl) (by kernel_rfl) (fun _ _ _ h => h) (Or.inl ⟨by kernel_rfl, ?_⟩) (by assumption) ?_
  rotate_left
  focus
    intro w9 hSw
    (try dsimp only at hSw)
    have zK : ∀ {a9 : Addr} {u9 : Value}, ws.cell? a9 = some u9 → w9.cell? a9 = some u9 := fun {a9} {u9} h9 => (hSw.cell (World.block_lt_of_cell? ws a9 h9)).trans h9
    have z0 := zK y0
    have z1 := zK y1
    have z2 := zK y2
    have z3 := zK y3
    clear zK hSw
    go_simp
    (try with_reducible rfl)
  (try simp only [Act.put, List.getElem_toArray, List.getElem_cons_succ, List.getElem_cons_zero, List.setIfInBounds_toArray, List.set_cons_zero, List.set_cons_succ])
  refine wpAnyH_ready (rs := [19]) (by kernel_rfl) (by simp) (AllReadyH.cons rfl (fun K hK => ?_) AllReadyH.nil)
  go_simp
  go_at_call 17
  refine (may_is (n := 2) (k := 1) (b := false) (by decide) _).mono ?_
  rintro e v5 ⟨rfl, rfl⟩
  refine hK.out _ _ ?_ (fun hHeld => ?_)
  focus exact hv4
  clear hK K
  (try simp only [Act.put, List.getElem_toArray, List.getElem_cons_succ, List.getElem_cons_zero, List.setIfInBounds_toArray, List.set_cons_zero, List.set_cons_succ])
  refine wpAnyH_take (i := 20) (v := ?_) rfl (by kernel_rfl) (by kernel_rfl) (by kernel_rfl) (fun _ _ _ h => h) (Or.inl ⟨by kernel_rfl, ?_⟩) (by assumption) ?_
  rotate_left
  focus
    intro w9 hSw
    (try dsimp only at hSw)
    have zK : ∀ {a9 : Addr} {u9 : Value}, ws.cell? a9 = some u9 → w9.cell? a9 = some u9 := fun {a9} {u9} h9 => (hSw.cell (World.block_lt_of_cell? ws a9 h9)).trans h9
    have z0 := zK y0
    have z1 := zK y1
    have z2 := zK y2
    have z3 := zK y3
    clear zK hSw
    go_simp
    (try with_reducible rfl)
  (try simp only [Act.put, List.getElem_toArray, List.getElem_cons_succ, List.getElem_cons_zero, List.setIfInBounds_toArray, List.set_cons_zero, List.set_cons_succ])
  refine wpAnyH_take (i := 21) (v := ?_) rfl (by kernel_rfl) (by kernel_rfl) (by kernel_rfl) (fun _ _ _ h => h) (Or.inl ⟨by kernel_rfl, ?_⟩) (by assumption) ?_
  rotate_left
  focus
    intro w9 hSw
    (try dsimp only at hSw)
    have zK : ∀ {a9 : Addr} {u9 : Value}, ws.cell? a9 = some u9 → w9.cell? a9 = some u9 := fun {a9} {u9} h9 => (hSw.cell (World.block_lt_of_cell? ws a9 h9)).trans h9
    have z0 := zK y0
    have z1 := zK y1
    have z2 := zK y2
    have z3 := zK y3
    clear zK hSw
    go_simp
    (try with_reducible rfl)
  (try simp only [Act.put, List.getElem_toArray, List.getElem_cons_succ, List.getElem_cons_zero, List.setIfInBounds_toArray, List.set_cons_zero, List.set_cons_succ])
  refine wpAnyH_take (i := 22) (v := ?_) rfl (by kernel_rfl) (by kernel_rfl) (by kernel_rfl) (fun _ _ _ h => h) (Or.inl ⟨by kernel_rfl, ?_⟩) (by assumption) ?_
  rotate_left
  focus
    intro w9 hSw
    (try dsimp only at hSw)
    have zK : ∀ {a9 : Addr} {u9 : Value}, ws.cell? a9 = some u9 → w9.cell? a9 = some u9 := fun {a9} {u9} h9 => (hSw.cell (World.block_lt_of_cell? ws a9 h9)).trans h9
    have z0 := zK y0
    have z1 := zK y1
    have z2 := zK y2
    have z3 := zK y3
    clear zK hSw
    go_simp
    (try with_reducible rfl)
  (try simp only [Act.put, List.getElem_toArray, List.getElem_cons_succ, List.getElem_cons_zero, List.setIfInBounds_toArray, List.set_cons_zero, List.set_cons_succ])
  refine wpAnyH_ready (rs := [23]) (by kernel_rfl) (by simp) (AllReadyH.cons rfl (fun K hK => ?_) AllReadyH.nil)
  go_simp
  go_at_call 17
  refine (may_is (n := 2) (k := 4) (b := true) (by decide) _).mono ?_
  rintro e v5 ⟨rfl, rfl⟩
  refine hK.out _ _ ?_ (fun hHeld => ?_)
  focus exact hv4
  clear hK K
  (try simp only [Act.put, List.getElem_toArray, List.getElem_cons_succ, List.getElem_cons_zero, List.setIfInBounds_toArray, List.set_cons_zero, List.set_cons_succ])
  refine wpAnyH_take (i := 24) (v := ?_) rfl (by kernel_rfl) (by kernel_rfl) (by kernel_rfl) (fun _ _ _ h => h) (Or.inl ⟨by kernel_rfl, ?_⟩) (by assumption) ?_
  rotate_left
  focus
    intro w9 hSw
    (try dsimp only at hSw)
    have zK : ∀ {a9 : Addr} {u9 : Value}, ws.cell? a9 = some u9 → w9.cell? a9 = some u9 := fun {a9} {u9} h9 => (hSw.cell (World.block_lt_of_cell? ws a9 h9)).trans h9
    have z0 := zK y0
    have z1 := zK y1
    have z2 := zK y2
    have z3 := zK y3
    clear zK hSw
    go_simp
    (try with_reducible rfl)
  (try simp only [Act.put, List.getElem_toArray, List.getElem_cons_succ, List.getElem_cons_zero, List.setIfInBounds_toArray, List.set_cons_zero, List.set_cons_succ])
  refine wpAnyH_take (i := 25) (v := ?_) rfl (by kernel_rfl) (by kernel_rfl) (by kernel_rfl) (fun _ _ _ h => h) (Or.inl ⟨by kernel_rfl, ?_⟩) (by assumption) ?_
  rotate_left
  focus
    intro w9 hSw
    (try dsimp only at hSw)
    have zK : ∀ {a9 : Addr} {u9 : Value}, ws.cell? a9 = some u9 → w9.cell? a9 = some u9 := fun {a9} {u9} h9 => (hSw.cell (World.block_lt_of_cell? ws a9 h9)).trans h9
    have z0 := zK y0
    have z1 := zK y1
    have z2 := zK y2
    have z3 := zK y3
    clear zK hSw
    go_simp
    (try with_reducible rfl)
  (try simp only [Act.put, List.getElem_toArray, List.getElem_cons_succ, List.getElem_cons_zero, List.setIfInBounds_toArray, List.set_cons_zero, List.set_cons_succ])
  refine wpAnyH_done (by kernel_rfl) ?_ _
  (try simp only [Act.put, List.getElem_toArray, List.getElem_cons_succ, List.getElem_cons_zero, List.setIfInBounds_toArray, List.set_cons_zero, List.set_cons_succ])
  go_wp2
  go_ret
  exact ⟨rfl, bbs.trans (hv4.mono bbs.size)⟩
end Go.Proofs.Yticjiodnolngcaa
