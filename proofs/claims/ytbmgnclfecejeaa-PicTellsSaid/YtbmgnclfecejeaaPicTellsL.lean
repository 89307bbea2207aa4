/- PicTells: what is told of one picture. -/
import Derived.Test.YtbmgnclfecejeaaPicRSum
import Derived.Test.YtbmgnclfecejeaaPicSameP
import Derived.Test.YtbmgnclfecejeaaPicRNew
import Derived.Test.YtbmgnclfecejeaaPicRCopy
set_option linter.unusedSimpArgs false
set_option linter.unusedVariables false
namespace Go.Proofs.Ytbmgnclfecejeaa
open Go.RowKit

theorem small_63 {p : List (List Int)} (h : Small p) : Len63 p := ⟨by have := h.1; omega, fun l hl => by have := h.2 l hl; omega⟩
theorem rdOwn {w W' : World} {base : Nat} {A : Option Addr} {n c : Nat} {ls : List (List Int)} (h : OwnLL w base 25 3 .i64 (.slice A n c) ls) (hb : Below w.heap.size w W') : RdLL W' W'.heap.size .i64 A ls := by
  obtain ⟨A', c', hv, _, h, _⟩ := h.form
  simp only [Value.slice.injEq] at hv
  obtain ⟨rfl, _, _⟩ := hv
  exact fun j hj => by
    obtain ⟨ad, Aj, cj, e, h1, h2, h3, h4⟩ := RdLL.below h hb (Nat.le_refl _) j hj
    exact ⟨ad, Aj, cj, e, Nat.lt_of_lt_of_le h1 hb.size, h2, h3, h4.more hb.size⟩
theorem RdLL.grow {w : World} {B B' : Nat} {k : IntKind} {A : Option Addr} {ls : List (List Int)} (h : RdLL w B k A ls) (hB : B ≤ B') : RdLL w B' k A ls := fun j hj => by
  obtain ⟨ad, Aj, cj, e, h1, h2, h3, h4⟩ := h j hj
  exact ⟨ad, Aj, cj, e, by omega, h2, h3, h4.more hB⟩
theorem RdLL.to {w W' : World} {B : Nat} {k : IntKind} {A : Option Addr} {ls : List (List Int)} (h : RdLL w B k A ls) (hB : B ≤ w.heap.size) (hb : Below w.heap.size w W') : RdLL W' W'.heap.size k A ls :=
  RdLL.grow (RdLL.below h hb hB) (Nat.le_trans hB hb.size)
theorem sameB_self (q : Pc) : sameB q q = true := by simp [sameB]

set_option maxHeartbeats 8000000 in
theorem same29_any {w : World} {B : Nat} {q : Pc} {A : Option Addr} {c : Nat} (hr : RdLL w B .i64 A q.p) (hB : B ≤ w.heap.size) (hs : Small q.p) :
    Calls Try.prog 29 #[.agg #[.int .i64 q.w, .int .i64 q.h, .int .i64 q.d, .slice A q.p.length c]] w fun e w' => e = .returned (.bool true) ∧ Below w.heap.size w w' := by
  have h63 := small_63 hs
  have HIs := Lib.hid (fun W (hb : Below w.heap.size w W) => is_any (c := c) (hr.to hB hb) (Nat.le_refl _))
  have HPIs := Lib.hid (fun W (hb : Below w.heap.size w W) => picis_any (c := c) (hr.to hB hb) (Nat.le_refl _) h63)
  have HCp := Lib.hid (fun W (hb : Below w.heap.size w W) => copy_any (c := c) (hr.to hB hb) (Nat.le_refl _) hs)
  have HPS := Lib.hid (fun W (hb : Below w.heap.size w W) => psame_any (c := c) (c2 := c) (hr.to hB hb) (hr.to hB hb) (Nat.le_refl _) h63)
  have HSu := Lib.hid (fun W (hb : Below w.heap.size w W) => sum_any (c := c) (hr.to hB hb) (Nat.le_refl _))
  have HRSu := Lib.hid (fun W (hb : Below w.heap.size w W) => rsum_any (c := c) (hr.to hB hb) (Nat.le_refl _) h63)
  have hr0 := hr.to hB (Below.refl _ _)
  generalize isB q = ib at *
  generalize sumV q = sv at *
  have HSB := Lib.hid (sameB_self q)
  obtain ⟨qw, qh, qd, qp⟩ := q
  simp only at *
  go_enter Try.func29, Try.ntmps29
  go_wp2
  have k0 := (Blk.new w 28 #[.int .i64 qw, .int .i64 qh, .int .i64 qd, .slice A qp.length c])
  have bxa := below_alloc (Below.refl w.heap.size w) (.cells #[.int .i64 qw, .int .i64 qh, .int .i64 qd, .slice A qp.length c] 28)
  generalize w.alloc (.cells #[.int .i64 qw, .int .i64 qh, .int .i64 qd, .slice A qp.length c] 28) = ws at *
  obtain ⟨x0, x1, x2, x3, _⟩ := k0.four
  refine wp_region_held_drew (S := (fun w' => Below ws.heap.size ws w')) (by kernel_rfl) ?_ (fun hHeld => ?_)
  focus exact (Below.refl _ _).drew
  refine wpAnyH_take (i := 0) (v := ?_) rfl (by kernel_rfl) (by kernel_rfl) (by kernel_rfl) (fun _ _ _ h => h) (Or.inl ⟨by rfl, ?_⟩) (by assumption) ?_
  rotate_left
  focus
    intro w9 hSw
    (try dsimp only at hSw)
    have zK : ∀ {a9 : Addr} {u9 : Value}, ws.cell? a9 = some u9 → w9.cell? a9 = some u9 := fun {a9} {u9} h9 => (hSw.cell (World.block_lt_of_cell? ws a9 h9)).trans h9
    have z0 := zK x0
    have z1 := zK x1
    have z2 := zK x2
    have z3 := zK x3
    clear zK hSw
    go_simp
    (try with_reducible rfl)
  (try simp only [Act.put, List.getElem_toArray, List.getElem_cons_succ, List.getElem_cons_zero, List.setIfInBounds_toArray, List.set_cons_zero, List.set_cons_succ])
  refine wpAnyH_take (i := 2) (v := ?_) rfl (by kernel_rfl) (by kernel_rfl) (by kernel_rfl) (fun _ _ _ h => h) (Or.inl ⟨by rfl, ?_⟩) (by assumption) ?_
  rotate_left
  focus
    intro w9 hSw
    (try dsimp only at hSw)
    have zK : ∀ {a9 : Addr} {u9 : Value}, ws.cell? a9 = some u9 → w9.cell? a9 = some u9 := fun {a9} {u9} h9 => (hSw.cell (World.block_lt_of_cell? ws a9 h9)).trans h9
    have z0 := zK x0
    have z1 := zK x1
    have z2 := zK x2
    have z3 := zK x3
    clear zK hSw
    go_simp
    (try with_reducible rfl)
  (try simp only [Act.put, List.getElem_toArray, List.getElem_cons_succ, List.getElem_cons_zero, List.setIfInBounds_toArray, List.set_cons_zero, List.set_cons_succ])
  refine wpAnyH_ready (rs := [1]) (by kernel_rfl) (by simp) (AllReadyH.cons rfl (fun K hK => ?_) AllReadyH.nil)
  go_simp
  go_at_call 32
  refine (HIs.out _ (by repeat (first | exact Below.refl _ _ | assumption | refine Below.drew ?_ | refine below_drewN ?_ _ | refine below_alloc ?_ _))).mono ?_
  rintro e w1 ⟨rfl, hb1'⟩
  have hb1 := below_undrew hb1'
  clear hb1'
  refine hK.out _ _ ?_ (fun hHeld => ?_)
  focus exact hb1
  clear hK K
  (try simp only [Act.put, List.getElem_toArray, List.getElem_cons_succ, List.getElem_cons_zero, List.setIfInBounds_toArray, List.set_cons_zero, List.set_cons_succ])
  refine wpAnyH_ready (rs := [3]) (by kernel_rfl) (by simp) (AllReadyH.cons rfl (fun K hK => ?_) AllReadyH.nil)
  go_simp
  go_at_call 44
  refine (HPIs.out _ (bxa.trans (hb1.mono bxa.size))).mono ?_
  rintro e w2 ⟨rfl, hb2'⟩
  have hb2 := below_then hb1 hb2'
  refine hK.out _ _ ?_ (fun hHeld => ?_)
  focus exact hb2
  clear hK K
  (try simp only [Act.put, List.getElem_toArray, List.getElem_cons_succ, List.getElem_cons_zero, List.setIfInBounds_toArray, List.set_cons_zero, List.set_cons_succ])
  refine wpAnyH_take (i := 4) (v := ?_) rfl (by kernel_rfl) (by kernel_rfl) (by kernel_rfl) (fun _ _ _ h => h) (Or.inl ⟨by rfl, ?_⟩) (by assumption) ?_
  rotate_left
  focus
    intro w9 hSw
    (try dsimp only at hSw)
    have zK : ∀ {a9 : Addr} {u9 : Value}, ws.cell? a9 = some u9 → w9.cell? a9 = some u9 := fun {a9} {u9} h9 => (hSw.cell (World.block_lt_of_cell? ws a9 h9)).trans h9
    have z0 := zK x0
    have z1 := zK x1
    have z2 := zK x2
    have z3 := zK x3
    clear zK hSw
    go_simp
    (try with_reducible rfl)
  (try simp only [Act.put, List.getElem_toArray, List.getElem_cons_succ, List.getElem_cons_zero, List.setIfInBounds_toArray, List.set_cons_zero, List.set_cons_succ])
  refine wpAnyH_take (i := 5) (v := ?_) rfl (by kernel_rfl) (by kernel_rfl) (by kernel_rfl) (fun _ _ _ h => h) (Or.inl ⟨by rfl, ?_⟩) (by assumption) ?_
  rotate_left
  focus
    intro w9 hSw
    (try dsimp only at hSw)
    have zK : ∀ {a9 : Addr} {u9 : Value}, ws.cell? a9 = some u9 → w9.cell? a9 = some u9 := fun {a9} {u9} h9 => (hSw.cell (World.block_lt_of_cell? ws a9 h9)).trans h9
    have z0 := zK x0
    have z1 := zK x1
    have z2 := zK x2
    have z3 := zK x3
    clear zK hSw
    go_simp
    (try with_reducible rfl)
  (try simp only [Act.put, List.getElem_toArray, List.getElem_cons_succ, List.getElem_cons_zero, List.setIfInBounds_toArray, List.set_cons_zero, List.set_cons_succ])
  refine wpAnyH_take (i := 6) (v := ?_) rfl (by kernel_rfl) (by kernel_rfl) (by kernel_rfl) (fun _ _ _ h => h) (Or.inl ⟨by rfl, ?_⟩) (by assumption) ?_
  rotate_left
  focus
    intro w9 hSw
    (try dsimp only at hSw)
    have zK : ∀ {a9 : Addr} {u9 : Value}, ws.cell? a9 = some u9 → w9.cell? a9 = some u9 := fun {a9} {u9} h9 => (hSw.cell (World.block_lt_of_cell? ws a9 h9)).trans h9
    have z0 := zK x0
    have z1 := zK x1
    have z2 := zK x2
    have z3 := zK x3
    clear zK hSw
    go_simp
    (try with_reducible rfl)
  (try simp only [Act.put, List.getElem_toArray, List.getElem_cons_succ, List.getElem_cons_zero, List.setIfInBounds_toArray, List.set_cons_zero, List.set_cons_succ])
  refine wpAnyH_take (i := 8) (v := ?_) rfl (by kernel_rfl) (by kernel_rfl) (by kernel_rfl) (fun _ _ _ h => h) (Or.inl ⟨by rfl, ?_⟩) (by assumption) ?_
  rotate_left
  focus
    intro w9 hSw
    (try dsimp only at hSw)
    have zK : ∀ {a9 : Addr} {u9 : Value}, ws.cell? a9 = some u9 → w9.cell? a9 = some u9 := fun {a9} {u9} h9 => (hSw.cell (World.block_lt_of_cell? ws a9 h9)).trans h9
    have z0 := zK x0
    have z1 := zK x1
    have z2 := zK x2
    have z3 := zK x3
    clear zK hSw
    go_simp
    (try with_reducible rfl)
  (try simp only [Act.put, List.getElem_toArray, List.getElem_cons_succ, List.getElem_cons_zero, List.setIfInBounds_toArray, List.set_cons_zero, List.set_cons_succ])
  refine wpAnyH_ready (rs := [7]) (by kernel_rfl) (by simp) (AllReadyH.cons rfl (fun K hK => ?_) AllReadyH.nil)
  go_simp
  go_at_call 26
  refine (HCp.out _ (bxa.trans (hb2.mono bxa.size))).mono ?_
  rintro e w3 ⟨A3, c3, rfl, ho3, hb3'⟩
  have hb3 := below_then hb2 hb3'
  refine hK.out _ _ ?_ (fun hHeld => ?_)
  focus exact hb3
  clear hK K
  (try simp only [Act.put, List.getElem_toArray, List.getElem_cons_succ, List.getElem_cons_zero, List.setIfInBounds_toArray, List.set_cons_zero, List.set_cons_succ])
  refine wpAnyH_ready (rs := [9]) (by kernel_rfl) (by simp) (AllReadyH.cons rfl (fun K hK => ?_) AllReadyH.nil)
  go_simp
  go_at_call 25
  refine (same_any (a := ⟨qw, qh, qd, qp⟩) (b := ⟨qw, qh, qd, qp⟩) (c := c3) (c2 := c) (rdOwn ho3 (Below.refl _ _)) (hr.to hB (bxa.trans (hb3.mono bxa.size))) (Nat.le_refl _) h63).mono ?_
  rw [HSB.out]
  rintro e w4 ⟨rfl, hb4'⟩
  have hb4 := below_then hb3 hb4'
  refine hK.out _ _ ?_ (fun hHeld => ?_)
  focus exact hb4
  clear hK K
  (try simp only [Act.put, List.getElem_toArray, List.getElem_cons_succ, List.getElem_cons_zero, List.setIfInBounds_toArray, List.set_cons_zero, List.set_cons_succ])
  refine wpAnyH_take (i := 10) (v := ?_) rfl (by kernel_rfl) (by kernel_rfl) (by kernel_rfl) (fun _ _ _ h => h) (Or.inl ⟨by rfl, ?_⟩) (by assumption) ?_
  rotate_left
  focus
    intro w9 hSw
    (try dsimp only at hSw)
    have zK : ∀ {a9 : Addr} {u9 : Value}, ws.cell? a9 = some u9 → w9.cell? a9 = some u9 := fun {a9} {u9} h9 => (hSw.cell (World.block_lt_of_cell? ws a9 h9)).trans h9
    have z0 := zK x0
    have z1 := zK x1
    have z2 := zK x2
    have z3 := zK x3
    clear zK hSw
    go_simp
    (try with_reducible rfl)
  (try simp only [Act.put, List.getElem_toArray, List.getElem_cons_succ, List.getElem_cons_zero, List.setIfInBounds_toArray, List.set_cons_zero, List.set_cons_succ])
  refine wpAnyH_take (i := 11) (v := ?_) rfl (by kernel_rfl) (by kernel_rfl) (by kernel_rfl) (fun _ _ _ h => h) (Or.inl ⟨by rfl, ?_⟩) (by assumption) ?_
  rotate_left
  focus
    intro w9 hSw
    (try dsimp only at hSw)
    have zK : ∀ {a9 : Addr} {u9 : Value}, ws.cell? a9 = some u9 → w9.cell? a9 = some u9 := fun {a9} {u9} h9 => (hSw.cell (World.block_lt_of_cell? ws a9 h9)).trans h9
    have z0 := zK x0
    have z1 := zK x1
    have z2 := zK x2
    have z3 := zK x3
    clear zK hSw
    go_simp
    (try with_reducible rfl)
  (try simp only [Act.put, List.getElem_toArray, List.getElem_cons_succ, List.getElem_cons_zero, List.setIfInBounds_toArray, List.set_cons_zero, List.set_cons_succ])
  refine wpAnyH_take (i := 12) (v := ?_) rfl (by kernel_rfl) (by kernel_rfl) (by kernel_rfl) (fun _ _ _ h => h) (Or.inl ⟨by rfl, ?_⟩) (by assumption) ?_
  rotate_left
  focus
    intro w9 hSw
    (try dsimp only at hSw)
    have zK : ∀ {a9 : Addr} {u9 : Value}, ws.cell? a9 = some u9 → w9.cell? a9 = some u9 := fun {a9} {u9} h9 => (hSw.cell (World.block_lt_of_cell? ws a9 h9)).trans h9
    have z0 := zK x0
    have z1 := zK x1
    have z2 := zK x2
    have z3 := zK x3
    clear zK hSw
    go_simp
    (try with_reducible rfl)
  (try simp only [Act.put, List.getElem_toArray, List.getElem_cons_succ, List.getElem_cons_zero, List.setIfInBounds_toArray, List.set_cons_zero, List.set_cons_succ])
  refine wpAnyH_take (i := 13) (v := ?_) rfl (by kernel_rfl) (by kernel_rfl) (by kernel_rfl) (fun _ _ _ h => h) (Or.inl ⟨by rfl, ?_⟩) (by assumption) ?_
  rotate_left
  focus
    intro w9 hSw
    (try dsimp only at hSw)
    have zK : ∀ {a9 : Addr} {u9 : Value}, ws.cell? a9 = some u9 → w9.cell? a9 = some u9 := fun {a9} {u9} h9 => (hSw.cell (World.block_lt_of_cell? ws a9 h9)).trans h9
    have z0 := zK x0
    have z1 := zK x1
    have z2 := zK x2
    have z3 := zK x3
    clear zK hSw
    go_simp
    (try with_reducible rfl)
  (try simp only [Act.put, List.getElem_toArray, List.getElem_cons_succ, List.getElem_cons_zero, List.setIfInBounds_toArray, List.set_cons_zero, List.set_cons_succ])
  refine wpAnyH_ready (rs := [14]) (by kernel_rfl) (by simp) (AllReadyH.cons rfl (fun K hK => ?_) AllReadyH.nil)
  go_simp
  go_at_call 30
  refine (HPS.out _ (bxa.trans (hb4.mono bxa.size))).mono ?_
  rw [HSB.out]
  rintro e w5 ⟨rfl, hb5'⟩
  have hb5 := below_then hb4 hb5'
  refine hK.out _ _ ?_ (fun hHeld => ?_)
  focus exact hb5
  clear hK K
  (try simp only [Act.put, List.getElem_toArray, List.getElem_cons_succ, List.getElem_cons_zero, List.setIfInBounds_toArray, List.set_cons_zero, List.set_cons_succ])
  refine wpAnyH_take (i := 15) (v := ?_) rfl (by kernel_rfl) (by kernel_rfl) (by kernel_rfl) (fun _ _ _ h => h) (Or.inl ⟨by rfl, ?_⟩) (by assumption) ?_
  rotate_left
  focus
    intro w9 hSw
    (try dsimp only at hSw)
    have zK : ∀ {a9 : Addr} {u9 : Value}, ws.cell? a9 = some u9 → w9.cell? a9 = some u9 := fun {a9} {u9} h9 => (hSw.cell (World.block_lt_of_cell? ws a9 h9)).trans h9
    have z0 := zK x0
    have z1 := zK x1
    have z2 := zK x2
    have z3 := zK x3
    clear zK hSw
    go_simp
    (try with_reducible rfl)
  (try simp only [Act.put, List.getElem_toArray, List.getElem_cons_succ, List.getElem_cons_zero, List.setIfInBounds_toArray, List.set_cons_zero, List.set_cons_succ])
  refine wpAnyH_take (i := 16) (v := ?_) rfl (by kernel_rfl) (by kernel_rfl) (by kernel_rfl) (fun _ _ _ h => h) (Or.inl ⟨by rfl, ?_⟩) (by assumption) ?_
  rotate_left
  focus
    intro w9 hSw
    (try dsimp only at hSw)
    have zK : ∀ {a9 : Addr} {u9 : Value}, ws.cell? a9 = some u9 → w9.cell? a9 = some u9 := fun {a9} {u9} h9 => (hSw.cell (World.block_lt_of_cell? ws a9 h9)).trans h9
    have z0 := zK x0
    have z1 := zK x1
    have z2 := zK x2
    have z3 := zK x3
    clear zK hSw
    go_simp
    (try with_reducible rfl)
  (try simp only [Act.put, List.getElem_toArray, List.getElem_cons_succ, List.getElem_cons_zero, List.setIfInBounds_toArray, List.set_cons_zero, List.set_cons_succ])
  refine wpAnyH_take (i := 17) (v := ?_) rfl (by kernel_rfl) (by kernel_rfl) (by kernel_rfl) (fun _ _ _ h => h) (Or.inl ⟨by rfl, ?_⟩) (by assumption) ?_
  rotate_left
  focus
    intro w9 hSw
    (try dsimp only at hSw)
    have zK : ∀ {a9 : Addr} {u9 : Value}, ws.cell? a9 = some u9 → w9.cell? a9 = some u9 := fun {a9} {u9} h9 => (hSw.cell (World.block_lt_of_cell? ws a9 h9)).trans h9
    have z0 := zK x0
    have z1 := zK x1
    have z2 := zK x2
    have z3 := zK x3
    clear zK hSw
    go_simp
    (try with_reducible rfl)
  (try simp only [Act.put, List.getElem_toArray, List.getElem_cons_succ, List.getElem_cons_zero, List.setIfInBounds_toArray, List.set_cons_zero, List.set_cons_succ])
  refine wpAnyH_take (i := 19) (v := ?_) rfl (by kernel_rfl) (by kernel_rfl) (by kernel_rfl) (fun _ _ _ h => h) (Or.inl ⟨by rfl, ?_⟩) (by assumption) ?_
  rotate_left
  focus
    intro w9 hSw
    (try dsimp only at hSw)
    have zK : ∀ {a9 : Addr} {u9 : Value}, ws.cell? a9 = some u9 → w9.cell? a9 = some u9 := fun {a9} {u9} h9 => (hSw.cell (World.block_lt_of_cell? ws a9 h9)).trans h9
    have z0 := zK x0
    have z1 := zK x1
    have z2 := zK x2
    have z3 := zK x3
    clear zK hSw
    go_simp
    (try with_reducible rfl)
  (try simp only [Act.put, List.getElem_toArray, List.getElem_cons_succ, List.getElem_cons_zero, List.setIfInBounds_toArray, List.set_cons_zero, List.set_cons_succ])
  refine wpAnyH_ready (rs := [18]) (by kernel_rfl) (by simp) (AllReadyH.cons rfl (fun K hK => ?_) AllReadyH.nil)
  go_simp
  go_at_call 18
  refine (HSu.out _ (bxa.trans (hb5.mono bxa.size))).mono ?_
  rintro e w6 ⟨rfl, hb6'⟩
  have hb6 := below_then hb5 hb6'
  refine hK.out _ _ ?_ (fun hHeld => ?_)
  focus exact hb6
  clear hK K
  (try simp only [Act.put, List.getElem_toArray, List.getElem_cons_succ, List.getElem_cons_zero, List.setIfInBounds_toArray, List.set_cons_zero, List.set_cons_succ])
  refine wpAnyH_ready (rs := [20]) (by kernel_rfl) (by simp) (AllReadyH.cons rfl (fun K hK => ?_) AllReadyH.nil)
  go_simp
  go_at_call 45
  refine (HRSu.out _ (bxa.trans (hb6.mono bxa.size))).mono ?_
  rintro e w7 ⟨rfl, hb7'⟩
  have hb7 := below_then hb6 hb7'
  refine hK.out _ _ ?_ (fun hHeld => ?_)
  focus exact hb7
  clear hK K
  (try simp only [Act.put, List.getElem_toArray, List.getElem_cons_succ, List.getElem_cons_zero, List.setIfInBounds_toArray, List.set_cons_zero, List.set_cons_succ])
  refine wpAnyH_take (i := 21) (v := ?_) rfl (by kernel_rfl) (by kernel_rfl) (by kernel_rfl) (fun _ _ _ h => h) (Or.inl ⟨by rfl, ?_⟩) (by assumption) ?_
  rotate_left
  focus
    intro w9 hSw
    (try dsimp only at hSw)
    have zK : ∀ {a9 : Addr} {u9 : Value}, ws.cell? a9 = some u9 → w9.cell? a9 = some u9 := fun {a9} {u9} h9 => (hSw.cell (World.block_lt_of_cell? ws a9 h9)).trans h9
    have z0 := zK x0
    have z1 := zK x1
    have z2 := zK x2
    have z3 := zK x3
    clear zK hSw
    go_simp
    (try with_reducible rfl)
  (try simp only [Act.put, List.getElem_toArray, List.getElem_cons_succ, List.getElem_cons_zero, List.setIfInBounds_toArray, List.set_cons_zero, List.set_cons_succ])
  refine wpAnyH_take (i := 22) (v := ?_) rfl (by kernel_rfl) (by kernel_rfl) (by kernel_rfl) (fun _ _ _ h => h) (Or.inl ⟨by rfl, ?_⟩) (by assumption) ?_
  rotate_left
  focus
    intro w9 hSw
    (try dsimp only at hSw)
    have zK : ∀ {a9 : Addr} {u9 : Value}, ws.cell? a9 = some u9 → w9.cell? a9 = some u9 := fun {a9} {u9} h9 => (hSw.cell (World.block_lt_of_cell? ws a9 h9)).trans h9
    have z0 := zK x0
    have z1 := zK x1
    have z2 := zK x2
    have z3 := zK x3
    clear zK hSw
    go_simp
    (try with_reducible rfl)
  (try simp only [Act.put, List.getElem_toArray, List.getElem_cons_succ, List.getElem_cons_zero, List.setIfInBounds_toArray, List.set_cons_zero, List.set_cons_succ])
  refine wpAnyH_take (i := 23) (v := ?_) rfl (by kernel_rfl) (by kernel_rfl) (by kernel_rfl) (fun _ _ _ h => h) (Or.inl ⟨by rfl, ?_⟩) (by assumption) ?_
  rotate_left
  focus
    intro w9 hSw
    (try dsimp only at hSw)
    have zK : ∀ {a9 : Addr} {u9 : Value}, ws.cell? a9 = some u9 → w9.cell? a9 = some u9 := fun {a9} {u9} h9 => (hSw.cell (World.block_lt_of_cell? ws a9 h9)).trans h9
    have z0 := zK x0
    have z1 := zK x1
    have z2 := zK x2
    have z3 := zK x3
    clear zK hSw
    go_simp
    (try with_reducible rfl)
  (try simp only [Act.put, List.getElem_toArray, List.getElem_cons_succ, List.getElem_cons_zero, List.setIfInBounds_toArray, List.set_cons_zero, List.set_cons_succ])
  refine wpAnyH_done (by kernel_rfl) ?_ _
  (try simp only [Act.put, List.getElem_toArray, List.getElem_cons_succ, List.getElem_cons_zero, List.setIfInBounds_toArray, List.set_cons_zero, List.set_cons_succ])
  go_wp2
  go_ret
  exact ⟨rfl, bxa.trans (hb7.mono bxa.size)⟩
end Go.Proofs.Ytbmgnclfecejeaa
