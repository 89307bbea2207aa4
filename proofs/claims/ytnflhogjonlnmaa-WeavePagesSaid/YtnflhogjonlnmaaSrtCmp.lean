/- The order in which All sorts: by time, then stream. -/
import Derived.Test.YtnflhogjonlnmaaSrtBs
import Derived.Test.YtnflhogjonlnmaaPicLast
import Derived.Deep.DeepCutAuto
set_option linter.unusedSimpArgs false
set_option linter.unusedVariables false
namespace Go.Proofs.Ytnflhogjonlnmaa
open Go.RowKit

def cmp3 (a b : Int) : Int := if a < b then -1 else if b < a then 1 else 0
theorem cmp3_bd (a b : Int) : -1 ≤ cmp3 a b ∧ cmp3 a b ≤ 1 := by unfold cmp3; split <;> (try split) <;> omega
theorem nan64_any (a : Int) (w : World) : Calls Try.prog 67 #[.int .i64 a] w fun e w' => e = .returned (.bool false) ∧ w = w' := by
  have hq : (a != a) = false := by simp
  go_enter Try.func67, Try.ntmps67
  go_wp2
  go_ret
  exact ⟨rfl, rfl⟩
theorem nan_any (a : Int) (w : World) : Calls Try.prog 68 #[.int .i64 a] w fun e w' => e = .returned (.bool false) ∧ w = w' := by
  have hq : (a != a) = false := by simp
  go_enter Try.func68, Try.ntmps68
  go_wp2
  go_ret
  exact ⟨rfl, rfl⟩
theorem cmp64_any (a b : Int) (w : World) : Calls Try.prog 53 #[.int .i64 a, .int .i64 b] w fun e w' => e = .returned (.int .i64 (cmp3 a b)) ∧ w = w' := by
  have HN := Lib.hid (fun a W => nan64_any a W)
  by_cases h1 : a < b
  · have HC := Lib.hid (show cmp3 a b = -1 by simp [cmp3, h1])
    go_enter Try.func53, Try.ntmps53
    go_wp2_with (first | (go_at_call 67; (with_reducible refine (HN.out _ _).mono ?_); rintro e w1 ⟨rfl, rfl⟩))
    go_ret
    exact ⟨by rw [HC.out]; rfl, rfl⟩
  · by_cases h2 : b < a
    · have HC := Lib.hid (show cmp3 a b = 1 by simp [cmp3, h1, h2])
      go_enter Try.func53, Try.ntmps53
      go_wp2_with (first | (go_at_call 67; (with_reducible refine (HN.out _ _).mono ?_); rintro e w1 ⟨rfl, rfl⟩))
      go_ret
      exact ⟨by rw [HC.out]; rfl, rfl⟩
    · have HC := Lib.hid (show cmp3 a b = 0 by simp [cmp3, h1, h2])
      go_enter Try.func53, Try.ntmps53
      go_wp2_with (first | (go_at_call 67; (with_reducible refine (HN.out _ _).mono ?_); rintro e w1 ⟨rfl, rfl⟩))
      go_ret
      exact ⟨by rw [HC.out]; rfl, rfl⟩
theorem cmpi_any (a b : Int) (w : World) : Calls Try.prog 54 #[.int .i64 a, .int .i64 b] w fun e w' => e = .returned (.int .i64 (cmp3 a b)) ∧ w = w' := by
  have HN := Lib.hid (fun a W => nan_any a W)
  by_cases h1 : a < b
  · have HC := Lib.hid (show cmp3 a b = -1 by simp [cmp3, h1])
    go_enter Try.func54, Try.ntmps54
    go_wp2_with (first | (go_at_call 68; (with_reducible refine (HN.out _ _).mono ?_); rintro e w1 ⟨rfl, rfl⟩))
    go_ret
    exact ⟨by rw [HC.out]; rfl, rfl⟩
  · by_cases h2 : b < a
    · have HC := Lib.hid (show cmp3 a b = 1 by simp [cmp3, h1, h2])
      go_enter Try.func54, Try.ntmps54
      go_wp2_with (first | (go_at_call 68; (with_reducible refine (HN.out _ _).mono ?_); rintro e w1 ⟨rfl, rfl⟩))
      go_ret
      exact ⟨by rw [HC.out]; rfl, rfl⟩
    · have HC := Lib.hid (show cmp3 a b = 0 by simp [cmp3, h1, h2])
      go_enter Try.func54, Try.ntmps54
      go_wp2_with (first | (go_at_call 68; (with_reducible refine (HN.out _ _).mono ?_); rintro e w1 ⟨rfl, rfl⟩))
      go_ret
      exact ⟨by rw [HC.out]; rfl, rfl⟩
theorem or_any (a b : Int) {w : World} {g : Nat} (h : Blk w g 3 #[.int .i64 a, .int .i64 b]) : Calls Try.prog 52 #[.slice (some ⟨g, 0, none⟩) 2 2] w fun e w' => e = .returned (.int .i64 (if a ≠ 0 then a else b)) ∧ w = w' := by
  have k0 := h.cell 0
  have k1 := h.cell 1
  by_cases h1 : a = 0
  · subst h1
    by_cases h2 : b = 0
    · subst h2
      go_enter Try.func52, Try.ntmps52
      go_wp2
      refine wp_loop_rounds 3 ?_
      rw [rounds_succ]
      go_wp2
      rw [rounds_succ]
      go_wp2
      rw [rounds_succ]
      go_wp2
      go_ret
      exact ⟨by simp, rfl⟩
    · have q : (b != 0) = true := by rw [bne_iff_ne]; exact h2
      go_enter Try.func52, Try.ntmps52
      go_wp2
      refine wp_loop_rounds 2 ?_
      rw [rounds_succ]
      go_wp2
      rw [rounds_succ]
      go_wp2
      go_ret
      exact ⟨by simp, rfl⟩
  · have q : (a != 0) = true := by rw [bne_iff_ne]; exact h1
    go_enter Try.func52, Try.ntmps52
    go_wp2
    refine wp_loop_rounds 1 ?_
    rw [rounds_succ]
    go_wp2
    go_ret
    exact ⟨by simp [h1], rfl⟩
def cfAll (x y : SP) : Int := if cmp3 x.p.at_ y.p.at_ ≠ 0 then cmp3 x.p.at_ y.p.at_ else cmp3 x.p.st y.p.st
def SP.val (x : SP) : Value := .agg #[.int .i64 x.p.st, .int .i64 x.p.at_, .int .i64 x.p.ln, .bool x.p.key, .bool x.p.hid, .slice x.A x.p.data.length x.c]

set_option maxHeartbeats 4000000 in
set_option maxRecDepth 100000 in
theorem less_any (x y : SP) (w : World) : Calls Try.prog 51 #[x.val, y.val] w fun e w' => e = .returned (.int .i64 (cfAll x y)) ∧ Below w.heap.size w w' := by
  have HC1 := Lib.hid (fun W => cmp64_any x.p.at_ y.p.at_ W)
  have HC2 := Lib.hid (fun W => cmpi_any x.p.st y.p.st W)
  have HO := Lib.hid (fun W g h => or_any (w := W) (g := g) (cmp3 x.p.at_ y.p.at_) (cmp3 x.p.st y.p.st) h)
  have HF := Lib.hid (show cfAll x y = if cmp3 x.p.at_ y.p.at_ ≠ 0 then cmp3 x.p.at_ y.p.at_ else cmp3 x.p.st y.p.st from rfl)
  generalize cmp3 x.p.at_ y.p.at_ = c1 at *
  generalize cmp3 x.p.st y.p.st = c2 at *
  generalize (if c1 ≠ 0 then c1 else c2) = c3 at *
  unfold SP.val
  go_enter Try.func51, Try.ntmps51
  go_upto_region 1 with (fail)
  have bx : Below w.heap.size w (w.alloc (.cells #[.int .i64 x.p.st, .int .i64 x.p.at_, .int .i64 x.p.ln, .bool x.p.key, .bool x.p.hid, .slice x.A x.p.data.length x.c] 40)) := below_alloc (Below.refl _ _) _
  have kx := Blk.new w 40 #[.int .i64 x.p.st, .int .i64 x.p.at_, .int .i64 x.p.ln, .bool x.p.key, .bool x.p.hid, .slice x.A x.p.data.length x.c]
  have hsx : (w.alloc (.cells #[.int .i64 x.p.st, .int .i64 x.p.at_, .int .i64 x.p.ln, .bool x.p.key, .bool x.p.hid, .slice x.A x.p.data.length x.c] 40)).heap.size = w.heap.size + 1 := by simp
  generalize w.alloc (.cells #[.int .i64 x.p.st, .int .i64 x.p.at_, .int .i64 x.p.ln, .bool x.p.key, .bool x.p.hid, .slice x.A x.p.data.length x.c] 40) = w1 at *
  have by_ := below_alloc bx (.cells #[.int .i64 y.p.st, .int .i64 y.p.at_, .int .i64 y.p.ln, .bool y.p.key, .bool y.p.hid, .slice y.A y.p.data.length y.c] 40)
  have ky := Blk.new w1 40 #[.int .i64 y.p.st, .int .i64 y.p.at_, .int .i64 y.p.ln, .bool y.p.key, .bool y.p.hid, .slice y.A y.p.data.length y.c]
  rw [hsx] at ky
  replace kx := kx.alloc (.cells #[.int .i64 y.p.st, .int .i64 y.p.at_, .int .i64 y.p.ln, .bool y.p.key, .bool y.p.hid, .slice y.A y.p.data.length y.c] 40)
  clear bx hsx
  generalize w1.alloc (.cells #[.int .i64 y.p.st, .int .i64 y.p.at_, .int .i64 y.p.ln, .bool y.p.key, .bool y.p.hid, .slice y.A y.p.data.length y.c] 40) = w2 at *
  have x0 := kx.cell 0
  have x1 := kx.cell 1
  have y0 := ky.cell 0
  have y1 := ky.cell 1
  clear kx ky
  refine wp_region_held_drew (S := (fun w' => Below w2.heap.size w2 w')) (by kernel_rfl) ?_ (fun hHeld => ?_)
  focus exact (Below.refl _ _).drew
  refine wpAnyH_take (i := 0) (v := ?_) rfl (by kernel_rfl) (by kernel_rfl) (by kernel_rfl) (fun _ _ _ h => h) (Or.inl ⟨by kernel_rfl, ?_⟩) (by assumption) ?_
  rotate_left
  focus
    intro w9 hSw
    (try dsimp only at hSw)
    have zK : ∀ {a9 : Addr} {u9 : Value}, w2.cell? a9 = some u9 → w9.cell? a9 = some u9 := fun {a9} {u9} h9 => (hSw.cell (World.block_lt_of_cell? w2 a9 h9)).trans h9
    have z0 := zK x0
    have z1 := zK x1
    have z2 := zK y0
    have z3 := zK y1
    clear zK hSw
    go_simp
    (try with_reducible rfl)
  (try simp only [Act.put, List.getElem_toArray, List.getElem_cons_succ, List.getElem_cons_zero, List.setIfInBounds_toArray, List.set_cons_zero, List.set_cons_succ])
  refine wpAnyH_take (i := 1) (v := ?_) rfl (by kernel_rfl) (by kernel_rfl) (by kernel_rfl) (fun _ _ _ h => h) (Or.inl ⟨by kernel_rfl, ?_⟩) (by assumption) ?_
  rotate_left
  focus
    intro w9 hSw
    (try dsimp only at hSw)
    have zK : ∀ {a9 : Addr} {u9 : Value}, w2.cell? a9 = some u9 → w9.cell? a9 = some u9 := fun {a9} {u9} h9 => (hSw.cell (World.block_lt_of_cell? w2 a9 h9)).trans h9
    have z0 := zK x0
    have z1 := zK x1
    have z2 := zK y0
    have z3 := zK y1
    clear zK hSw
    go_simp
    (try with_reducible rfl)
  (try simp only [Act.put, List.getElem_toArray, List.getElem_cons_succ, List.getElem_cons_zero, List.setIfInBounds_toArray, List.set_cons_zero, List.set_cons_succ])
  refine wpAnyH_take (i := 2) (v := ?_) rfl (by kernel_rfl) (by kernel_rfl) (by kernel_rfl) (fun _ _ _ h => h) (Or.inl ⟨by kernel_rfl, ?_⟩) (by assumption) ?_
  rotate_left
  focus
    intro w9 hSw
    (try dsimp only at hSw)
    have zK : ∀ {a9 : Addr} {u9 : Value}, w2.cell? a9 = some u9 → w9.cell? a9 = some u9 := fun {a9} {u9} h9 => (hSw.cell (World.block_lt_of_cell? w2 a9 h9)).trans h9
    have z0 := zK x0
    have z1 := zK x1
    have z2 := zK y0
    have z3 := zK y1
    clear zK hSw
    go_simp
    (try with_reducible rfl)
  (try simp only [Act.put, List.getElem_toArray, List.getElem_cons_succ, List.getElem_cons_zero, List.setIfInBounds_toArray, List.set_cons_zero, List.set_cons_succ])
  refine wpAnyH_take (i := 3) (v := ?_) rfl (by kernel_rfl) (by kernel_rfl) (by kernel_rfl) (fun _ _ _ h => h) (Or.inl ⟨by kernel_rfl, ?_⟩) (by assumption) ?_
  rotate_left
  focus
    intro w9 hSw
    (try dsimp only at hSw)
    have zK : ∀ {a9 : Addr} {u9 : Value}, w2.cell? a9 = some u9 → w9.cell? a9 = some u9 := fun {a9} {u9} h9 => (hSw.cell (World.block_lt_of_cell? w2 a9 h9)).trans h9
    have z0 := zK x0
    have z1 := zK x1
    have z2 := zK y0
    have z3 := zK y1
    clear zK hSw
    go_simp
    (try with_reducible rfl)
  (try simp only [Act.put, List.getElem_toArray, List.getElem_cons_succ, List.getElem_cons_zero, List.setIfInBounds_toArray, List.set_cons_zero, List.set_cons_succ])
  refine wpAnyH_take (i := 5) (v := ?_) rfl (by kernel_rfl) (by kernel_rfl) (by kernel_rfl) (fun _ _ _ h => h) (Or.inl ⟨by kernel_rfl, ?_⟩) (by assumption) ?_
  rotate_left
  focus
    intro w9 hSw
    (try dsimp only at hSw)
    have zK : ∀ {a9 : Addr} {u9 : Value}, w2.cell? a9 = some u9 → w9.cell? a9 = some u9 := fun {a9} {u9} h9 => (hSw.cell (World.block_lt_of_cell? w2 a9 h9)).trans h9
    have z0 := zK x0
    have z1 := zK x1
    have z2 := zK y0
    have z3 := zK y1
    clear zK hSw
    go_simp
    (try with_reducible rfl)
  (try simp only [Act.put, List.getElem_toArray, List.getElem_cons_succ, List.getElem_cons_zero, List.setIfInBounds_toArray, List.set_cons_zero, List.set_cons_succ])
  refine wpAnyH_take (i := 6) (v := ?_) rfl (by kernel_rfl) (by kernel_rfl) (by kernel_rfl) (fun _ _ _ h => h) (Or.inl ⟨by kernel_rfl, ?_⟩) (by assumption) ?_
  rotate_left
  focus
    intro w9 hSw
    (try dsimp only at hSw)
    have zK : ∀ {a9 : Addr} {u9 : Value}, w2.cell? a9 = some u9 → w9.cell? a9 = some u9 := fun {a9} {u9} h9 => (hSw.cell (World.block_lt_of_cell? w2 a9 h9)).trans h9
    have z0 := zK x0
    have z1 := zK x1
    have z2 := zK y0
    have z3 := zK y1
    clear zK hSw
    go_simp
    (try with_reducible rfl)
  (try simp only [Act.put, List.getElem_toArray, List.getElem_cons_succ, List.getElem_cons_zero, List.setIfInBounds_toArray, List.set_cons_zero, List.set_cons_succ])
  refine wpAnyH_take (i := 7) (v := ?_) rfl (by kernel_rfl) (by kernel_rfl) (by kernel_rfl) (fun _ _ _ h => h) (Or.inl ⟨by kernel_rfl, ?_⟩) (by assumption) ?_
  rotate_left
  focus
    intro w9 hSw
    (try dsimp only at hSw)
    have zK : ∀ {a9 : Addr} {u9 : Value}, w2.cell? a9 = some u9 → w9.cell? a9 = some u9 := fun {a9} {u9} h9 => (hSw.cell (World.block_lt_of_cell? w2 a9 h9)).trans h9
    have z0 := zK x0
    have z1 := zK x1
    have z2 := zK y0
    have z3 := zK y1
    clear zK hSw
    go_simp
    (try with_reducible rfl)
  (try simp only [Act.put, List.getElem_toArray, List.getElem_cons_succ, List.getElem_cons_zero, List.setIfInBounds_toArray, List.set_cons_zero, List.set_cons_succ])
  refine wpAnyH_take (i := 8) (v := ?_) rfl (by kernel_rfl) (by kernel_rfl) (by kernel_rfl) (fun _ _ _ h => h) (Or.inl ⟨by kernel_rfl, ?_⟩) (by assumption) ?_
  rotate_left
  focus
    intro w9 hSw
    (try dsimp only at hSw)
    have zK : ∀ {a9 : Addr} {u9 : Value}, w2.cell? a9 = some u9 → w9.cell? a9 = some u9 := fun {a9} {u9} h9 => (hSw.cell (World.block_lt_of_cell? w2 a9 h9)).trans h9
    have z0 := zK x0
    have z1 := zK x1
    have z2 := zK y0
    have z3 := zK y1
    clear zK hSw
    go_simp
    (try with_reducible rfl)
  (try simp only [Act.put, List.getElem_toArray, List.getElem_cons_succ, List.getElem_cons_zero, List.setIfInBounds_toArray, List.set_cons_zero, List.set_cons_succ])
  refine wpAnyH_ready (rs := [4]) (by kernel_rfl) (by simp) (AllReadyH.cons rfl (fun K hK => ?_) AllReadyH.nil)
  go_simp
  go_at_call 53
  refine (HC1.out _).mono ?_
  rintro e w3 ⟨rfl, rfl⟩
  refine hK.out _ _ ?_ (fun hHeld => ?_)
  focus exact (Below.refl _ _).drew
  clear hK K
  (try simp only [Act.put, List.getElem_toArray, List.getElem_cons_succ, List.getElem_cons_zero, List.setIfInBounds_toArray, List.set_cons_zero, List.set_cons_succ])
  refine wpAnyH_ready (rs := [9]) (by kernel_rfl) (by simp) (AllReadyH.cons rfl (fun K hK => ?_) AllReadyH.nil)
  go_simp
  go_at_call 54
  refine (HC2.out _).mono ?_
  rintro e w3 ⟨rfl, rfl⟩
  refine hK.out _ _ ?_ (fun hHeld => ?_)
  focus exact (Below.refl _ _).drew
  clear hK K
  (try simp only [Act.put, List.getElem_toArray, List.getElem_cons_succ, List.getElem_cons_zero, List.setIfInBounds_toArray, List.set_cons_zero, List.set_cons_succ])
  refine wpAnyH_ready (rs := [10]) (by kernel_rfl) (by simp) (AllReadyH.cons rfl (fun K hK => ?_) AllReadyH.nil)
  go_simp
  have kz := Blk.new w2 3 #[.int .i64 c1, .int .i64 c2]
  have bz : Below w2.heap.size w2 (w2.alloc (.cells #[.int .i64 c1, .int .i64 c2] 3)).drew := (below_alloc (Below.refl _ _) _).drew
  refine hK.out _ _ ?_ (fun hHeld => ?_)
  focus exact bz
  clear hK K
  (try simp only [Act.put, List.getElem_toArray, List.getElem_cons_succ, List.getElem_cons_zero, List.setIfInBounds_toArray, List.set_cons_zero, List.set_cons_succ])
  refine wpAnyH_ready (rs := [11]) (by kernel_rfl) (by simp) (AllReadyH.cons rfl (fun K hK => ?_) AllReadyH.nil)
  go_simp
  go_at_call 52
  refine (HO.out _ _ (by exact kz)).mono ?_
  rintro e w3 ⟨rfl, rfl⟩
  refine hK.out _ _ ?_ (fun hHeld => ?_)
  focus exact bz
  clear hK K
  (try simp only [Act.put, List.getElem_toArray, List.getElem_cons_succ, List.getElem_cons_zero, List.setIfInBounds_toArray, List.set_cons_zero, List.set_cons_succ])
  refine wpAnyH_take (i := 12) (v := ?_) rfl (by kernel_rfl) (by kernel_rfl) (by kernel_rfl) (fun _ _ _ h => h) (Or.inl ⟨by kernel_rfl, ?_⟩) (by assumption) ?_
  rotate_left
  focus
    intro w9 hSw
    (try dsimp only at hSw)
    go_simp
    (try with_reducible rfl)
  (try simp only [Act.put, List.getElem_toArray, List.getElem_cons_succ, List.getElem_cons_zero, List.setIfInBounds_toArray, List.set_cons_zero, List.set_cons_succ])
  refine wpAnyH_done (by kernel_rfl) ?_ _
  (try simp only [Act.put, List.getElem_toArray, List.getElem_cons_succ, List.getElem_cons_zero, List.setIfInBounds_toArray, List.set_cons_zero, List.set_cons_succ])
  go_wp2
  go_ret
  exact ⟨by rw [HF.out]; rfl, below_then by_ bz⟩
end Go.Proofs.Ytnflhogjonlnmaa
