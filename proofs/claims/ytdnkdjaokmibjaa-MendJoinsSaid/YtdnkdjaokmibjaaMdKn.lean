/- known() of chapter 35. -/
import Derived.Test.YtdnkdjaokmibjaaMdMe
import Derived.Test.YtdnkdjaokmibjaaMdGu
import Derived.Test.YtdnkdjaokmibjaaOwnEmp
import Derived.Test.YtdnkdjaokmibjaaPgSame
import Derived.Test.YtdnkdjaokmibjaaHoSame
import Derived.Lib.SlBytesConst
import Derived.Lib.SmallJoins
set_option linter.unusedSimpArgs false
set_option linter.unusedVariables false
namespace Go.Proofs.Ytdnkdjaokmibjaa
open Go.RowKit

/-- A row by number is known by what it holds. -/
theorem sorted_one : ∀ {xs ys : List Pg}, ys.Perm xs → xs.Pairwise (fun a b => a.seq < b.seq) → ys.Pairwise (fun a b => a.seq ≤ b.seq) → ys = xs
  | [], ys, hp, _, _ => hp.eq_nil
  | x :: xs, [], hp, _, _ => by have := hp.length_eq; simp at this
  | x :: xs, y :: ys, hp, hx, hy => by
    obtain ⟨hx1, hx2⟩ := List.pairwise_cons.1 hx
    obtain ⟨hy1, hy2⟩ := List.pairwise_cons.1 hy
    have h1 : y ∈ x :: xs := hp.mem_iff.1 (List.mem_cons_self ..)
    have h2 : x ∈ y :: ys := hp.mem_iff.2 (List.mem_cons_self ..)
    have he : y = x := by
      rcases List.mem_cons.1 h1 with h | h
      · exact h
      · rcases List.mem_cons.1 h2 with h' | h'
        · exact h'.symm
        · have a := hx1 y h
          have b := hy1 x h'
          omega
    subst he
    rw [sorted_one (hp.cons_inv) hx2 hy2]

def kA : Pg := ⟨0, true, false, false, [97, 98]⟩
def kB : Pg := ⟨1, false, true, false, [99]⟩
def kG : Pg := ⟨0, false, false, true, [2, 3, 3, 2, 98]⟩
theorem k_gE : guardE [kA, kB] = 0 := by decide +kernel
theorem k_gP : guardP [kA, kB] = [kA, kB, kG] := by decide +kernel
theorem k_m1 : mendO [kA, kG] = [kA, kB] := by decide +kernel
theorem k_t1 : mendT [kA, kG] = 1 := by decide +kernel
theorem k_m2 : mendO [kG] = [] := by decide +kernel
theorem k_t2 : mendT [kG] = 1 := by decide +kernel
theorem k_h1 : holesP [kA, kB] 1 = [] := by decide +kernel
theorem k_h2 : holesP [] 1 = [⟨0, 1⟩] := by decide +kernel
theorem k_str : str [2, 3, 3, 2, 98] = ⟨#[2, 3, 3, 2, 98]⟩ := rfl

theorem kGuard (W : World) {A : Option Addr} {c : Nat} {S : Nat → Prop} (hr : RdPg W S A [kA, kB]) (hc : 2 ≤ c) :
    Calls Try.prog 10 #[.slice A 2 c] W fun e w' => ∃ A' c', e = .returned (.tuple #[.slice A' 3 c', .int .i64 0]) ∧ 3 ≤ c' ∧ RdPg w' (fun b => b < w'.heap.size) A' [kA, kB, kG] ∧ Below W.heap.size W w' := by
  have h := mdguard_any (c := c) hr (by simp) hc
  rw [k_gE, k_gP] at h
  refine h.mono ?_
  rintro e w' ⟨v, rfl, ho, hb⟩
  obtain ⟨A', c', rfl, hc, hr⟩ := ho.reads PgR.good (S := fun b => b < w'.heap.size) (fun b _ hl => hl)
  exact ⟨A', c', rfl, hc, hr, hb⟩
theorem kMend1 (W : World) {A : Option Addr} {c : Nat} {S : Nat → Prop} (hr : RdPg W S A [kA, kG]) :
    Calls Try.prog 12 #[.slice A 2 c] W fun e w' => ∃ A' c' A2 c2, e = .returned (.tuple #[.slice A' 2 c', .slice A2 0 c2]) ∧ RdPg w' (fun b => b < w'.heap.size) A' [kA, kB] ∧ Below W.heap.size W w' := by
  have h := mend_any (c := c) hr (by simp)
  rw [k_m1, k_t1] at h
  refine h.mono ?_
  rintro e w' ⟨v, v2, ys, rfl, hp, hs, ho, ho2, hb⟩
  have hy := sorted_one hp (by simp [kA, kB]) hs
  subst hy
  rw [k_h1] at ho2
  obtain ⟨A', c', rfl, hc, hr⟩ := ho.reads PgR.good (S := fun b => b < w'.heap.size) (fun b _ hl => hl)
  obtain ⟨A2, c2, rfl, _, _⟩ := ho2.form HoR.good
  exact ⟨A', c', A2, c2, rfl, hr, hb⟩
theorem kMend2 (W : World) {A : Option Addr} {c : Nat} {S : Nat → Prop} (hr : RdPg W S A [kG]) :
    Calls Try.prog 12 #[.slice A 1 c] W fun e w' => ∃ A' c' A2 c2, e = .returned (.tuple #[.slice A' 0 c', .slice A2 1 c2]) ∧ RdHo w' (fun b => b < w'.heap.size) A2 [⟨0, 1⟩] ∧ Below W.heap.size W w' := by
  have h := mend_any (c := c) hr (by simp)
  rw [k_m2, k_t2] at h
  refine h.mono ?_
  rintro e w' ⟨v, v2, ys, rfl, hp, hs, ho, ho2, hb⟩
  have hy := hp.eq_nil
  subst hy
  rw [k_h2] at ho2
  obtain ⟨A', c', rfl, _, _⟩ := ho.form PgR.good
  obtain ⟨A2, c2, rfl, hc, hr⟩ := ho2.reads HoR.good (S := fun b => b < w'.heap.size) (fun b _ hl => hl)
  exact ⟨A', c', A2, c2, rfl, hr, hb⟩
theorem kSame (W : World) {A A' : Option Addr} (c c' : Nat) {S S' : Nat → Prop} (ha : RdPg W S A [kA, kB]) (hb : RdPg W S' A' [kA, kB]) :
    Calls Try.prog 13 #[.slice A 2 c, .slice A' 2 c'] W fun e w' => e = .returned (.bool true) ∧ Below W.heap.size W w' := by
  have h := samepgs_any c c' ha hb (by simp) (by simp)
  rw [decide_eq_true rfl] at h
  exact h
theorem kHoles (W : World) {A A' : Option Addr} (c c' : Nat) {S S' : Nat → Prop} (ha : RdHo W S A [⟨0, 1⟩]) (hb : RdHo W S' A' [⟨0, 1⟩]) :
    Calls Try.prog 15 #[.slice A 1 c, .slice A' 1 c'] W fun e w' => e = .returned (.bool true) ∧ ∃ n, w' = W.drewN n := by
  have h := sameho_any c c' ha hb (by simp) (by simp)
  rw [decide_eq_true rfl] at h
  exact h

set_option maxHeartbeats 8000000 in
set_option maxRecDepth 100000 in
theorem known_any (w : World) : Calls Try.prog 14 #[] w fun e w' => e = .returned (.bool true) ∧ Below w.heap.size w w' := by
  have kc := fun (w : World) (C : Array Value) (n c : Nat) => Lib.run_convert_bytes_const (P := Try.prog) w 31 5 C n c Try.underlying31 Try.underlying5
  have kd := fun (w : World) (C : Array Value) (n c g : Nat) (hg : g = w.heap.size) => Go.Joins.run_convert_bytes_const_at (P := Try.prog) w 31 5 C n c g hg Try.underlying31 Try.underlying5
  go_enter Try.func14, Try.ntmps14
  go_upto_region 2 with fail
  clear kc kd
  have k0 := RdI.litG w .u8 [97, 98] #[.int .u8 97, .int .u8 98] 5 (2, 3) rfl
  have b0 : Below w.heap.size w (w.alloc (.cells #[.int .u8 97, .int .u8 98] 5 (2, 3))) := below_alloc (Below.refl _ _) _
  have hs0 : (w.alloc (.cells #[.int .u8 97, .int .u8 98] 5 (2, 3))).heap.size = w.heap.size + 1 := by simp
  generalize w.alloc (.cells #[.int .u8 97, .int .u8 98] 5 (2, 3)) = w0 at *
  have k1 := RdI.litG w0 .u8 [99] #[.int .u8 99] 5 (1, 2) rfl
  have b1 : Below w0.heap.size w0 (w0.alloc (.cells #[.int .u8 99] 5 (1, 2))) := below_alloc (Below.refl _ _) _
  have hs1 : (w0.alloc (.cells #[.int .u8 99] 5 (1, 2))).heap.size = w0.heap.size + 1 := by simp
  generalize w0.alloc (.cells #[.int .u8 99] 5 (1, 2)) = w1 at *
  have k01 := k0.below b1 (by omega)
  have hz0 : w0.heap.size = w.heap.size + 1 := hs0
  rw [hz0] at k1
  have pA : PgR w1 (fun _ => True) [.int .i64 0, .bool true, .bool false, .bool false, .slice (some ⟨w.heap.size, 0, none⟩) 2 2] kA := ⟨some ⟨w.heap.size, 0, none⟩, 2, rfl, by simp [kA], RdS.weak (RdI.rds k01) (fun _ _ _ => trivial), ⟨by simp [kA, i64B], by simp [kA], fun x hx => by simp [kA] at hx; omega⟩⟩
  have pB : PgR w1 (fun _ => True) [.int .i64 1, .bool false, .bool true, .bool false, .slice (some ⟨w.heap.size + 1, 0, none⟩) 1 1] kB := ⟨some ⟨w.heap.size + 1, 0, none⟩, 1, rfl, by simp [kB], RdS.weak (RdI.rds k1) (fun _ _ _ => trivial), ⟨by simp [kB, i64B], by simp [kB], fun x hx => by simp [kB] at hx; omega⟩⟩
  have HL : RdPg (w1.alloc (.cells #[.int .i64 0, .bool true, .bool false, .bool false, .slice (some ⟨w.heap.size, 0, none⟩) 2 2, .int .i64 1, .bool false, .bool true, .bool false, .slice (some ⟨w.heap.size + 1, 0, none⟩) 1 1] 33)) (fun b => (True ∧ b < w1.heap.size) ∨ b = w1.heap.size) (some ⟨w1.heap.size, 0, none⟩) [kA, kB] := RdG.lits PgR.good w1 ((Cells.one PgR.good pA).append (Cells.one PgR.good pB)) 33
  have b2 : Below w1.heap.size w1 (w1.alloc (.cells #[.int .i64 0, .bool true, .bool false, .bool false, .slice (some ⟨w.heap.size, 0, none⟩) 2 2, .int .i64 1, .bool false, .bool true, .bool false, .slice (some ⟨w.heap.size + 1, 0, none⟩) 1 1] 33)) := below_alloc (Below.refl _ _) _
  have hz1 : w1.heap.size = w.heap.size + 1 + 1 := by omega
  rw [hz1] at HL
  have bw : Below w.heap.size w (w1.alloc (.cells #[.int .i64 0, .bool true, .bool false, .bool false, .slice (some ⟨w.heap.size, 0, none⟩) 2 2, .int .i64 1, .bool false, .bool true, .bool false, .slice (some ⟨w.heap.size + 1, 0, none⟩) 1 1] 33)) := b0.trans ((b1.mono (by omega)).trans (b2.mono (by omega)))
  generalize w1.alloc (.cells #[.int .i64 0, .bool true, .bool false, .bool false, .slice (some ⟨w.heap.size, 0, none⟩) 2 2, .int .i64 1, .bool false, .bool true, .bool false, .slice (some ⟨w.heap.size + 1, 0, none⟩) 1 1] 33) = w2 at *
  clear k0 k1 k01 pA pB b0 b1 b2 hs0 hs1 hz0 hz1
  have HGu := Lib.hid (kGuard w2 (c := 2) HL (by omega))
  have HL := Lib.hid (fun W (h : Below w2.heap.size w2 W) => HL.below PgR.good h)
  go_upto_region 5 with (first
    | (go_at_call 10; (with_reducible refine HGu.out.mono ?_); rintro e w3 ⟨A3, c3, rfl, hc3, hg3, hb3⟩))
  obtain ⟨ad, p, Aj, cj, rfl, _, hp, a0, a1, a2, a3, a4, hcj, hrj, hwj⟩ := RdPg.at_ hg3 (j := 0) (by simp)
  obtain ⟨ad', p2, A2, c2, hA, _, hp2, d0, d1, d2, d3, d4, hc2, hr2, hw2⟩ := RdPg.at_ hg3 (j := 2) (by simp)
  injection hA with hA
  subst hA
  have hp' : p = ad := by rw [← hp]; simp [Addr.add]
  have hp2' : p2 = ⟨ad.block, ad.off + 10, none⟩ := by rw [← hp2]; rfl
  subst hp' hp2'
  simp only [List.getElem_cons_zero, List.getElem_cons_succ] at a0 a1 a2 a3 a4 hcj hrj hwj d0 d1 d2 d3 d4 hc2 hr2 hw2
  simp only [kA, kG, List.length_cons, List.length_nil, Nat.zero_add, Nat.reduceAdd] at a0 a1 a2 a3 a4 d0 d1 d2 d3 d4
  have bw3 := bw.trans (hb3.mono bw.size)
  have pA : PgR w3 (fun b => b < w3.heap.size) [.int .i64 0, .bool true, .bool false, .bool false, .slice Aj 2 cj] kA := ⟨Aj, cj, rfl, hcj, hrj, hwj⟩
  have pG : PgR w3 (fun b => b < w3.heap.size) [.int .i64 0, .bool false, .bool false, .bool true, .slice A2 5 c2] kG := ⟨A2, c2, rfl, hc2, hr2, hw2⟩
  have HL2 : RdPg (w3.alloc (.cells #[.int .i64 0, .bool true, .bool false, .bool false, .slice Aj 2 cj, .int .i64 0, .bool false, .bool false, .bool true, .slice A2 5 c2] 33)).drew (fun b => (b < w3.heap.size ∧ b < w3.heap.size) ∨ b = w3.heap.size) (some ⟨w3.heap.size, 0, none⟩) [kA, kG] := RdG.lits PgR.good w3 ((Cells.one PgR.good pA).append (Cells.one PgR.good pG)) 33
  have b4 : Below w3.heap.size w3 (w3.alloc (.cells #[.int .i64 0, .bool true, .bool false, .bool false, .slice Aj 2 cj, .int .i64 0, .bool false, .bool false, .bool true, .slice A2 5 c2] 33)).drew := (below_alloc (Below.refl w3.heap.size w3) _).drew
  have HMe := Lib.hid (kMend1 (w3.alloc (.cells #[.int .i64 0, .bool true, .bool false, .bool false, .slice Aj 2 cj, .int .i64 0, .bool false, .bool false, .bool true, .slice A2 5 c2] 33)).drew (c := 2) HL2)
  have HG3 := Lib.hid (fun W (h : Below w3.heap.size w3 W) => hg3.below PgR.good h)
  clear pA pG HL2 hp hp2 hwj hw2 hcj hrj
  refine wp_region_held_drew (S := (fun w' => Below w3.heap.size w3 w')) (by kernel_rfl) ?_ (fun hHeld => ?_)
  focus exact (Below.refl _ _).drew
  refine wpAnyH_take (i := 0) (v := ?_) rfl (by kernel_rfl) (by kernel_rfl) (by kernel_rfl) (fun _ _ _ h => h) (Or.inl ⟨by kernel_rfl, ?_⟩) (by assumption) ?_
  rotate_left
  focus
    intro w9 hSw
    (try dsimp only at hSw)
    have zK : ∀ {a9 : Addr} {u9 : Value}, w3.cell? a9 = some u9 → w9.cell? a9 = some u9 := fun {a9} {u9} h9 => (hSw.cell (World.block_lt_of_cell? w3 a9 h9)).trans h9
    have z0 := zK a0
    have z1 := zK a1
    have z2 := zK a2
    have z3 := zK a3
    have z4 := zK a4
    have z5 := zK d0
    have z6 := zK d1
    have z7 := zK d2
    have z8 := zK d3
    have z9 := zK d4
    clear zK hSw
    go_simp
    (try with_reducible rfl)
  (try simp only [Act.put, List.getElem_toArray, List.getElem_cons_succ, List.getElem_cons_zero, List.setIfInBounds_toArray, List.set_cons_zero, List.set_cons_succ])
  refine wpAnyH_take (i := 1) (v := ?_) rfl (by kernel_rfl) (by kernel_rfl) (by kernel_rfl) (fun _ _ _ h => h) (Or.inl ⟨by kernel_rfl, ?_⟩) (by assumption) ?_
  rotate_left
  focus
    intro w9 hSw
    (try dsimp only at hSw)
    have zK : ∀ {a9 : Addr} {u9 : Value}, w3.cell? a9 = some u9 → w9.cell? a9 = some u9 := fun {a9} {u9} h9 => (hSw.cell (World.block_lt_of_cell? w3 a9 h9)).trans h9
    have z0 := zK a0
    have z1 := zK a1
    have z2 := zK a2
    have z3 := zK a3
    have z4 := zK a4
    have z5 := zK d0
    have z6 := zK d1
    have z7 := zK d2
    have z8 := zK d3
    have z9 := zK d4
    clear zK hSw
    go_simp
    (try with_reducible rfl)
  (try simp only [Act.put, List.getElem_toArray, List.getElem_cons_succ, List.getElem_cons_zero, List.setIfInBounds_toArray, List.set_cons_zero, List.set_cons_succ])
  refine wpAnyH_take (i := 2) (v := ?_) rfl (by kernel_rfl) (by kernel_rfl) (by kernel_rfl) (fun _ _ _ h => h) (Or.inl ⟨by kernel_rfl, ?_⟩) (by assumption) ?_
  rotate_left
  focus
    intro w9 hSw
    (try dsimp only at hSw)
    have zK : ∀ {a9 : Addr} {u9 : Value}, w3.cell? a9 = some u9 → w9.cell? a9 = some u9 := fun {a9} {u9} h9 => (hSw.cell (World.block_lt_of_cell? w3 a9 h9)).trans h9
    have z0 := zK a0
    have z1 := zK a1
    have z2 := zK a2
    have z3 := zK a3
    have z4 := zK a4
    have z5 := zK d0
    have z6 := zK d1
    have z7 := zK d2
    have z8 := zK d3
    have z9 := zK d4
    clear zK hSw
    go_simp
    (try with_reducible rfl)
  (try simp only [Act.put, List.getElem_toArray, List.getElem_cons_succ, List.getElem_cons_zero, List.setIfInBounds_toArray, List.set_cons_zero, List.set_cons_succ])
  refine wpAnyH_take (i := 3) (v := ?_) rfl (by kernel_rfl) (by kernel_rfl) (by kernel_rfl) (fun _ _ _ h => h) (Or.inl ⟨by kernel_rfl, ?_⟩) (by assumption) ?_
  rotate_left
  focus
    intro w9 hSw
    (try dsimp only at hSw)
    have zK : ∀ {a9 : Addr} {u9 : Value}, w3.cell? a9 = some u9 → w9.cell? a9 = some u9 := fun {a9} {u9} h9 => (hSw.cell (World.block_lt_of_cell? w3 a9 h9)).trans h9
    have z0 := zK a0
    have z1 := zK a1
    have z2 := zK a2
    have z3 := zK a3
    have z4 := zK a4
    have z5 := zK d0
    have z6 := zK d1
    have z7 := zK d2
    have z8 := zK d3
    have z9 := zK d4
    clear zK hSw
    go_simp
    (try with_reducible rfl)
  (try simp only [Act.put, List.getElem_toArray, List.getElem_cons_succ, List.getElem_cons_zero, List.setIfInBounds_toArray, List.set_cons_zero, List.set_cons_succ])
  refine wpAnyH_take (i := 4) (v := ?_) rfl (by kernel_rfl) (by kernel_rfl) (by kernel_rfl) (fun _ _ _ h => h) (Or.inl ⟨by kernel_rfl, ?_⟩) (by assumption) ?_
  rotate_left
  focus
    intro w9 hSw
    (try dsimp only at hSw)
    have zK : ∀ {a9 : Addr} {u9 : Value}, w3.cell? a9 = some u9 → w9.cell? a9 = some u9 := fun {a9} {u9} h9 => (hSw.cell (World.block_lt_of_cell? w3 a9 h9)).trans h9
    have z0 := zK a0
    have z1 := zK a1
    have z2 := zK a2
    have z3 := zK a3
    have z4 := zK a4
    have z5 := zK d0
    have z6 := zK d1
    have z7 := zK d2
    have z8 := zK d3
    have z9 := zK d4
    clear zK hSw
    go_simp
    (try with_reducible rfl)
  (try simp only [Act.put, List.getElem_toArray, List.getElem_cons_succ, List.getElem_cons_zero, List.setIfInBounds_toArray, List.set_cons_zero, List.set_cons_succ])
  refine wpAnyH_take (i := 5) (v := ?_) rfl (by kernel_rfl) (by kernel_rfl) (by kernel_rfl) (fun _ _ _ h => h) (Or.inl ⟨by kernel_rfl, ?_⟩) (by assumption) ?_
  rotate_left
  focus
    intro w9 hSw
    (try dsimp only at hSw)
    have zK : ∀ {a9 : Addr} {u9 : Value}, w3.cell? a9 = some u9 → w9.cell? a9 = some u9 := fun {a9} {u9} h9 => (hSw.cell (World.block_lt_of_cell? w3 a9 h9)).trans h9
    have z0 := zK a0
    have z1 := zK a1
    have z2 := zK a2
    have z3 := zK a3
    have z4 := zK a4
    have z5 := zK d0
    have z6 := zK d1
    have z7 := zK d2
    have z8 := zK d3
    have z9 := zK d4
    clear zK hSw
    go_simp
    (try with_reducible rfl)
  (try simp only [Act.put, List.getElem_toArray, List.getElem_cons_succ, List.getElem_cons_zero, List.setIfInBounds_toArray, List.set_cons_zero, List.set_cons_succ])
  refine wpAnyH_ready (rs := [6]) (by kernel_rfl) (by simp) (AllReadyH.cons rfl (fun K hK => ?_) AllReadyH.nil)
  go_simp
  refine hK.out _ _ ?_ (fun hHeld => ?_)
  focus exact b4
  clear hK K
  (try simp only [Act.put, List.getElem_toArray, List.getElem_cons_succ, List.getElem_cons_zero, List.setIfInBounds_toArray, List.set_cons_zero, List.set_cons_succ])
  refine wpAnyH_ready (rs := [7]) (by kernel_rfl) (by simp) (AllReadyH.cons rfl (fun K hK => ?_) AllReadyH.nil)
  go_simp
  go_at_call 12
  with_reducible refine HMe.out.mono ?_
  rintro e w5 ⟨A5, c5, A6, c6, rfl, hg5, hb5⟩
  have b5 := b4.trans (hb5.mono b4.size)
  refine hK.out _ _ ?_ (fun hHeld => ?_)
  focus exact b5
  clear hK K
  (try simp only [Act.put, List.getElem_toArray, List.getElem_cons_succ, List.getElem_cons_zero, List.setIfInBounds_toArray, List.set_cons_zero, List.set_cons_succ])
  refine wpAnyH_take (i := 8) (v := ?_) rfl (by kernel_rfl) (by kernel_rfl) (by kernel_rfl) (fun _ _ _ h => h) (Or.inl ⟨by kernel_rfl, ?_⟩) (by assumption) ?_
  rotate_left
  focus
    intro w9 hSw
    (try dsimp only at hSw)
    go_simp
    (try with_reducible rfl)
  (try simp only [Act.put, List.getElem_toArray, List.getElem_cons_succ, List.getElem_cons_zero, List.setIfInBounds_toArray, List.set_cons_zero, List.set_cons_succ])
  refine wpAnyH_take (i := 9) (v := ?_) rfl (by kernel_rfl) (by kernel_rfl) (by kernel_rfl) (fun _ _ _ h => h) (Or.inl ⟨by kernel_rfl, ?_⟩) (by assumption) ?_
  rotate_left
  focus
    intro w9 hSw
    (try dsimp only at hSw)
    go_simp
    (try with_reducible rfl)
  (try simp only [Act.put, List.getElem_toArray, List.getElem_cons_succ, List.getElem_cons_zero, List.setIfInBounds_toArray, List.set_cons_zero, List.set_cons_succ])
  refine wpAnyH_take (i := 10) (v := ?_) rfl (by kernel_rfl) (by kernel_rfl) (by kernel_rfl) (fun _ _ _ h => h) (Or.inl ⟨by kernel_rfl, ?_⟩) (by assumption) ?_
  rotate_left
  focus
    intro w9 hSw
    (try dsimp only at hSw)
    go_simp
    (try with_reducible rfl)
  (try simp only [Act.put, List.getElem_toArray, List.getElem_cons_succ, List.getElem_cons_zero, List.setIfInBounds_toArray, List.set_cons_zero, List.set_cons_succ])
  refine wpAnyH_take (i := 11) (v := ?_) rfl (by kernel_rfl) (by kernel_rfl) (by kernel_rfl) (fun _ _ _ h => h) (Or.inl ⟨by kernel_rfl, ?_⟩) (by assumption) ?_
  rotate_left
  focus
    intro w9 hSw
    (try dsimp only at hSw)
    go_simp
    (try with_reducible rfl)
  (try simp only [Act.put, List.getElem_toArray, List.getElem_cons_succ, List.getElem_cons_zero, List.setIfInBounds_toArray, List.set_cons_zero, List.set_cons_succ])
  refine wpAnyH_take (i := 12) (v := ?_) rfl (by kernel_rfl) (by kernel_rfl) (by kernel_rfl) (fun _ _ _ h => h) (Or.inl ⟨by kernel_rfl, ?_⟩) (by assumption) ?_
  rotate_left
  focus
    intro w9 hSw
    (try dsimp only at hSw)
    go_simp
    (try with_reducible rfl)
  (try simp only [Act.put, List.getElem_toArray, List.getElem_cons_succ, List.getElem_cons_zero, List.setIfInBounds_toArray, List.set_cons_zero, List.set_cons_succ])
  refine wpAnyH_done (by kernel_rfl) ?_ _
  (try simp only [Act.put, List.getElem_toArray, List.getElem_cons_succ, List.getElem_cons_zero, List.setIfInBounds_toArray, List.set_cons_zero, List.set_cons_succ])
  obtain ⟨A7, hsl, hg7⟩ := RdG.slice_l (P := Try.prog) Try.underlying23 info_pg (HG3.out _ b5) (lo := 2) (c := c3) (by simp) hc3
  rw [show ((2 : Nat) : Int) = 2 from rfl] at hsl
  simp only [List.length_cons, List.length_nil, Nat.zero_add, Nat.reduceAdd, Nat.reduceSub] at hsl
  have hg7' : RdPg w5 (fun b => b < w3.heap.size) A7 [kG] := hg7
  have HMe2 := Lib.hid (kMend2 w5 (c := c3 - 2) hg7')
  clear hg7 hg7' a0 a1 a2 a3 a4
  go_upto_region 7 with (first
    | (go_at_call 12; (with_reducible refine HMe2.out.mono ?_); rintro e w7 ⟨A8, c8, A9, c9, rfl, hh9, hb7⟩))
  have b7 := b5.trans (hb7.mono b5.size)
  have e0 := (b7.cell (p := ⟨p.block, p.off + 10, none⟩) (World.block_lt_of_cell? w3 _ d0)).trans d0
  have e3 := (b7.cell (p := ⟨p.block, p.off + 10 + 3, none⟩) (World.block_lt_of_cell? w3 _ d3)).trans d3
  have e4 := (b7.cell (p := ⟨p.block, p.off + 10 + 4, none⟩) (World.block_lt_of_cell? w3 _ d4)).trans d4
  have hrs := (RdS.top hr2).below b7 (Nat.le_refl _)
  have r1 := run_str (P := Try.prog) Try.underlying31 Try.underlying5 Try.underlying9 hrs c2
  rw [show kG.body = [2, 3, 3, 2, 98] from rfl, k_str] at r1
  simp only [List.length_cons, List.length_nil, Nat.zero_add, Nat.reduceAdd] at r1
  have HSm := Lib.hid (fun W (h : Below w7.heap.size w7 W) => kSame W c5 2 ((hg5.below PgR.good hb7).below PgR.good h) (HL.out W (hb3.trans ((b7.trans (h.mono b7.size)).mono hb3.size))))
  have HHs := Lib.hid (fun W (h : Below w7.heap.size w7 W) => kHoles (W.alloc (.cells #[.int .i64 0, .int .i64 1] 41)) c9 1 ((hh9.below HoR.good h).below HoR.good (below_alloc (Below.refl _ _) _)) (RdG.one_ HoR.good W (S := fun _ => False) (cs := [.int .i64 0, .int .i64 1]) (x := ⟨0, 1⟩) ⟨rfl, ⟨by simp [i64B], by simp [i64B]⟩⟩ 41))
  have bw7 := bw3.trans (b7.mono bw3.size)
  have hs7 := bw7.size
  clear d0 d1 d2 d3 d4 hsl hr2 hrs hg5 hh9 HG3 HL HMe HMe2 HGu
  go_wp2_with (first
    | (go_at_call 13; (with_reducible refine (HSm.out _ (Below.refl _ _)).mono ?_); rintro e w8 ⟨rfl, hb8⟩)
    | (go_at_call 15; (with_reducible refine (HHs.out _ hb8).mono ?_); rintro e w9 ⟨rfl, n9, rfl⟩))
  go_ret
  exact ⟨rfl, below_drewN (bw7.trans ((hb8.mono hs7).trans (below_alloc (Below.refl w8.heap.size w8) _ |>.mono (by have := hb8.size; omega)))) _⟩
end Go.Proofs.Ytdnkdjaokmibjaa
