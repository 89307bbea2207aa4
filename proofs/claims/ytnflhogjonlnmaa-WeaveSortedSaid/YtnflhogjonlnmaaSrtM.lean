/- A row of packets that is sorted in place: its elements by value, and what a store of one leaves. -/
import Derived.Test.YtnflhogjonlnmaaPk
set_option linter.unusedSimpArgs false
set_option linter.unusedVariables false
namespace Go.Proofs.Ytnflhogjonlnmaa
open Go.RowKit

/-- A packet as it lies in a row. -/
structure SP where
  p : Pk
  A : Option Addr
  c : Nat
def SP.cs (x : SP) : List Value := x.p.cells x.A x.c
theorem SP.len (x : SP) : x.cs.length = 6 := rfl
def spz : SP := ⟨⟨0, 0, 0, false, false, []⟩, none, 0⟩
theorem flat_len (xs : List SP) : (xs.flatMap SP.cs).length = xs.length * 6 := by
  induction xs with
  | nil => rfl
  | cons x xs ih => rw [List.flatMap_cons, List.length_append, ih, SP.len, List.length_cons]; omega
theorem flat_get (xs : List SP) (tl : List Value) {j i : Nat} (hj : j < xs.length) (hi : i < 6) : (xs.flatMap SP.cs ++ tl)[j * 6 + i]? = (xs[j]).cs[i]? := by
  induction xs generalizing j with
  | nil => simp at hj
  | cons x xs ih =>
    rw [List.flatMap_cons, List.append_assoc]
    match j with
    | 0 => rw [List.getElem?_append_left (by rw [SP.len]; omega)]; simp
    | j + 1 =>
      rw [List.getElem?_append_right (by rw [SP.len]; omega), SP.len, show (j + 1) * 6 + i - 6 = j * 6 + i by omega]
      rw [ih (by simpa using hj)]
      rfl
theorem flat_set (xs : List SP) (tl : List Value) {j : Nat} (hj : j < xs.length) (y : SP) {v0 v1 v2 v3 v4 v5 : Value} (hy : y.cs = [v0, v1, v2, v3, v4, v5]) :
    ((((((xs.flatMap SP.cs ++ tl).set (j * 6) v0).set (j * 6 + 1) v1).set (j * 6 + 2) v2).set (j * 6 + 3) v3).set (j * 6 + 4) v4).set (j * 6 + 5) v5 = (xs.set j y).flatMap SP.cs ++ tl := by
  induction xs generalizing j with
  | nil => simp at hj
  | cons x xs ih =>
    match j with
    | 0 =>
      rw [List.set_cons_zero, List.flatMap_cons, List.flatMap_cons, hy]
      rfl
    | j + 1 =>
      rw [List.set_cons_succ, List.flatMap_cons, List.flatMap_cons, List.append_assoc, List.append_assoc, ← ih (by simpa using hj)]
      have e : ∀ (L : List Value) (k : Nat) (v : Value), (x.cs ++ L).set (6 + k) v = x.cs ++ L.set k v := fun L k v => by
        rw [List.set_append_right _ _ (by rw [SP.len]; omega), SP.len, show 6 + k - 6 = k by omega]
      rw [show (j + 1) * 6 = 6 + j * 6 by omega, show 6 + j * 6 + 1 = 6 + (j * 6 + 1) by omega, show 6 + j * 6 + 2 = 6 + (j * 6 + 2) by omega, show 6 + j * 6 + 3 = 6 + (j * 6 + 3) by omega, show 6 + j * 6 + 4 = 6 + (j * 6 + 4) by omega, show 6 + j * 6 + 5 = 6 + (j * 6 + 5) by omega]
      simp only [e]
def SRow (W : World) (gb : Nat) (xs : List SP) (tl : List Value) : Prop := Blk W gb 40 (xs.flatMap SP.cs ++ tl).toArray
section
variable {W W' : World} {gb : Nat} {xs : List SP} {tl : List Value}
theorem SRow.at_ (h : SRow W gb xs tl) {j : Nat} (hj : j < xs.length) {x : SP} (hx : xs.getD j spz = x) :
    W.cell? ⟨gb, j * 6, none⟩ = some (.int .i64 x.p.st) ∧ W.cell? ⟨gb, j * 6 + 1, none⟩ = some (.int .i64 x.p.at_) ∧ W.cell? ⟨gb, j * 6 + 2, none⟩ = some (.int .i64 x.p.ln) ∧ W.cell? ⟨gb, j * 6 + 3, none⟩ = some (.bool x.p.key) ∧
    W.cell? ⟨gb, j * 6 + 4, none⟩ = some (.bool x.p.hid) ∧ W.cell? ⟨gb, j * 6 + 5, none⟩ = some (.slice x.A x.p.data.length x.c) := by
  rw [List.getD_eq_getElem?_getD, List.getElem?_eq_getElem hj, Option.getD_some] at hx
  subst hx
  have k : ∀ i, i < 6 → W.cell? ⟨gb, j * 6 + i, none⟩ = (xs[j]).cs[i]? := fun i hi => by
    rw [Blk.cell h (j * 6 + i), List.getElem?_toArray, flat_get xs tl hj hi]
  exact ⟨k 0 (by omega), k 1 (by omega), k 2 (by omega), k 3 (by omega), k 4 (by omega), k 5 (by omega)⟩
theorem SRow.fz (h : SRow W gb xs tl) (j : Nat) : W.frozen? ⟨gb, j, none⟩ = false := Blk.frozen h j
theorem SRow.mod {M : Nat → Prop} (h : SRow W gb xs tl) (hm : Mod M W W') (hn : ¬ M gb) : SRow W' gb xs tl := Blk.mod h hm hn
theorem SRow.below (h : SRow W gb xs tl) (hb : Below W.heap.size W W') : SRow W' gb xs tl := Blk.below h hb (Blk.lt h)
theorem SRow.put (h : SRow W gb xs tl) {j : Nat} (hj : j < xs.length) (y : SP) :
    SRow ((((((W.setCell ⟨gb, j * 6, none⟩ (.int .i64 y.p.st)).setCell ⟨gb, j * 6 + 1, none⟩ (.int .i64 y.p.at_)).setCell ⟨gb, j * 6 + 2, none⟩ (.int .i64 y.p.ln)).setCell ⟨gb, j * 6 + 3, none⟩ (.bool y.p.key)).setCell ⟨gb, j * 6 + 4, none⟩ (.bool y.p.hid)).setCell ⟨gb, j * 6 + 5, none⟩ (.slice y.A y.p.data.length y.c)) gb (xs.set j y) tl := by
  have h1 := (((((Blk.set_ h (j * 6) (.int .i64 y.p.st)).set_ (j * 6 + 1) (.int .i64 y.p.at_)).set_ (j * 6 + 2) (.int .i64 y.p.ln)).set_ (j * 6 + 3) (.bool y.p.key)).set_ (j * 6 + 4) (.bool y.p.hid)).set_ (j * 6 + 5) (.slice y.A y.p.data.length y.c)
  have e := flat_set xs tl hj y rfl
  unfold SRow
  rw [← e]
  simpa using h1
theorem SRow.drew (h : SRow W gb xs tl) : SRow W.drew gb xs tl := h
theorem SRow.putM (W : World) (gb : Nat) (j : Nat) (y : SP) :
    Mod (· = gb) W ((((((W.setCell ⟨gb, j * 6, none⟩ (.int .i64 y.p.st)).setCell ⟨gb, j * 6 + 1, none⟩ (.int .i64 y.p.at_)).setCell ⟨gb, j * 6 + 2, none⟩ (.int .i64 y.p.ln)).setCell ⟨gb, j * 6 + 3, none⟩ (.bool y.p.key)).setCell ⟨gb, j * 6 + 4, none⟩ (.bool y.p.hid)).setCell ⟨gb, j * 6 + 5, none⟩ (.slice y.A y.p.data.length y.c)) :=
  mod_put (mod_put (mod_put (mod_put (mod_put (mod_put (Mod.refl _ _) (fun _ => rfl)) (fun _ => rfl)) (fun _ => rfl)) (fun _ => rfl)) (fun _ => rfl)) (fun _ => rfl)
end
end Go.Proofs.Ytnflhogjonlnmaa
