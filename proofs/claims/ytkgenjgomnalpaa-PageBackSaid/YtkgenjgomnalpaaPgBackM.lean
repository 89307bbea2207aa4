/- PageBack: how its loop lies in memory. Printed by genbackm.py. -/
import Derived.Test.YtkgenjgomnalpaaPgBackL
import Derived.Test.YtkgenjgomnalpaaJnPut
set_option linter.unusedSimpArgs false
set_option linter.unusedVariables false
namespace Go.Proofs.Ytkgenjgomnalpaa
open Go.RowKit

theorem OwnHo.any {e : TypeId} {w : World} {base : Nat} {D D' : Nat → Prop} {v : Value} {xs : List Ho} (h : OwnG HoR 2 e w base D v xs) : OwnG HoR 2 e w base D' v xs := by
  obtain ⟨cells, h1, h2, h3⟩ := h
  exact ⟨cells, h1, h2, h3⟩

structure BkM (w0 : World) (g B : Nat) (wr : World) (ob : Option Nat) (v1 v2 v3 v4 : Value) (t : Bk) (D1 D2 : Nat → Prop) : Prop where
  gB : g < B
  old : Below g w0 wr
  base : B ≤ wr.heap.size
  jn : JnR wr g ob t.s
  o1 : OwnG PkR 6 25 wr B D1 v1 t.want
  o2 : OwnG PkR 6 25 wr B D2 v2 t.got
  o3 : OwnG HoR 2 62 wr B (fun _ => False) v3 t.holes
  o4 : OwnG HoR 2 62 wr B (fun _ => False) v4 t.gps
  d1 : ∀ b, D1 b → b < wr.heap.size ∧ b ≠ g ∧ v1.ownBlock ≠ some b ∧ v2.ownBlock ≠ some b ∧ v3.ownBlock ≠ some b ∧ v4.ownBlock ≠ some b ∧ ob ≠ some b
  d2 : ∀ b, D2 b → b < wr.heap.size ∧ b ≠ g ∧ v1.ownBlock ≠ some b ∧ v2.ownBlock ≠ some b ∧ v3.ownBlock ≠ some b ∧ v4.ownBlock ≠ some b ∧ ob ≠ some b
  n12 : ∀ b, v1.ownBlock = some b → v2.ownBlock ≠ some b
  n13 : ∀ b, v1.ownBlock = some b → v3.ownBlock ≠ some b
  n14 : ∀ b, v1.ownBlock = some b → v4.ownBlock ≠ some b
  n23 : ∀ b, v2.ownBlock = some b → v3.ownBlock ≠ some b
  n24 : ∀ b, v2.ownBlock = some b → v4.ownBlock ≠ some b
  n34 : ∀ b, v3.ownBlock = some b → v4.ownBlock ≠ some b
  j1 : ∀ b, ob = some b → v1.ownBlock ≠ some b
  j2 : ∀ b, ob = some b → v2.ownBlock ≠ some b
  j3 : ∀ b, ob = some b → v3.ownBlock ≠ some b
  j4 : ∀ b, ob = some b → v4.ownBlock ≠ some b

section
variable {w0 wr w' : World} {g B : Nat} {ob : Option Nat} {v1 v2 v3 v4 : Value} {t : Bk} {D1 D2 : Nat → Prop}
theorem BkM.fresh (h : BkM w0 g B wr ob v1 v2 v3 v4 t D1 D2) (hb : Below wr.heap.size wr w') : BkM w0 g B w' ob v1 v2 v3 v4 t D1 D2 where
  gB := h.gB
  old := h.old.trans (hb.mono (Nat.le_of_lt h.jn.lt))
  base := Nat.le_trans h.base hb.size
  jn := h.jn.below hb
  o1 := h.o1.keep PkR.good (M := fun _ => False) (Mod.of_fresh hb) (fun _ _ _ h => h) (fun _ _ h => h)
  o2 := h.o2.keep PkR.good (M := fun _ => False) (Mod.of_fresh hb) (fun _ _ _ h => h) (fun _ _ h => h)
  o3 := h.o3.keep HoR.good (M := fun _ => False) (Mod.of_fresh hb) (fun _ _ _ h => h) (fun _ _ h => h)
  o4 := h.o4.keep HoR.good (M := fun _ => False) (Mod.of_fresh hb) (fun _ _ _ h => h) (fun _ _ h => h)
  d1 := fun b hd => ⟨Nat.lt_of_lt_of_le (h.d1 b hd).1 hb.size, (h.d1 b hd).2⟩
  d2 := fun b hd => ⟨Nat.lt_of_lt_of_le (h.d2 b hd).1 hb.size, (h.d2 b hd).2⟩
  n12 := h.n12
  n13 := h.n13
  n14 := h.n14
  n23 := h.n23
  n24 := h.n24
  n34 := h.n34
  j1 := h.j1
  j2 := h.j2
  j3 := h.j3
  j4 := h.j4
/-- The numbers alone turn. -/
theorem BkM.same (h : BkM w0 g B wr ob v1 v2 v3 v4 t D1 D2) {t' : Bk} (e1 : t'.want = t.want) (e2 : t'.got = t.got) (e3 : t'.holes = t.holes) (e4 : t'.gps = t.gps) (e5 : t'.s = t.s) : BkM w0 g B wr ob v1 v2 v3 v4 t' D1 D2 :=
  { h with jn := by rw [e5]; exact h.jn, o1 := by rw [e1]; exact h.o1, o2 := by rw [e2]; exact h.o2, o3 := by rw [e3]; exact h.o3, o4 := by rw [e4]; exact h.o4 }
/-- Joiner.Put. -/
theorem BkM.put (h : BkM w0 g B wr ob v1 v2 v3 v4 t D1 D2) {ob' : Option Nat} {s' : Jn} (hj : JnR w' g ob' s') (hm : Mod (fun b => b = g ∨ ob = some b) wr w') (ho : ∀ b, ob' = some b → ob = some b ∨ wr.heap.size ≤ b) :
    BkM w0 g B w' ob' v1 v2 v3 v4 ⟨t.n, t.whole, t.want, t.got, t.holes, t.gps, s'⟩ D1 D2 :=
  have l1 := h.o1.own_ge
  have l2 := h.o2.own_ge
  have l3 := h.o3.own_ge
  have l4 := h.o4.own_ge
  have hgB := h.gB
  { gB := h.gB
    old := h.old.trans (hm.below (Nat.le_of_lt h.jn.lt) (fun b hb => by rcases hb with rfl | hb; exact Nat.le_refl _; have := (h.jn.own b hb).1; omega))
    base := Nat.le_trans h.base hm.size
    jn := hj
    o1 := h.o1.keep PkR.good hm (fun b hb _ e => by rcases e with e | e; exact (h.d1 b hb).2.1 e; exact (h.d1 b hb).2.2.2.2.2.2 e) (fun b hb e => by rcases e with e | e; have := (l1 b hb).1; omega; exact h.j1 b e hb)
    o2 := h.o2.keep PkR.good hm (fun b hb _ e => by rcases e with e | e; exact (h.d2 b hb).2.1 e; exact (h.d2 b hb).2.2.2.2.2.2 e) (fun b hb e => by rcases e with e | e; have := (l2 b hb).1; omega; exact h.j2 b e hb)
    o3 := h.o3.keep HoR.good hm (fun b hb _ e => hb) (fun b hb e => by rcases e with e | e; have := (l3 b hb).1; omega; exact h.j3 b e hb)
    o4 := h.o4.keep HoR.good hm (fun b hb _ e => hb) (fun b hb e => by rcases e with e | e; have := (l4 b hb).1; omega; exact h.j4 b e hb)
    d1 := fun b hd => by
      obtain ⟨a1, a2, a3, a4, a5, a6, a7⟩ := h.d1 b hd
      exact ⟨Nat.lt_of_lt_of_le a1 hm.size, a2, a3, a4, a5, a6, fun e => by rcases ho b e with e | e; exact a7 e; omega⟩
    d2 := fun b hd => by
      obtain ⟨a1, a2, a3, a4, a5, a6, a7⟩ := h.d2 b hd
      exact ⟨Nat.lt_of_lt_of_le a1 hm.size, a2, a3, a4, a5, a6, fun e => by rcases ho b e with e | e; exact a7 e; omega⟩
    n12 := h.n12
    n13 := h.n13
    n14 := h.n14
    n23 := h.n23
    n24 := h.n24
    n34 := h.n34
    j1 := fun b e e' => by rcases ho b e with e | e; exact h.j1 b e e'; have := (l1 b e').2; omega
    j2 := fun b e e' => by rcases ho b e with e | e; exact h.j2 b e e'; have := (l2 b e').2; omega
    j3 := fun b e e' => by rcases ho b e with e | e; exact h.j3 b e e'; have := (l3 b e').2; omega
    j4 := fun b e e' => by rcases ho b e with e | e; exact h.j4 b e e'; have := (l4 b e').2; omega }
/-- An append onto 'want'. -/
theorem BkM.app1 (h : BkM w0 g B wr ob v1 v2 v3 v4 t D1 D2) {v' : Value} {xs : List Pk} {D' : Nat → Prop} (hm : Mod (fun b => v1.ownBlock = some b) wr w') (hv : ∀ b, v'.ownBlock = some b → v1.ownBlock = some b ∨ wr.heap.size ≤ b) (ho : OwnG PkR 6 25 w' B D' v' xs)
    (hd : ∀ b, D' b → b < w'.heap.size ∧ b ≠ g ∧ v'.ownBlock ≠ some b ∧ v2.ownBlock ≠ some b ∧ v3.ownBlock ≠ some b ∧ v4.ownBlock ≠ some b ∧ ob ≠ some b) :
    BkM w0 g B w' ob v' v2 v3 v4 ⟨t.n, t.whole, xs, t.got, t.holes, t.gps, t.s⟩ D' D2 :=
  have l1 := h.o1.own_ge
  have l2 := h.o2.own_ge
  have l3 := h.o3.own_ge
  have l4 := h.o4.own_ge
  have hgB := h.gB
  { gB := h.gB
    old := h.old.trans (hm.below (Nat.le_of_lt h.jn.lt) (fun b hb => by have := (l1 b hb).1; omega))
    base := Nat.le_trans h.base hm.size
    jn := h.jn.keep hm (fun hb => by have := (l1 g hb).1; omega) (fun b e hb => h.j1 b e hb)
    o1 := ho
    o2 := h.o2.keep PkR.good hm (fun b hb _ e => (h.d2 b hb).2.2.1 e) (fun b hb e => h.n12 b e hb)
    o3 := h.o3.keep HoR.good hm (fun b hb _ e => hb) (fun b hb e => h.n13 b e hb)
    o4 := h.o4.keep HoR.good hm (fun b hb _ e => hb) (fun b hb e => h.n14 b e hb)
    d1 := hd
    d2 := fun b hd9 => by
      obtain ⟨a1, a2, a3, a4, a5, a6, a7⟩ := h.d2 b hd9
      exact ⟨Nat.lt_of_lt_of_le a1 hm.size, a2, (fun e => by rcases hv b e with e | e; exact a3 e; omega), a4, a5, a6, a7⟩
    n12 := fun b e e' => by rcases hv b e with e | e; exact h.n12 b e e'; have := (l2 b e').2; omega
    n13 := fun b e e' => by rcases hv b e with e | e; exact h.n13 b e e'; have := (l3 b e').2; omega
    n14 := fun b e e' => by rcases hv b e with e | e; exact h.n14 b e e'; have := (l4 b e').2; omega
    n23 := h.n23
    n24 := h.n24
    n34 := h.n34
    j1 := fun b e e' => by rcases hv b e' with e' | e'; exact h.j1 b e e'; have := (h.jn.own b e).2; omega
    j2 := h.j2
    j3 := h.j3
    j4 := h.j4 }
/-- An append onto 'got'. -/
theorem BkM.app2 (h : BkM w0 g B wr ob v1 v2 v3 v4 t D1 D2) {v' : Value} {xs : List Pk} {D' : Nat → Prop} (hm : Mod (fun b => v2.ownBlock = some b) wr w') (hv : ∀ b, v'.ownBlock = some b → v2.ownBlock = some b ∨ wr.heap.size ≤ b) (ho : OwnG PkR 6 25 w' B D' v' xs)
    (hd : ∀ b, D' b → b < w'.heap.size ∧ b ≠ g ∧ v1.ownBlock ≠ some b ∧ v'.ownBlock ≠ some b ∧ v3.ownBlock ≠ some b ∧ v4.ownBlock ≠ some b ∧ ob ≠ some b) :
    BkM w0 g B w' ob v1 v' v3 v4 ⟨t.n, t.whole, t.want, xs, t.holes, t.gps, t.s⟩ D1 D' :=
  have l1 := h.o1.own_ge
  have l2 := h.o2.own_ge
  have l3 := h.o3.own_ge
  have l4 := h.o4.own_ge
  have hgB := h.gB
  { gB := h.gB
    old := h.old.trans (hm.below (Nat.le_of_lt h.jn.lt) (fun b hb => by have := (l2 b hb).1; omega))
    base := Nat.le_trans h.base hm.size
    jn := h.jn.keep hm (fun hb => by have := (l2 g hb).1; omega) (fun b e hb => h.j2 b e hb)
    o1 := h.o1.keep PkR.good hm (fun b hb _ e => (h.d1 b hb).2.2.2.1 e) (fun b hb e => h.n12 b hb e)
    o2 := ho
    o3 := h.o3.keep HoR.good hm (fun b hb _ e => hb) (fun b hb e => h.n23 b e hb)
    o4 := h.o4.keep HoR.good hm (fun b hb _ e => hb) (fun b hb e => h.n24 b e hb)
    d1 := fun b hd9 => by
      obtain ⟨a1, a2, a3, a4, a5, a6, a7⟩ := h.d1 b hd9
      exact ⟨Nat.lt_of_lt_of_le a1 hm.size, a2, a3, (fun e => by rcases hv b e with e | e; exact a4 e; omega), a5, a6, a7⟩
    d2 := hd
    n12 := fun b e e' => by rcases hv b e' with e' | e'; exact h.n12 b e e'; have := (l1 b e).2; omega
    n13 := h.n13
    n14 := h.n14
    n23 := fun b e e' => by rcases hv b e with e | e; exact h.n23 b e e'; have := (l3 b e').2; omega
    n24 := fun b e e' => by rcases hv b e with e | e; exact h.n24 b e e'; have := (l4 b e').2; omega
    n34 := h.n34
    j1 := h.j1
    j2 := fun b e e' => by rcases hv b e' with e' | e'; exact h.j2 b e e'; have := (h.jn.own b e).2; omega
    j3 := h.j3
    j4 := h.j4 }
/-- An append onto 'holes'. -/
theorem BkM.app3 (h : BkM w0 g B wr ob v1 v2 v3 v4 t D1 D2) {v' : Value} {xs : List Ho} (hm : Mod (fun b => v3.ownBlock = some b) wr w') (hv : ∀ b, v'.ownBlock = some b → v3.ownBlock = some b ∨ wr.heap.size ≤ b) (ho : OwnG HoR 2 62 w' B (fun _ => False) v' xs) :
    BkM w0 g B w' ob v1 v2 v' v4 ⟨t.n, t.whole, t.want, t.got, xs, t.gps, t.s⟩ D1 D2 :=
  have l1 := h.o1.own_ge
  have l2 := h.o2.own_ge
  have l3 := h.o3.own_ge
  have l4 := h.o4.own_ge
  have hgB := h.gB
  { gB := h.gB
    old := h.old.trans (hm.below (Nat.le_of_lt h.jn.lt) (fun b hb => by have := (l3 b hb).1; omega))
    base := Nat.le_trans h.base hm.size
    jn := h.jn.keep hm (fun hb => by have := (l3 g hb).1; omega) (fun b e hb => h.j3 b e hb)
    o1 := h.o1.keep PkR.good hm (fun b hb _ e => (h.d1 b hb).2.2.2.2.1 e) (fun b hb e => h.n13 b hb e)
    o2 := h.o2.keep PkR.good hm (fun b hb _ e => (h.d2 b hb).2.2.2.2.1 e) (fun b hb e => h.n23 b hb e)
    o3 := ho
    o4 := h.o4.keep HoR.good hm (fun b hb _ e => hb) (fun b hb e => h.n34 b e hb)
    d1 := fun b hd9 => by
      obtain ⟨a1, a2, a3, a4, a5, a6, a7⟩ := h.d1 b hd9
      exact ⟨Nat.lt_of_lt_of_le a1 hm.size, a2, a3, a4, (fun e => by rcases hv b e with e | e; exact a5 e; omega), a6, a7⟩
    d2 := fun b hd9 => by
      obtain ⟨a1, a2, a3, a4, a5, a6, a7⟩ := h.d2 b hd9
      exact ⟨Nat.lt_of_lt_of_le a1 hm.size, a2, a3, a4, (fun e => by rcases hv b e with e | e; exact a5 e; omega), a6, a7⟩
    n12 := h.n12
    n13 := fun b e e' => by rcases hv b e' with e' | e'; exact h.n13 b e e'; have := (l1 b e).2; omega
    n14 := h.n14
    n23 := fun b e e' => by rcases hv b e' with e' | e'; exact h.n23 b e e'; have := (l2 b e).2; omega
    n24 := h.n24
    n34 := fun b e e' => by rcases hv b e with e | e; exact h.n34 b e e'; have := (l4 b e').2; omega
    j1 := h.j1
    j2 := h.j2
    j3 := fun b e e' => by rcases hv b e' with e' | e'; exact h.j3 b e e'; have := (h.jn.own b e).2; omega
    j4 := h.j4 }
/-- An append onto 'gps'. -/
theorem BkM.app4 (h : BkM w0 g B wr ob v1 v2 v3 v4 t D1 D2) {v' : Value} {xs : List Ho} (hm : Mod (fun b => v4.ownBlock = some b) wr w') (hv : ∀ b, v'.ownBlock = some b → v4.ownBlock = some b ∨ wr.heap.size ≤ b) (ho : OwnG HoR 2 62 w' B (fun _ => False) v' xs) :
    BkM w0 g B w' ob v1 v2 v3 v' ⟨t.n, t.whole, t.want, t.got, t.holes, xs, t.s⟩ D1 D2 :=
  have l1 := h.o1.own_ge
  have l2 := h.o2.own_ge
  have l3 := h.o3.own_ge
  have l4 := h.o4.own_ge
  have hgB := h.gB
  { gB := h.gB
    old := h.old.trans (hm.below (Nat.le_of_lt h.jn.lt) (fun b hb => by have := (l4 b hb).1; omega))
    base := Nat.le_trans h.base hm.size
    jn := h.jn.keep hm (fun hb => by have := (l4 g hb).1; omega) (fun b e hb => h.j4 b e hb)
    o1 := h.o1.keep PkR.good hm (fun b hb _ e => (h.d1 b hb).2.2.2.2.2.1 e) (fun b hb e => h.n14 b hb e)
    o2 := h.o2.keep PkR.good hm (fun b hb _ e => (h.d2 b hb).2.2.2.2.2.1 e) (fun b hb e => h.n24 b hb e)
    o3 := h.o3.keep HoR.good hm (fun b hb _ e => hb) (fun b hb e => h.n34 b hb e)
    o4 := ho
    d1 := fun b hd9 => by
      obtain ⟨a1, a2, a3, a4, a5, a6, a7⟩ := h.d1 b hd9
      exact ⟨Nat.lt_of_lt_of_le a1 hm.size, a2, a3, a4, a5, (fun e => by rcases hv b e with e | e; exact a6 e; omega), a7⟩
    d2 := fun b hd9 => by
      obtain ⟨a1, a2, a3, a4, a5, a6, a7⟩ := h.d2 b hd9
      exact ⟨Nat.lt_of_lt_of_le a1 hm.size, a2, a3, a4, a5, (fun e => by rcases hv b e with e | e; exact a6 e; omega), a7⟩
    n12 := h.n12
    n13 := h.n13
    n14 := fun b e e' => by rcases hv b e' with e' | e'; exact h.n14 b e e'; have := (l1 b e).2; omega
    n23 := h.n23
    n24 := fun b e e' => by rcases hv b e' with e' | e'; exact h.n24 b e e'; have := (l2 b e).2; omega
    n34 := fun b e e' => by rcases hv b e' with e' | e'; exact h.n34 b e e'; have := (l3 b e).2; omega
    j1 := h.j1
    j2 := h.j2
    j3 := h.j3
    j4 := fun b e e' => by rcases hv b e' with e' | e'; exact h.j4 b e e'; have := (h.jn.own b e).2; omega }
end

/-- holes as cells -/
def hoCells (l : List Ho) : List Value := l.flatMap Ho.cells
theorem hoCells_len (l : List Ho) : (hoCells l).length = l.length * 2 := by
  induction l with
  | nil => rfl
  | cons x l ih => simp only [hoCells, List.flatMap_cons, List.length_append, List.length_cons] at ih ⊢; rw [ih]; simp [Ho.cells]; omega
theorem hoCells_get (l : List Ho) : ∀ (j : Nat) (h : j < l.length), ((hoCells l).drop (j * 2)).take 2 = l[j].cells := by
  induction l with
  | nil => intro j h; simp at h
  | cons x l ih =>
    intro j h
    cases j with
    | zero => simp [hoCells, Ho.cells]
    | succ j =>
      have e : (hoCells (x :: l)).drop ((j + 1) * 2) = (hoCells l).drop (j * 2) := by
        have : hoCells (x :: l) = x.cells ++ hoCells l := by simp [hoCells]
        rw [this, show (j + 1) * 2 = x.cells.length + j * 2 by simp [Ho.cells]; omega, List.drop_append]
        simp
      rw [e, ih j (by simpa using h)]
      simp
theorem OwnHo.flat {e : TypeId} {w : World} {base : Nat} {D : Nat → Prop} {v : Value} {xs : List Ho} (h : OwnG HoR 2 e w base D v xs) : w.ownsRow base e 2 v xs.length (hoCells xs) ∧ ∀ x ∈ xs, x.wf := by
  obtain ⟨cells, h1, h2, h3⟩ := h
  have e1 : cells = hoCells xs := by
    apply List.ext_getElem?
    intro i
    by_cases hi : i < cells.length
    · have hj : i / 2 < xs.length := by omega
      have a := (h3 (i / 2) hj).1
      have b := hoCells_get xs (i / 2) hj
      have c1 := congrArg (fun l => l[i % 2]?) (a.trans b.symm)
      simp only [List.getElem?_take, List.getElem?_drop] at c1
      have hm : i % 2 < 2 := Nat.mod_lt _ (by omega)
      rw [if_pos hm, if_pos hm, show i / 2 * 2 + i % 2 = i by omega] at c1
      exact c1
    · rw [List.getElem?_eq_none (by omega), List.getElem?_eq_none (by rw [hoCells_len]; omega)]
  refine ⟨e1 ▸ h1, fun x hx => ?_⟩
  obtain ⟨j, hj, rfl⟩ := List.mem_iff_getElem.1 hx
  exact (h3 j hj).2
theorem OwnHo.of {e : TypeId} {w : World} {base : Nat} {D : Nat → Prop} {v : Value} {xs : List Ho} (h : w.ownsRow base e 2 v xs.length (hoCells xs)) (hw : ∀ x ∈ xs, x.wf) : OwnG HoR 2 e w base D v xs :=
  ⟨hoCells xs, h, hoCells_len xs, fun j hj => ⟨hoCells_get xs j hj, hw _ (List.getElem_mem hj)⟩⟩
/-- The last hole's end is written anew. -/
theorem OwnHo.last {e : TypeId} {w : World} {base : Nat} {D : Nat → Prop} {v : Value} {ys : List Ho} {y : Ho} (h : OwnG HoR 2 e w base D v (ys ++ [y])) {n : Int} (hn : i64B n) :
    ∃ g c, v = .slice (some ⟨g, 0, none⟩) (ys.length + 1) c ∧ base ≤ g ∧ g < w.heap.size ∧ ys.length + 1 ≤ c ∧ w.cell? ⟨g, ys.length * 2 + 1, none⟩ = some (.int .i64 y.hi) ∧ w.frozen? ⟨g, ys.length * 2 + 1, none⟩ = false ∧
      OwnG HoR 2 e (w.setCell ⟨g, ys.length * 2 + 1, none⟩ (.int .i64 n)) base D v (ys ++ [⟨y.lo, n⟩]) := by
  obtain ⟨h1, hw⟩ := OwnHo.flat h
  have hl : 0 < (ys ++ [y]).length := by simp
  obtain ⟨g, cap, hv, hgb, hgl⟩ := World.ownsRow.form h1 hl
  rw [List.length_append, List.length_singleton] at hv
  subst hv
  have h2 := h1
  rw [List.length_append, List.length_singleton] at h2
  have hc : ys.length + 1 ≤ cap := by
    rcases h2.2 with ⟨h', _⟩ | ⟨g', cap', cur, h', _, _, hnc, _⟩
    · simp at h'
    · simp only [Value.slice.injEq] at h'
      omega
  have he : hoCells (ys ++ [y]) = hoCells ys ++ y.cells := by simp [hoCells]
  refine ⟨g, cap, rfl, hgb, hgl, hc, ?_, h2.frozenAt _, ?_⟩
  · rw [h2.cellAt _ (by omega), he, List.getElem?_append_right (by rw [hoCells_len]; omega), hoCells_len]
    simp [Ho.cells]
  · have h3 := (World.ownsRow.stored h2 (ys.length * 2 + 1) (.int .i64 n)).1
    have e3 : (hoCells (ys ++ [y])).set (ys.length * 2 + 1) (.int .i64 n) = hoCells (ys ++ [⟨y.lo, n⟩]) := by
      have he2 : hoCells (ys ++ [⟨y.lo, n⟩]) = hoCells ys ++ Ho.cells ⟨y.lo, n⟩ := by simp [hoCells]
      rw [he, he2, List.set_append_right _ _ (by rw [hoCells_len]; omega), hoCells_len]
      simp [Ho.cells]
    rw [e3] at h3
    refine OwnHo.of (by rw [List.length_append, List.length_singleton]; exact h3) (fun x hx => ?_)
    rcases List.mem_append.1 hx with hx | hx
    · exact hw x (List.mem_append_left _ hx)
    · rw [List.mem_singleton] at hx
      subst hx
      exact ⟨(hw y (by simp)).lo, hn⟩
end Go.Proofs.Ytkgenjgomnalpaa
