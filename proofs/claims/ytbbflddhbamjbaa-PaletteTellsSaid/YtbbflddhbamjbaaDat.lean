/- Slices of structs: what may turn, which blocks are read, rows of the call's own whose elements have slices of their own. Nothing of the program is named here. -/
import Derived.Test.YtbbflddhbamjbaaLib
set_option linter.unusedSimpArgs false
set_option linter.unusedVariables false
namespace Go.Proofs.Ytbbflddhbamjbaa
open Go.RowKit

/-- Of the old blocks only those of M may have turned. -/
structure Mod (M : Nat → Prop) (w w' : World) : Prop where
  os : w'.os = w.os
  tape : w'.tape = w.tape
  output : w'.output = w.output
  size : w.heap.size ≤ w'.heap.size
  block : ∀ i, i < w.heap.size → ¬ M i → w'.heap[i]? = w.heap[i]?

namespace Mod
variable {M M' : Nat → Prop} {w w' w'' : World}
theorem refl (M : Nat → Prop) (w : World) : Mod M w w := ⟨rfl, rfl, rfl, Nat.le_refl _, fun _ _ _ => rfl⟩
theorem mono (h : Mod M w w') (hm : ∀ b, M b → b < w.heap.size → M' b) : Mod M' w w' := ⟨h.os, h.tape, h.output, h.size, fun i hi hn => h.block i hi (fun hM => hn (hm i hM hi))⟩
theorem trans (h : Mod M w w') (k : Mod M' w' w'') (hm : ∀ b, M' b → b < w.heap.size → M b) : Mod M w w'' :=
  ⟨k.os.trans h.os, k.tape.trans h.tape, k.output.trans h.output, Nat.le_trans h.size k.size, fun i hi hn => (k.block i (Nat.lt_of_lt_of_le hi h.size) (fun hM => hn (hm i hM hi))).trans (h.block i hi hn)⟩
theorem then_ (h : Mod M w w') (k : Mod M w' w'') : Mod M w w'' := h.trans k (fun _ h _ => h)
theorem of_below {B : Nat} (h : Below B w w') (hm : ∀ b, B ≤ b → b < w.heap.size → M b) : Mod M w w' := ⟨h.os, h.tape, h.output, h.size, fun i _ hn => h.block i (by
  rcases Nat.lt_or_ge i B with h1 | h1
  · exact h1
  · exact absurd (hm i h1 ‹_›) hn)⟩
theorem of_fresh (h : Below w.heap.size w w') : Mod M w w' := of_below h (fun b h1 h2 => absurd h1 (by omega))
theorem of_only {g : Nat} (h : w.grownBy w' (some g)) (hm : g < w.heap.size → M g) : Mod M w w' := ⟨h.os, h.tape, h.output, h.size, fun i hi hn => h.block i hi (fun e => by injection e with e; subst e; exact hn (hm hi))⟩
theorem of_grown {row : Option Nat} (h : w.grownBy w' row) (hm : ∀ g, row = some g → g < w.heap.size → M g) : Mod M w w' := ⟨h.os, h.tape, h.output, h.size, fun i hi hn => h.block i hi (fun e => hn (hm i e.symm hi))⟩
theorem below {B : Nat} (h : Mod M w w') (hB : B ≤ w.heap.size) (hm : ∀ b, M b → B ≤ b) : Below B w w' := ⟨h.os, h.tape, h.output, h.size, fun i hi => h.block i (by omega) (fun hM => by have := hm i hM; omega)⟩
theorem only {g : Nat} (h : Mod (· = g) w w') : w.grownBy w' (some g) := ⟨h.os, h.tape, h.output, h.size, fun i hi hn => h.block i hi (fun e => hn (by rw [e]))⟩
theorem drew (h : Mod M w w') : Mod M w w'.drew := ⟨h.os, h.tape, h.output, h.size, h.block⟩
theorem drewN (h : Mod M w w') (n : Nat) : Mod M w (w'.drewN n) := ⟨h.os, h.tape, h.output, h.size, h.block⟩
theorem alloc (h : Mod M w w') (o : Obj) : Mod M w (w'.alloc o) := h.trans (M' := fun _ => False) ⟨rfl, rfl, rfl, by simp, fun i hi _ => Below.heap_alloc _ _ _ hi⟩ (fun _ h _ => h.elim)
theorem setCell (h : Mod M w w') {p : Addr} (hp : p.block < w.heap.size → M p.block) (u : Value) : Mod M w (w'.setCell p u) :=
  h.trans (M' := (· = p.block)) ⟨rfl, rfl, rfl, by simp [World.setCell], fun i _ hn => Below.heap_setCell _ _ _ _ hn⟩ (fun b e hb => by subst e; exact hp hb)
theorem cell (h : Mod M w w') {a : Addr} {u : Value} (hc : w.cell? a = some u) (hn : ¬ M a.block) : w'.cell? a = some u :=
  (World.cell?_of_block (h.block a.block (World.block_lt_of_cell? w a hc) hn)).trans hc
theorem frozen (h : Mod M w w') {a : Addr} (ha : a.block < w.heap.size) (hn : ¬ M a.block) : w'.frozen? a = w.frozen? a := World.frozen?_of_block (h.block a.block ha hn)
end Mod
theorem Blk.mod {M : Nat → Prop} {w w' : World} {g : Nat} {t : TypeId} {cs : Array Value} (h : Blk w g t cs) (hm : Mod M w w') (hn : ¬ M g) : Blk w' g t cs := (hm.block g h.lt hn).trans h

theorem below_put {B g off : Nat} {a w : World} {u : Value} (h : Below B a w) (hg : B ≤ g) : Below B a (w.setCell ⟨g, off, none⟩ u) := h.setCell hg u
theorem own_put {w : World} {base g off : Nat} {e : TypeId} {k : IntKind} {v u : Value} {l : List Int} (h : OwnI w base e k v l) (hg : g < base) : OwnI (w.setCell ⟨g, off, none⟩ u) base e k v l := h.far hg u
theorem below_undr {a w' : World} (h : Below a.drew.heap.size a.drew w') : Below a.heap.size a w' := ⟨h.os, h.tape, h.output, h.size, h.block⟩
theorem below_undrN {a w' : World} {n : Nat} (h : Below (a.drewN n).heap.size (a.drewN n) w') : Below a.heap.size a w' := ⟨h.os, h.tape, h.output, h.size, h.block⟩
theorem mod_put {M : Nat → Prop} {g off : Nat} {a w : World} {u : Value} (h : Mod M a w) (hg : g < a.heap.size → M g) : Mod M a (w.setCell ⟨g, off, none⟩ u) := h.setCell hg u

/-- The slice value '.slice A n c' reads as the cells xs, 'size' cells an element, in a block of S. -/
def RdC (w : World) (S : Nat → Prop) (size : Nat) (A : Option Addr) (n : Nat) (xs : List Value) : Prop :=
  xs.length = n * size ∧ (0 < n → ∃ ad, A = some ad ∧ S ad.block ∧ ∀ j u, xs[j]? = some u → w.cell? (ad.add j) = some u)
/-- The same, integers. -/
def RdS (w : World) (S : Nat → Prop) (k : IntKind) (A : Option Addr) (l : List Int) : Prop := RdC w S 1 A l.length (ic k l)

section
variable {w w' : World} {M S S' : Nat → Prop} {size n : Nat} {A : Option Addr} {xs : List Value} {k : IntKind} {l : List Int}
theorem RdC.keep (h : RdC w S size A n xs) (hm : Mod M w w') (hs : ∀ b, S b → b < w.heap.size → ¬ M b) : RdC w' S size A n xs :=
  ⟨h.1, fun hn => by
    obtain ⟨ad, e, hb, hc⟩ := h.2 hn
    exact ⟨ad, e, hb, fun j u hu => hm.cell (hc j u hu) (by
      have := World.block_lt_of_cell? w _ (hc j u hu)
      rw [add_block] at this ⊢
      exact hs _ hb this)⟩⟩
theorem RdC.weak (h : RdC w S size A n xs) (hs : ∀ b, S b → b < w.heap.size → S' b) (h0 : 0 < size := by omega) : RdC w S' size A n xs :=
  ⟨h.1, fun hn => by
    obtain ⟨ad, e, hb, hc⟩ := h.2 hn
    have hl : 0 < xs.length := by rw [h.1]; exact Nat.mul_pos hn h0
    have := World.block_lt_of_cell? w _ (hc 0 xs[0] (List.getElem?_eq_getElem hl))
    rw [add_block] at this
    exact ⟨ad, e, hs _ hb this, hc⟩⟩
theorem RdS.keep (h : RdS w S k A l) (hm : Mod M w w') (hs : ∀ b, S b → b < w.heap.size → ¬ M b) : RdS w' S k A l := RdC.keep h hm hs
theorem RdS.weak (h : RdS w S k A l) (hs : ∀ b, S b → b < w.heap.size → S' b) : RdS w S' k A l := RdC.weak h hs
theorem RdC.rd {B : Nat} (h : RdC w S size A n xs) (hs : ∀ b, S b → b < w.heap.size → b < B) (h0 : 0 < size := by omega) : Rd w B size A n xs := RdC.weak (S' := (· < B)) h hs h0
theorem Rd.rdc {B : Nat} (h : Rd w B size A n xs) : RdC w (· < B) size A n xs := h
theorem RdS.rdI {B : Nat} (h : RdS w S k A l) (hs : ∀ b, S b → b < w.heap.size → b < B) : RdI w B k A l := RdC.rd h hs
theorem RdS.top (h : RdS w S k A l) : RdI w w.heap.size k A l := h.rdI (fun _ _ h => h)
theorem RdI.rds {B : Nat} (h : RdI w B k A l) : RdS w (· < B) k A l := h
theorem RdS.nil_ : RdS w S k A [] := ⟨rfl, fun h => absurd h (by simp)⟩
theorem OwnI.rds {base : Nat} {e : TypeId} {c m : Nat} (h : OwnI w base e k (.slice A m c) l) : m = l.length ∧ l.length ≤ c ∧ RdS w (fun b => base ≤ b ∧ b < w.heap.size ∧ (Value.slice A m c).ownBlock = some b) k A l := by
  have h' := h
  obtain ⟨A', c', hv, hc, hr, hA⟩ := h.form
  simp only [Value.slice.injEq] at hv
  obtain ⟨rfl, rfl, rfl⟩ := hv
  refine ⟨rfl, hc, hr.1, fun hn => ?_⟩
  obtain ⟨ad, rfl, hb, hcell⟩ := Rd.addr hr hn
  exact ⟨ad, rfl, ⟨(hA ad rfl).1, hb, rfl⟩, hcell⟩
end

/-- What cells tell of an element; 'S': the blocks that it reads. -/
abbrev Rel (α : Type) := World → (Nat → Prop) → List Value → α → Prop
structure Rel.Good {α : Type} (R : Rel α) (size : Nat) : Prop where
  pos : 0 < size
  len : ∀ {w S cs x}, R w S cs x → cs.length = size
  one : ∀ {w S cs x}, R w S cs x → ∀ u ∈ cs, u.oneCell' = true
  keep : ∀ {w w' : World} {M S : Nat → Prop} {cs x}, R w S cs x → Mod M w w' → (∀ b, S b → b < w.heap.size → ¬ M b) → R w' S cs x
  weak : ∀ {w : World} {S S' : Nat → Prop} {cs x}, R w S cs x → (∀ b, S b → b < w.heap.size → S' b) → R w S' cs x

/-- A slice of such elements. -/
def RdG {α : Type} (R : Rel α) (size : Nat) (w : World) (S : Nat → Prop) (A : Option Addr) (xs : List α) : Prop :=
  ∀ j (h : j < xs.length), ∃ ad cs, A = some ad ∧ S ad.block ∧ R w S cs xs[j] ∧ ∀ i u, cs[i]? = some u → w.cell? (ad.add (j * size + i)) = some u

section
variable {α : Type} {R : Rel α} {size : Nat} {w w' : World} {M S S' : Nat → Prop} {A : Option Addr} {xs : List α}
theorem RdG.nil_ : RdG R size w S A [] := fun j h => absurd h (by simp)
theorem RdG.keep (g : R.Good size) (h : RdG R size w S A xs) (hm : Mod M w w') (hs : ∀ b, S b → b < w.heap.size → ¬ M b) : RdG R size w' S A xs := fun j hj => by
  obtain ⟨ad, cs, e, hb, hR, hc⟩ := h j hj
  exact ⟨ad, cs, e, hb, g.keep hR hm hs, fun i u hu => hm.cell (hc i u hu) (by
    have := World.block_lt_of_cell? w _ (hc i u hu)
    rw [add_block] at this ⊢
    exact hs _ hb this)⟩
theorem RdG.weak (g : R.Good size) (h : RdG R size w S A xs) (hs : ∀ b, S b → b < w.heap.size → S' b) : RdG R size w S' A xs := fun j hj => by
  obtain ⟨ad, cs, e, hb, hR, hc⟩ := h j hj
  have hl : 0 < cs.length := by rw [g.len hR]; exact g.pos
  have := World.block_lt_of_cell? w _ (hc 0 cs[0] (List.getElem?_eq_getElem hl))
  rw [add_block] at this
  exact ⟨ad, cs, e, hs _ hb this, g.weak hR hs, hc⟩
theorem RdG.below (g : R.Good size) (h : RdG R size w S A xs) (hb : Below w.heap.size w w') : RdG R size w' S A xs := h.keep g (M := fun _ => False) (Mod.of_below hb fun b h1 h2 => absurd h1 (by omega)) (fun _ _ _ h => h)
theorem RdG.take (h : RdG R size w S A xs) (n : Nat) : RdG R size w S A (xs.take n) := fun j hj => by
  have hj' : j < xs.length := by rw [List.length_take] at hj; omega
  obtain ⟨ad, cs, e, hb, hR, hc⟩ := h j hj'
  exact ⟨ad, cs, e, hb, by rw [List.getElem_take]; exact hR, hc⟩
theorem RdG.cut (h : RdG R size w S A xs) {k c : Nat} (hk : k ≤ xs.length) (hc : xs.length ≤ c) : RdG R size w S (if c = k then A else A.map (·.add (k * size))) (xs.drop k) := fun j hj => by
  rw [List.length_drop] at hj
  obtain ⟨ad, cs, e, hb, hR, hcell⟩ := h (k + j) (by omega)
  subst e
  refine ⟨ad.add (k * size), cs, by rw [if_neg (by omega)]; rfl, by rw [add_block]; exact hb, by rw [List.getElem_drop]; exact hR, fun i u hu => ?_⟩
  rw [add_add']
  have := hcell i u hu
  rwa [Nat.add_mul, Nat.add_assoc] at this
/-- 's[lo:hi]' and kin: the run equation, and what it reads as. -/
theorem RdG.slice_lh {P : Program} {t e : TypeId} {z : Option Value} {b : Nat} (ht : P.underlying t = some (.slice e)) (hi : (P.info? e).map (fun i => (i.zero, i.size, i.bytes)) = some (z, size, b))
    (h : RdG R size w S A xs) {lo hh c : Nat} (h1 : lo ≤ hh) (h2 : hh ≤ xs.length) (hc : xs.length ≤ c) :
    ∃ A', (∀ w' : World, (Instr.slice t (.slice A xs.length c) (some (.int .i64 (lo : Int))) (some (.int .i64 (hh : Int))) none).run P w' = .ok (.slice A' (hh - lo) (c - lo)) w') ∧
      RdG R size w S A' ((xs.drop lo).take (hh - lo)) := by
  obtain ⟨he, ht'⟩ := elem_of ht
  refine ⟨if c = lo then A else A.map (·.add (lo * size)), fun w' => ?_, (RdG.cut h (k := lo) (c := c) (by omega) hc).take (hh - lo)⟩
  rw [run_slice_lh w' t A xs.length c ht' .i64 .i64 lo hh (by omega) (by omega) (by omega), he, sizeOf_run hi]
  simp [sliced]
theorem RdG.slice_l {P : Program} {t e : TypeId} {z : Option Value} {b : Nat} (ht : P.underlying t = some (.slice e)) (hi : (P.info? e).map (fun i => (i.zero, i.size, i.bytes)) = some (z, size, b))
    (h : RdG R size w S A xs) {lo c : Nat} (h1 : lo ≤ xs.length) (hc : xs.length ≤ c) :
    ∃ A', (∀ w' : World, (Instr.slice t (.slice A xs.length c) (some (.int .i64 (lo : Int))) none none).run P w' = .ok (.slice A' (xs.length - lo) (c - lo)) w') ∧
      RdG R size w S A' (xs.drop lo) := by
  obtain ⟨he, ht'⟩ := elem_of ht
  refine ⟨if c = lo then A else A.map (·.add (lo * size)), fun w' => ?_, RdG.cut h (k := lo) (c := c) (by omega) hc⟩
  rw [run_slice_l w' t A xs.length c ht' .i64 lo (by omega) (by omega), he, sizeOf_run hi]
  simp [sliced]
theorem RdG.slice_h {P : Program} {t e : TypeId} {z : Option Value} {b : Nat} (ht : P.underlying t = some (.slice e)) (hi : (P.info? e).map (fun i => (i.zero, i.size, i.bytes)) = some (z, size, b))
    (h : RdG R size w S A xs) {hh c : Nat} (h2 : hh ≤ xs.length) (hc : xs.length ≤ c) :
    ∃ A', (∀ w' : World, (Instr.slice t (.slice A xs.length c) none (some (.int .i64 (hh : Int))) none).run P w' = .ok (.slice A' hh c) w') ∧
      RdG R size w S A' (xs.take hh) := by
  obtain ⟨he, ht'⟩ := elem_of ht
  have hcut := RdG.cut h (k := 0) (c := c) (by omega) hc
  simp only [List.drop_zero] at hcut
  refine ⟨if c = 0 then A else A.map (·.add (0 * size)), fun w' => ?_, hcut.take hh⟩
  rw [run_slice_h w' t A xs.length c ht' .i64 hh (by omega) (by omega), he, sizeOf_run hi]
  simp [sliced]
end

/-- All cells of a slice, element by element. -/
def Cells {α : Type} (R : Rel α) (size : Nat) (w : World) (S : Nat → Prop) (cells : List Value) (xs : List α) : Prop :=
  cells.length = xs.length * size ∧ ∀ j (h : j < xs.length), R w S ((cells.drop (j * size)).take size) xs[j]
theorem Cells.append {α : Type} {R : Rel α} {size : Nat} {w : World} {S : Nat → Prop} {cells cells' : List Value} {xs ys : List α} (h : Cells R size w S cells xs) (k : Cells R size w S cells' ys) : Cells R size w S (cells ++ cells') (xs ++ ys) := by
  refine ⟨by rw [List.length_append, List.length_append, h.1, k.1, Nat.add_mul], fun j hj => ?_⟩
  by_cases hjx : j < xs.length
  · rw [List.getElem_append_left hjx]
    have h1 : j * size + size ≤ cells.length := by rw [h.1, ← Nat.succ_mul]; exact Nat.mul_le_mul_right _ hjx
    rw [List.drop_append_of_le_length (by omega), List.take_append_of_le_length (by rw [List.length_drop]; omega)]
    exact h.2 j hjx
  · rw [List.length_append] at hj
    rw [List.getElem_append_right (by omega)]
    have h1 : j * size = cells.length + (j - xs.length) * size := by rw [h.1, ← Nat.add_mul]; congr 1; omega
    rw [h1, List.drop_append]
    simp only [List.drop_eq_nil_of_le (Nat.le_add_right cells.length ((j - xs.length) * size)), List.nil_append, Nat.add_sub_cancel_left]
    exact k.2 (j - xs.length) (by omega)
theorem Cells.nil_ {α : Type} {R : Rel α} {size : Nat} {w : World} {S : Nat → Prop} : Cells R size w S [] [] := ⟨by simp, fun j h => absurd h (by simp)⟩
theorem Cells.one {α : Type} {R : Rel α} {size : Nat} (g : R.Good size) {w : World} {S : Nat → Prop} {cs : List Value} {x : α} (h : R w S cs x) : Cells R size w S cs [x] := by
  have hl := g.len h
  refine ⟨by simpa using hl, fun j hj => ?_⟩
  have : j = 0 := by simpa using hj
  subst this
  simp only [Nat.zero_mul, List.drop_zero, List.getElem_cons_zero]
  rw [List.take_of_length_le (by omega)]
  exact h
theorem Cells.keep {α : Type} {R : Rel α} {size : Nat} (g : R.Good size) {w w' : World} {M S : Nat → Prop} {cells : List Value} {xs : List α} (h : Cells R size w S cells xs) (hm : Mod M w w') (hs : ∀ b, S b → b < w.heap.size → ¬ M b) : Cells R size w' S cells xs :=
  ⟨h.1, fun j hj => g.keep (h.2 j hj) hm hs⟩
theorem Cells.weak {α : Type} {R : Rel α} {size : Nat} (g : R.Good size) {w : World} {S S' : Nat → Prop} {cells : List Value} {xs : List α} (h : Cells R size w S cells xs) (hs : ∀ b, S b → b < w.heap.size → S' b) : Cells R size w S' cells xs :=
  ⟨h.1, fun j hj => g.weak (h.2 j hj) hs⟩
theorem Cells.oneCell {α : Type} {R : Rel α} {size : Nat} (g : R.Good size) {w : World} {S : Nat → Prop} {cells : List Value} {xs : List α} (h : Cells R size w S cells xs) : ∀ u ∈ cells, u.oneCell' = true := fun u hu => by
  obtain ⟨i, hi, rfl⟩ := List.mem_iff_getElem.1 hu
  have hp := g.pos
  have hj : i / size < xs.length := Nat.div_lt_of_lt_mul (by rw [Nat.mul_comm]; rw [← h.1]; exact hi)
  refine g.one (h.2 _ hj) _ (List.mem_iff_getElem.2 ⟨i % size, ?_, ?_⟩)
  · have h1 := Nat.mod_lt i hp
    rw [g.len (h.2 _ hj)]
    exact h1
  · rw [List.getElem_take, List.getElem_drop]
    congr 1
    rw [Nat.mul_comm]
    exact Nat.div_add_mod i size
/-- What a slice that reads as elements has for cells. -/
theorem RdG.cells_n {α : Type} {R : Rel α} {size : Nat} (g : R.Good size) {w : World} {S : Nat → Prop} {A : Option Addr} {xs : List α} (h : RdG R size w S A xs) : ∀ n, n ≤ xs.length → ∃ cells, Cells R size w S cells (xs.take n) ∧ RdC w S size A n cells
  | 0, _ => ⟨[], by simpa using Cells.nil_, by simp, fun h => absurd h (by simp)⟩
  | n + 1, hn => by
    obtain ⟨cells, h1, h2⟩ := RdG.cells_n g h n (by omega)
    obtain ⟨ad, cs, e, hb, hR, hc⟩ := h n (by omega)
    have hl : cells.length = n * size := h2.1
    refine ⟨cells ++ cs, ?_, by rw [List.length_append, hl, g.len hR, Nat.add_mul, Nat.one_mul], fun _ => ⟨ad, e, hb, fun j u hu => ?_⟩⟩
    · rw [List.take_succ_eq_append_getElem (by omega)]
      exact h1.append (Cells.one g hR)
    · by_cases hj : j < cells.length
      · rw [List.getElem?_append_left hj] at hu
        have hpos : 0 < n := by
          rcases Nat.eq_zero_or_pos n with h0 | h0
          · rw [hl, h0] at hj; omega
          · exact h0
        obtain ⟨ad', e', _, hc'⟩ := h2.2 hpos
        rw [e] at e'
        injection e' with e'
        subst e'
        exact hc' j u hu
      · rw [List.getElem?_append_right (by omega)] at hu
        have := hc _ u hu
        rw [← hl] at this
        rwa [show cells.length + (j - cells.length) = j by omega] at this
theorem RdG.cells {α : Type} {R : Rel α} {size : Nat} (g : R.Good size) {w : World} {S : Nat → Prop} {A : Option Addr} {xs : List α} (h : RdG R size w S A xs) : ∃ cells, Cells R size w S cells xs ∧ RdC w S size A xs.length cells := by
  obtain ⟨cells, h1, h2⟩ := RdG.cells_n g h xs.length (Nat.le_refl _)
  rw [List.take_length] at h1
  exact ⟨cells, h1, h2⟩

/-- The call's own slice of such elements; D: the blocks that the elements read. -/
def OwnG {α : Type} (R : Rel α) (size : Nat) (e : TypeId) (w : World) (base : Nat) (D : Nat → Prop) (v : Value) (xs : List α) : Prop :=
  ∃ cells, w.ownsRow base e size v xs.length cells ∧ Cells R size w (fun b => D b ∧ v.ownBlock ≠ some b) cells xs

section
variable {α : Type} {R : Rel α} {size : Nat} {e : TypeId} {w w' : World} {base : Nat} {M D D' : Nat → Prop} {v : Value} {xs : List α}
theorem OwnG.nil_ (R : Rel α) (size : Nat) (e : TypeId) (w : World) (base : Nat) (D : Nat → Prop) : OwnG R size e w base D (.slice none 0 0) [] := ⟨[], World.ownsRow_nil w base e size, Cells.nil_⟩
theorem OwnG.weak (g : R.Good size) (h : OwnG R size e w base D v xs) (hs : ∀ b, D b → b < w.heap.size → D' b) : OwnG R size e w base D' v xs := by
  obtain ⟨cells, h1, h2⟩ := h
  exact ⟨cells, h1, h2.weak g fun b hb hl => ⟨hs b hb.1 hl, hb.2⟩⟩
theorem OwnG.base_ {base' : Nat} (h : OwnG R size e w base D v xs) (hb : base' ≤ base) : OwnG R size e w base' D v xs := by
  obtain ⟨cells, ⟨h1, h2⟩, h3⟩ := h
  refine ⟨cells, ⟨h1, ?_⟩, h3⟩
  rcases h2 with h2 | ⟨g, cap, cur, hv, hg, r⟩
  · exact .inl h2
  · exact .inr ⟨g, cap, cur, hv, by omega, r⟩
theorem OwnG.keep (g : R.Good size) (h : OwnG R size e w base D v xs) (hm : Mod M w w') (hd : ∀ b, D b → b < w.heap.size → ¬ M b) (hv : ∀ b, v.ownBlock = some b → ¬ M b) : OwnG R size e w' base D v xs := by
  obtain ⟨cells, ⟨h1, h2⟩, h3⟩ := h
  refine ⟨cells, ⟨h1, ?_⟩, h3.keep g hm fun b hb hl => hd b hb.1 hl⟩
  rcases h2 with h2 | ⟨gg, cap, cur, hv', hg, hh, r⟩
  · exact .inl h2
  · subst hv'
    exact .inr ⟨gg, cap, cur, rfl, hg, (hm.block gg (Array.getElem?_eq_some_iff.1 hh).1 (hv gg rfl)).trans hh, r⟩
theorem OwnG.form (g : R.Good size) (h : OwnG R size e w base D v xs) : ∃ A c, v = .slice A xs.length c ∧ xs.length ≤ c ∧ RdG R size w (fun b => (D b ∧ v.ownBlock ≠ some b) ∨ v.ownBlock = some b) A xs ∧ (∀ b, v.ownBlock = some b → base ≤ b ∧ b < w.heap.size) := by
  obtain ⟨cells, ho, h2⟩ := h
  have hlt := World.ownsRow.lt ho
  have ho' := ho
  rcases ho.2 with ⟨rfl, h0⟩ | ⟨gg, cap, cur, rfl, hb, hg, hn, _⟩
  · have : xs = [] := List.eq_nil_of_length_eq_zero h0
    subst this
    exact ⟨none, 0, rfl, Nat.le_refl _, RdG.nil_, hlt⟩
  · refine ⟨some ⟨gg, 0, none⟩, cap, rfl, hn, fun j hj => ⟨_, _, rfl, .inr rfl, g.weak (h2.2 j hj) (fun b hb _ => .inl hb), fun i u hu => ?_⟩, hlt⟩
    refine World.ownsRow.cells ho' (g := gg) rfl _ u ?_
    rw [List.getElem?_take] at hu
    split at hu
    · rwa [List.getElem?_drop] at hu
    · cases hu
theorem OwnG.reads (g : R.Good size) (h : OwnG R size e w base D v xs) {S : Nat → Prop} (hs : ∀ b, (D b ∨ v.ownBlock = some b) → b < w.heap.size → S b) : ∃ A c, v = .slice A xs.length c ∧ xs.length ≤ c ∧ RdG R size w S A xs := by
  obtain ⟨A, c, hv, hc, hr, _⟩ := h.form g
  exact ⟨A, c, hv, hc, hr.weak g fun b hb hl => hs b (hb.imp And.left id) hl⟩
theorem OwnG.own_ge (h : OwnG R size e w base D v xs) : ∀ b, v.ownBlock = some b → base ≤ b ∧ b < w.heap.size := by
  obtain ⟨cells, ho, _⟩ := h
  exact World.ownsRow.lt ho

theorem infoG {P : Program} {e : TypeId} {z : Value} {n b : Nat} (h : (P.info? e).map (fun i => (i.zero, i.size, i.bytes)) = some (some z, n, b)) : ∃ i, P.info? e = some i ∧ i.zero = some z ∧ i.size = n ∧ i.bytes = b := by
  cases h' : P.info? e with
  | none => rw [h'] at h; simp at h
  | some i =>
    rw [h'] at h
    simp only [Option.map_some, Option.some.injEq, Prod.mk.injEq] at h
    exact ⟨i, rfl, h.1, h.2.1, h.2.2⟩

/-- append of other elements, from whatever slice. -/
theorem run_append_G {P : Program} (g : R.Good size) (w : World) (t ty : TypeId) (z : Value) (bytes : Nat) (ht : P.underlying t = some (.slice e))
    (hi : (P.info? e).map (fun i => (i.zero, i.size, i.bytes)) = some (some z, size, bytes)) (hz : z.cells.size = size) (hby : bytes ≤ 1024)
    (h : OwnG R size e w base D v xs) (S : Nat → Prop) (A : Option Addr) (c m : Nat) (ys : List α) (hm : m = ys.length) (hr : RdG R size w S A ys) (hS : ∀ b, S b → b < w.heap.size → D b)
    (hDv : ∀ b, v.ownBlock = some b → ¬ S b) (hD : ∀ b, D b → b < w.heap.size) (hlen : xs.length + ys.length ≤ 4000000000) (hbase : base ≤ w.heap.size) :
    ∃ v' w', (Builtin.append_ #[t, t] ty #[v, .slice A m c]).run P w = .ok v' w' ∧ OwnG R size e w' base D v' (xs ++ ys) ∧ w.grownBy w' v.ownBlock ∧ (v'.ownBlock = v.ownBlock ∨ v'.ownBlock = some w.heap.size) := by
  subst hm
  obtain ⟨i0, hi0, hz0, hz1, hz2⟩ := infoG hi
  obtain ⟨cells, ho, hcs⟩ := h
  obtain ⟨news, hn, hrc⟩ := hr.cells g
  have hB : Rd w w.heap.size size A ys.length news := RdC.rd hrc (fun _ _ h => h) g.pos
  obtain ⟨v', w', hrun, h2, h3, h4⟩ := run_append_rd (P := P) w base t ty e i0 z size bytes ht hi0 hz0 hz1 hz2 hz g.pos v xs.length cells ho w.heap.size A ys.length c news hB (hn.oneCell g) (by simp only [maxLen]; omega) (by
      calc (xs.length + ys.length) * bytes ≤ 4000000000 * 1024 := Nat.mul_le_mul hlen hby
        _ ≤ 140737488355328 := by omega) hbase
  have hM : Mod (fun b => v.ownBlock = some b) w w' := Mod.of_grown h3 fun g' e _ => e
  refine ⟨v', w', hrun, ⟨cells ++ news, by rw [List.length_append]; exact h2, ?_⟩, h3, h4⟩
  have hw : ∀ b, D b → v.ownBlock ≠ some b → v'.ownBlock ≠ some b := fun b hb hne => by
    rcases h4 with h4 | h4
    · rw [h4]; exact hne
    · rw [h4]; intro e; injection e with e; have := hD b hb; omega
  refine Cells.append ?_ ?_
  · exact Cells.weak g (Cells.keep g (Cells.weak (S' := fun b => D b ∧ v.ownBlock ≠ some b ∧ v'.ownBlock ≠ some b) g hcs fun b hb _ => ⟨hb.1, hb.2, hw b hb.1 hb.2⟩) hM fun b hb _ => hb.2.1) fun b hb _ => ⟨hb.1, hb.2.2⟩
  · exact Cells.weak g (Cells.keep g (Cells.weak (S' := fun b => D b ∧ v.ownBlock ≠ some b ∧ v'.ownBlock ≠ some b) g hn fun b hb hl => ⟨hS b hb hl, fun e => hDv b e hb, hw b (hS b hb hl) (fun e => hDv b e hb)⟩) hM fun b hb _ => hb.2.1) fun b hb _ => ⟨hb.1, hb.2.2⟩

/-- The same as an operation behind others. -/
theorem wpList_append_G {P : Program} {ops : Array Oper} {rest : List Oper} {o : Oper} {a : Act} {Q : Exit → Act → World → Prop} (hgd : o.guard = none) (s x : Operand) (t : TypeId)
    (ho : o.op = .call { callee := .builtin .append, args := #[s, x], argTypes := #[t, t] })
    (g : R.Good size) (w : World) (z : Value) (bytes : Nat) (ht : P.underlying t = some (.slice e))
    (hi : (P.info? e).map (fun i => (i.zero, i.size, i.bytes)) = some (some z, size, bytes)) (hz : z.cells.size = size) (hby : bytes ≤ 1024)
    (hs : a.eval s = v) (h : OwnG R size e w base D v xs) (S : Nat → Prop) (A : Option Addr) (c m : Nat) (ys : List α) (hx : a.eval x = .slice A m c) (hm : m = ys.length) (hr : RdG R size w S A ys) (hS : ∀ b, S b → b < w.heap.size → D b)
    (hDv : ∀ b, v.ownBlock = some b → ¬ S b) (hD : ∀ b, D b → b < w.heap.size) (hlen : xs.length + ys.length ≤ 4000000000) (hbase : base ≤ w.heap.size)
    (hk : ∀ v' w', OwnG R size e w' base D v' (xs ++ ys) → w.grownBy w' v.ownBlock → (v'.ownBlock = v.ownBlock ∨ v'.ownBlock = some w.heap.size) → wpList P ops Q rest (a.put o.dst v') w') : wpList P ops Q (o :: rest) a w := by
  obtain ⟨v', w', hrun, h2, h3, h4⟩ := run_append_G (P := P) g w t o.type z bytes ht hi hz hby h S A c m ys hm hr hS hDv hD hlen hbase
  refine wpList_plain hgd fun _ hK => ?_
  unfold Oper.wp execOp
  simp only [ho, resolve, invoke, builtin, Sem.run_bind, Sem.run_pure, Result.andThen_ok, List.map_toArray, List.map_cons, List.map_nil, hs, hx, hrun]
  exact hK _ _ (hk v' w' h2 h3 h4)

theorem RdG.one_ (g : R.Good size) (w : World) {S : Nat → Prop} {cs : List Value} {x : α} (h : R w S cs x) (e : TypeId) : RdG R size (w.alloc (.cells cs.toArray e)) (fun b => (S b ∧ b < w.heap.size) ∨ b = w.heap.size) (some ⟨w.heap.size, 0, none⟩) [x] := fun j hj => by
  have : j = 0 := by simpa using hj
  subst this
  refine ⟨_, cs, rfl, .inr rfl, g.keep (g.weak (S' := fun b => (S b ∧ b < w.heap.size) ∨ b = w.heap.size) h fun b hb hl => .inl ⟨hb, hl⟩) (M := fun _ => False) ((Mod.refl _ _).alloc _) (fun _ _ _ h => h), fun i u hu => ?_⟩
  rw [add_mk, cell_of_row _ w.heap.size (0 + (0 * size + i)) cs.toArray e (0, 0) (heap_alloc_new w _)]
  simpa using hu

/-- append(out, x) of one element that lies in a new block. -/
theorem wpList_push_G {P : Program} {ops : Array Oper} {rest : List Oper} {o : Oper} {a : Act} {Q : Exit → Act → World → Prop} (hgd : o.guard = none) (s x : Operand) (t : TypeId)
    (ho : o.op = .call { callee := .builtin .append, args := #[s, x], argTypes := #[t, t] })
    (g : R.Good size) (w : World) (z : Value) (bytes : Nat) (ht : P.underlying t = some (.slice e))
    (hi : (P.info? e).map (fun i => (i.zero, i.size, i.bytes)) = some (some z, size, bytes)) (hz : z.cells.size = size) (hby : bytes ≤ 1024)
    (hs : a.eval s = v) (h : OwnG R size e w base D v xs) (S : Nat → Prop) (gs c : Nat) (cs : List Value) (y : α) (hx : a.eval x = .slice (some ⟨gs, 0, none⟩) 1 c) (hgs : gs = w.heap.size) (hr : R w S cs y) (D' : Nat → Prop) (hDD : ∀ b, D b → b < w.heap.size → D' b) (hS : ∀ b, S b → b < w.heap.size → D' b)
    (hDv : ∀ b, v.ownBlock = some b → ¬ S b) (hD : ∀ b, D' b → b ≤ w.heap.size) (hD2 : D' w.heap.size) (hlen : xs.length ≤ 3999999999) (hbase : base ≤ w.heap.size)
    (hk : ∀ v' w', OwnG R size e w' base D' v' (xs ++ [y]) → (w.alloc (.cells cs.toArray e)).grownBy w' v.ownBlock → (v'.ownBlock = v.ownBlock ∨ v'.ownBlock = some (w.heap.size + 1)) → wpList P ops Q rest (a.put o.dst v') w') : wpList P ops Q (o :: rest) a (w.alloc (.cells cs.toArray e)) := by
  subst hgs
  have hlt := h.own_ge
  have h' : OwnG R size e (w.alloc (.cells cs.toArray e)) base D' v xs := (h.weak g hDD).keep g (M := fun _ => False) ((Mod.refl _ _).alloc _) (fun _ _ _ h => h) (fun _ _ h => h)
  refine wpList_append_G hgd s x t ho g _ z bytes ht hi hz hby hs h' _ _ _ 1 [y] hx rfl (RdG.one_ g w hr e) ?_ ?_ ?_ (by simp; omega) (by simp; omega) (fun v' w' h1 h2 h3 => hk v' w' h1 h2 (by simpa using h3))
  · rintro b (⟨hb, hl⟩ | rfl) _
    · exact hS b hb hl
    · exact hD2
  · rintro b hb (⟨hb', _⟩ | rfl)
    · exact hDv b hb hb'
    · have := (hlt _ hb).2; omega
  · intro b hb
    have := hD b hb
    simp
    omega
/-- The same two as steps of a region that draws. -/
theorem step_append_G {P : Program} {ops : Array Oper} {o : Oper} {a : Act} {K : Act → World → Prop} {E : Prop} {Q : Exit → Act → World → Prop} (hgd : o.guard = none) (s x : Operand) (t : TypeId)
    (ho : o.op = .call { callee := .builtin .append, args := #[s, x], argTypes := #[t, t] })
    (g : R.Good size) (w : World) (z : Value) (bytes : Nat) (ht : P.underlying t = some (.slice e))
    (hi : (P.info? e).map (fun i => (i.zero, i.size, i.bytes)) = some (some z, size, bytes)) (hz : z.cells.size = size) (hby : bytes ≤ 1024)
    (hs : a.eval s = v) (h : OwnG R size e w base D v xs) (S : Nat → Prop) (A : Option Addr) (c m : Nat) (ys : List α) (hx : a.eval x = .slice A m c) (hm : m = ys.length) (hr : RdG R size w S A ys) (hS : ∀ b, S b → b < w.heap.size → D b)
    (hDv : ∀ b, v.ownBlock = some b → ¬ S b) (hD : ∀ b, D b → b < w.heap.size) (hlen : xs.length + ys.length ≤ 4000000000) (hbase : base ≤ w.heap.size)
    (hk : ∀ v' w', OwnG R size e w' base D v' (xs ++ ys) → w.grownBy w' v.ownBlock → (v'.ownBlock = v.ownBlock ∨ v'.ownBlock = some w.heap.size) → K (a.put o.dst v') w') : if Region.wanted o (yielded ops a.tmps) = true then Oper.wp P o a w K Q else E := by
  obtain ⟨v', w', hrun, h2, h3, h4⟩ := run_append_G (P := P) g w t o.type z bytes ht hi hz hby h S A c m ys hm hr hS hDv hD hlen hbase
  have hwn : Region.wanted o (yielded ops a.tmps) = true := by simp [Region.wanted, hgd]
  rw [if_pos hwn]
  unfold Oper.wp execOp
  simp only [ho, resolve, invoke, builtin, Sem.run_bind, Sem.run_pure, Result.andThen_ok, List.map_toArray, List.map_cons, List.map_nil, hs, hx, hrun]
  exact hk v' w' h2 h3 h4
theorem step_push_G {P : Program} {ops : Array Oper} {o : Oper} {a : Act} {K : Act → World → Prop} {E : Prop} {Q : Exit → Act → World → Prop} (hgd : o.guard = none) (s x : Operand) (t : TypeId)
    (ho : o.op = .call { callee := .builtin .append, args := #[s, x], argTypes := #[t, t] })
    (g : R.Good size) (w : World) (z : Value) (bytes : Nat) (ht : P.underlying t = some (.slice e))
    (hi : (P.info? e).map (fun i => (i.zero, i.size, i.bytes)) = some (some z, size, bytes)) (hz : z.cells.size = size) (hby : bytes ≤ 1024)
    (hs : a.eval s = v) (h : OwnG R size e w base D v xs) (S : Nat → Prop) (gs c : Nat) (cs : List Value) (y : α) (hx : a.eval x = .slice (some ⟨gs, 0, none⟩) 1 c) (hgs : gs = w.heap.size) (hr : R w S cs y) (D' : Nat → Prop) (hDD : ∀ b, D b → b < w.heap.size → D' b) (hS : ∀ b, S b → b < w.heap.size → D' b)
    (hDv : ∀ b, v.ownBlock = some b → ¬ S b) (hD : ∀ b, D' b → b ≤ w.heap.size) (hD2 : D' w.heap.size) (hlen : xs.length ≤ 3999999999) (hbase : base ≤ w.heap.size)
    (hk : ∀ v' w', OwnG R size e w' base D' v' (xs ++ [y]) → (w.alloc (.cells cs.toArray e)).grownBy w' v.ownBlock → (v'.ownBlock = v.ownBlock ∨ v'.ownBlock = some (w.heap.size + 1)) → K (a.put o.dst v') w') : if Region.wanted o (yielded ops a.tmps) = true then Oper.wp P o a (w.alloc (.cells cs.toArray e)) K Q else E := by
  subst hgs
  have hlt := h.own_ge
  have h' : OwnG R size e (w.alloc (.cells cs.toArray e)) base D' v xs := (h.weak g hDD).keep g (M := fun _ => False) ((Mod.refl _ _).alloc _) (fun _ _ _ h => h) (fun _ _ h => h)
  refine step_append_G hgd s x t ho g _ z bytes ht hi hz hby hs h' _ _ _ 1 [y] hx rfl (RdG.one_ g w hr e) ?_ ?_ ?_ (by simp; omega) (by simp; omega) (fun v' w' h1 h2 h3 => hk v' w' h1 h2 (by simpa using h3))
  · rintro b (⟨hb, hl⟩ | rfl) _
    · exact hS b hb hl
    · exact hD2
  · rintro b hb (⟨hb', _⟩ | rfl)
    · exact hDv b hb hb'
    · have := (hlt _ hb).2; omega
  · intro b hb
    have := hD b hb
    simp
    omega
end
end Go.Proofs.Ytbbflddhbamjbaa
