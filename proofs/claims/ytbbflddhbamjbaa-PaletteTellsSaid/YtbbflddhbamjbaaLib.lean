/- Words for memory used by all walks of this seat: slices that read as lists, blocks that are known whole, appends onto a row of the call's own. Nothing of the program is named here. -/
import Derived.WalkKit
import Derived.Deep.AppendLies
import Derived.Deep.Draws
import Derived.Maps.AppendAt
import Derived.Lib.Hide
import Derived.WideShapes
import Derived.StillTailTactics
set_option linter.unusedSimpArgs false
set_option linter.unusedVariables false
namespace Go.Proofs.Ytbbflddhbamjbaa
open Go.RowKit

theorem ret_int {k : IntKind} {a b : Int} (h : a = b) : Ending.returned (.int k a) = .returned (.int k b) := by rw [h]

theorem ret_true {b : Bool} (h : b = true) : Ending.returned (.bool b) = .returned (.bool true) := by rw [h]

theorem add_block (a : Addr) (n : Nat) : (a.add n).block = a.block := by unfold Addr.add; split <;> rfl
theorem add_add' (a : Addr) (i j : Nat) : (a.add i).add j = a.add (i + j) := by
  unfold Addr.add
  by_cases hi : i = 0 <;> by_cases hj : j = 0 <;> simp [hi, hj, Nat.add_assoc]
theorem add_mk (g o j : Nat) : (⟨g, o, none⟩ : Addr).add j = ⟨g, o + j, none⟩ := by
  unfold Addr.add
  by_cases hj : j = 0 <;> simp [hj]

/-- The slice value '.slice A n c' reads as the cells xs ('size' cells an element), in a block below B. -/
def Rd (w : World) (B size : Nat) (A : Option Addr) (n : Nat) (xs : List Value) : Prop :=
  xs.length = n * size ∧ (0 < n → ∃ ad, A = some ad ∧ ad.block < B ∧ ∀ j u, xs[j]? = some u → w.cell? (ad.add j) = some u)

section
variable {w w' : World} {B B' size n : Nat} {A : Option Addr} {xs : List Value}
theorem Rd.nil_ : Rd w B size A 0 [] := ⟨by simp, fun h => absurd h (by omega)⟩
theorem Rd.len (h : Rd w B 1 A n xs) : xs.length = n := by simpa using h.1
theorem Rd.addr (h : Rd w B size A n xs) (hn : 0 < n) : ∃ ad, A = some ad ∧ ad.block < B ∧ ∀ j u, xs[j]? = some u → w.cell? (ad.add j) = some u := h.2 hn
theorem Rd.keep (h : Rd w B size A n xs) (hk : ∀ p : Addr, p.block < B → w'.cell? p = w.cell? p) : Rd w' B size A n xs :=
  ⟨h.1, fun hn => by
    obtain ⟨ad, e, hb, hc⟩ := h.2 hn
    exact ⟨ad, e, hb, fun j u hu => (hk _ (by rw [add_block]; exact hb)).trans (hc j u hu)⟩⟩
theorem Rd.more (h : Rd w B size A n xs) (hB : B ≤ B') : Rd w B' size A n xs :=
  ⟨h.1, fun hn => by
    obtain ⟨ad, e, hb, hc⟩ := h.2 hn
    exact ⟨ad, e, by omega, hc⟩⟩
theorem Rd.below {C : Nat} (h : Rd w B size A n xs) (hb : Below C w w') (hC : B ≤ C) : Rd w' B size A n xs := h.keep fun _ hp => hb.cell (by omega)
theorem Rd.drew (h : Rd w B size A n xs) : Rd w.drew B size A n xs := h
theorem Rd.drewN (h : Rd w B size A n xs) (k : Nat) : Rd (w.drewN k) B size A n xs := h
theorem Rd.alloc (h : Rd w B size A n xs) (hB : B ≤ w.heap.size) (o : Obj) : Rd (w.alloc o) B size A n xs := h.keep fun p hp => World.cell?_alloc_lt w o p (by omega)
theorem Rd.setCell (h : Rd w B size A n xs) {p : Addr} (hB : B ≤ p.block) (u : Value) : Rd (w.setCell p u) B size A n xs :=
  h.keep fun q hq => World.cell?_setCell_other w p q u (fun e => by subst e; omega)
theorem Rd.grown (h : Rd w B size A n xs) {row : Option Nat} (hg : w.grownBy w' row) (hB : B ≤ w.heap.size) (hr : ∀ g, row = some g → B ≤ g) : Rd w' B size A n xs :=
  h.keep fun p hp => World.cell?_of_block (hg.block p.block (by omega) (fun e => by have := hr _ e.symm; omega))
theorem Rd.of_own {base : Nat} {e : TypeId} {c : Nat} (h : w.ownsRow base e size (.slice A n c) n xs) : Rd w w.heap.size size A n xs := by
  refine ⟨h.1, fun hn => ?_⟩
  obtain ⟨g, cap, hv, _, hlt⟩ := h.form hn
  have hA : A = some ⟨g, 0, none⟩ := by injection hv
  subst hA
  exact ⟨_, rfl, hlt, h.cells (g := g) rfl⟩
/-- A cut 's[k:]' (k at most n), as the walk spells its address. -/
theorem Rd.cut (h : Rd w B size A n xs) {k cap : Nat} (hk : k ≤ n) (hc : n ≤ cap) :
    Rd w B size (if cap = k then A else A.map (·.add (k * size))) (n - k) (xs.drop (k * size)) := by
  refine ⟨by rw [List.length_drop, h.1, Nat.sub_mul], fun hn => ?_⟩
  obtain ⟨ad, rfl, hb, hcell⟩ := h.2 (by omega)
  rw [if_neg (by omega)]
  refine ⟨ad.add (k * size), rfl, by rw [add_block]; exact hb, fun j u hu => ?_⟩
  rw [add_add']
  exact hcell _ u (by rw [← hu, List.getElem?_drop])
/-- A cut 's[:k]'. -/
theorem Rd.take (h : Rd w B size A n xs) {k : Nat} (hk : k ≤ n) : Rd w B size A k (xs.take (k * size)) := by
  refine ⟨by rw [List.length_take, h.1]; exact Nat.min_eq_left (Nat.mul_le_mul_right _ hk), fun hn => ?_⟩
  obtain ⟨ad, rfl, hb, hcell⟩ := h.2 (by omega)
  refine ⟨ad, rfl, hb, fun j u hu => hcell j u ?_⟩
  rw [List.getElem?_take] at hu
  split at hu
  · exact hu
  · cases hu
end

/-- Draws, new blocks and stores: what 'grownBy' (one block may turn) keeps. -/
theorem only_refl (w : World) (row : Option Nat) : w.grownBy w row := World.grownBy.refl w row
theorem only_drewN {a w : World} {row : Option Nat} (h : a.grownBy w row) (n : Nat) : a.grownBy (w.drewN n) row := ⟨h.os, h.tape, h.output, h.size, h.block⟩
theorem only_drew {a w : World} {row : Option Nat} (h : a.grownBy w row) : a.grownBy w.drew row := ⟨h.os, h.tape, h.output, h.size, h.block⟩
theorem only_alloc {a w : World} {row : Option Nat} (h : a.grownBy w row) (o : Obj) : a.grownBy (w.alloc o) row :=
  ⟨h.os, h.tape, h.output, Nat.le_trans h.size (by simp), fun i hi hne => (Below.heap_alloc w o i (Nat.lt_of_lt_of_le hi h.size)).trans (h.block i hi hne)⟩
theorem only_setCell {a w : World} {g : Nat} (h : a.grownBy w (some g)) {p : Addr} (hp : p.block = g ∨ a.heap.size ≤ p.block) (u : Value) : a.grownBy (w.setCell p u) (some g) :=
  ⟨h.os, h.tape, h.output, by simpa [World.setCell] using h.size, fun i hi hne => (Below.heap_setCell w p u i (by
    rintro rfl
    rcases hp with hp | hp
    · exact hne (by rw [hp])
    · omega)).trans (h.block i hi hne)⟩
theorem only_undrew {a w : World} {row : Option Nat} (h : a.drew.grownBy w row) : a.grownBy w row := ⟨h.os, h.tape, h.output, h.size, h.block⟩
theorem only_undrewN {a w : World} {row : Option Nat} {n : Nat} (h : (a.drewN n).grownBy w row) : a.grownBy w row := ⟨h.os, h.tape, h.output, h.size, h.block⟩
theorem only_below {a w : World} (h : Below a.heap.size a w) (row : Option Nat) : a.grownBy w row := ⟨h.os, h.tape, h.output, h.size, fun i hi _ => h.block i hi⟩
theorem only_trans {a b c : World} {row : Option Nat} (h : a.grownBy b row) (k : b.grownBy c row) : a.grownBy c row :=
  ⟨k.os.trans h.os, k.tape.trans h.tape, k.output.trans h.output, Nat.le_trans h.size k.size, fun i hi hne => (k.block i (Nat.lt_of_lt_of_le hi h.size) hne).trans (h.block i hi hne)⟩
theorem below_only {B : Nat} {a b c : World} {g : Nat} (h : Below B a b) (k : b.grownBy c (some g)) (hB : B ≤ b.heap.size) (hg : B ≤ g) : Below B a c :=
  h.grown k hB (fun j hj => by injection hj; omega)
theorem below_alloc {a w : World} (h : Below a.heap.size a w) (o : Obj) : Below a.heap.size a (w.alloc o) := h.alloc h.size o
theorem below_then {a b c : World} (h : Below a.heap.size a b) (k : Below b.heap.size b c) : Below a.heap.size a c := h.trans (k.mono h.size)
theorem below_one {a b c : World} {g : Nat} (h : Below a.heap.size a b) (k : b.grownBy c (some g)) (hg : a.heap.size ≤ g) : Below a.heap.size a c := below_only h k h.size hg
theorem below_drewN {B : Nat} {a w : World} (h : Below B a w) (n : Nat) : Below B a (w.drewN n) := ⟨h.os, h.tape, h.output, h.size, h.block⟩
theorem only_block {w w' : World} {g : Nat} (h : w.grownBy w' (some g)) {b : Nat} (hb : b < w.heap.size) (hne : b ≠ g) : w'.heap[b]? = w.heap[b]? := h.block b hb (by simpa using hne)
theorem Rd.only {w w' : World} {lo B size n : Nat} {A : Option Addr} {xs : List Value} {g : Nat} (h : Rd w B size A n xs) (hg : w.grownBy w' (some g)) (hB : B ≤ w.heap.size)
    (hlo : ∀ ad, xs ≠ [] → A = some ad → lo ≤ ad.block) (hne : g < lo ∨ B ≤ g) : Rd w' B size A n xs := by
  refine ⟨h.1, fun hn => ?_⟩
  obtain ⟨ad, e, hb, hc⟩ := h.2 hn
  refine ⟨ad, e, hb, fun j u hu => (World.cell?_of_block (only_block hg (by rw [add_block]; omega) ?_)).trans (hc j u hu)⟩
  rw [add_block]
  have hx : xs ≠ [] := by rintro rfl; simp at hu
  have := hlo ad hx e
  omega

/-- A block known whole. -/
def Blk (w : World) (g : Nat) (t : TypeId) (cs : Array Value) : Prop := w.heap[g]? = some (.cells cs t (0, 0))
section
variable {w w' : World} {g : Nat} {t : TypeId} {cs : Array Value}
theorem Blk.lt (h : Blk w g t cs) : g < w.heap.size := by
  rcases Nat.lt_or_ge g w.heap.size with hlt | hge
  · exact hlt
  · unfold Blk at h; rw [Array.getElem?_eq_none hge] at h; cases h
theorem Blk.cell (h : Blk w g t cs) (i : Nat) : w.cell? ⟨g, i, none⟩ = cs[i]? := cell_of_row w g i cs t (0, 0) h
theorem Blk.frozen (h : Blk w g t cs) (i : Nat) : w.frozen? ⟨g, i, none⟩ = false := by
  unfold Blk at h
  simp [World.frozen?, h]
theorem Blk.new (w : World) (t : TypeId) (cs : Array Value) : Blk (w.alloc (.cells cs t)) w.heap.size t cs := heap_alloc_new w _
theorem Blk.drewN (h : Blk w g t cs) (n : Nat) : Blk (w.drewN n) g t cs := h
theorem Blk.alloc (h : Blk w g t cs) (o : Obj) : Blk (w.alloc o) g t cs := (Below.heap_alloc w o g h.lt).trans h
theorem Blk.set_ (h : Blk w g t cs) (i : Nat) (u : Value) : Blk (w.setCell ⟨g, i, none⟩ u) g t (cs.setIfInBounds i u) := by
  unfold Blk at h ⊢
  simp [World.setCell, Array.getElem?_modify, h]
theorem Blk.far (h : Blk w g t cs) {p : Addr} (hp : g ≠ p.block) (u : Value) : Blk (w.setCell p u) g t cs := (Below.heap_setCell w p u g hp).trans h
theorem Blk.below {B : Nat} (h : Blk w g t cs) (hb : Below B w w') (hg : g < B) : Blk w' g t cs := (hb.block g hg).trans h
theorem Blk.grown {row : Option Nat} (h : Blk w g t cs) (hb : w.grownBy w' row) (hg : some g ≠ row) : Blk w' g t cs := (hb.block g h.lt hg).trans h
end

/-- A region that draws and whose first n operations read: behind one draw, in the text's order. -/
theorem wp_still_tail {P : Program} {id : Nat} {Q : Exit → Act → World → Prop} {a : Act} {w : World} {l : List Oper} (n : Nat) (hm : P.follows .mixedOrders = true) (hB : Region.lexTailB .any l.toArray n = true)
    (h : wpStill P l.toArray w.drew (fun a' => wpList P l.toArray Q (l.drop n) a' w.drew) (l.take n) a) : (Code.region id l.toArray true).wp P Q a w :=
  wp_region_still_tail n hm hB h

/-- Contracts of quiet calls, as a quiet region wants them. -/
theorem quiet_left {P : Program} {f : FuncId} {args : Array Value} {w : World} {n : Nat} {v : Value}
    (h : Calls P f args (w.drewN n) fun e w' => e = .returned v ∧ w.drewN n = w') : Calls P f args (w.drewN n) fun e w'' => e = .returned v ∧ ∃ m, w'' = w.drewN m :=
  h.mono fun _ _ ⟨he, hm⟩ => ⟨he, n, hm.symm⟩
theorem quiet_add_left {P : Program} {f : FuncId} {args : Array Value} {w : World} {a n : Nat} {v : Value}
    (h : Calls P f args (w.drewN (a + n)) fun e w' => e = .returned v ∧ w.drewN (a + n) = w') :
    Calls P f args (w.drewN (a + n)) fun e w'' => e = .returned v ∧ ∃ m, w'' = w.drewN (a + m) :=
  h.mono fun _ _ ⟨he, hm⟩ => ⟨he, n, hm.symm⟩

theorem and_15 (c : Int) : 0 ≤ bits .and .i64 c 15 ∧ bits .and .i64 c 15 ≤ 15 := by
  have h1 : (BitVec.ofInt 64 c &&& BitVec.ofInt 64 15).toNat ≤ 15 := by
    rw [BitVec.toNat_and]
    exact Nat.and_le_right
  have h2 : bits .and .i64 c 15 = IntKind.i64.wrap ((BitVec.ofInt 64 c &&& BitVec.ofInt 64 15).toNat : Int) := rfl
  rw [h2, IntKind.wrap_i64]
  omega

theorem quiet_more {P : Program} {f : FuncId} {args : Array Value} {w : World} {n : Nat} {v : Value}
    (h : Calls P f args (w.drewN n) fun e w' => e = .returned v ∧ ∃ m, w' = (w.drewN n).drewN m) : Calls P f args (w.drewN n) fun e w'' => e = .returned v ∧ ∃ m, w'' = w.drewN m :=
  h.mono fun _ _ ⟨he, m, hm⟩ => ⟨he, n + m, by rw [hm, World.drewN_drewN]⟩

/-- Integers as cells. -/
def ic (k : IntKind) (l : List Int) : List Value := l.map (Value.int k)
theorem ic_length (k : IntKind) (l : List Int) : (ic k l).length = l.length := by simp [ic]
theorem ic_append (k : IntKind) (a b : List Int) : ic k (a ++ b) = ic k a ++ ic k b := by simp [ic]
theorem ic_nil (k : IntKind) : ic k [] = [] := rfl
theorem ic_one (k : IntKind) (x : Int) : ic k [x] = [.int k x] := rfl
theorem ic_cell (k : IntKind) (l : List Int) : ∀ u ∈ ic k l, u.oneCell' = true := by
  intro u hu
  simp only [ic, List.mem_map] at hu
  obtain ⟨x, _, rfl⟩ := hu
  rfl
theorem ic_get {k : IntKind} {l : List Int} {j : Nat} (h : j < l.length) : (ic k l)[j]? = some (.int k (l.getD j 0)) := by
  simp [ic, List.getElem?_map, List.getD, List.getElem?_eq_getElem h]
theorem ic_drop (k : IntKind) (l : List Int) (n : Nat) : (ic k l).drop n = ic k (l.drop n) := by simp [ic]
theorem ic_take (k : IntKind) (l : List Int) (n : Nat) : (ic k l).take n = ic k (l.take n) := by simp [ic]

/-- A slice of integers. -/
def RdI (w : World) (B : Nat) (k : IntKind) (A : Option Addr) (l : List Int) : Prop := Rd w B 1 A l.length (ic k l)

section
variable {w w' : World} {B B' : Nat} {k : IntKind} {A : Option Addr} {l : List Int}
theorem RdI.at_ (h : RdI w B k A l) {j : Nat} (hj : j < l.length) : ∃ ad, A = some ad ∧ ad.block < B ∧ w.cell? (ad.add j) = some (.int k (l.getD j 0)) := by
  obtain ⟨ad, e, hb, hc⟩ := Rd.addr h (by omega)
  exact ⟨ad, e, hb, hc j _ (ic_get hj)⟩
theorem RdI.nil_ : RdI w B k A [] := Rd.nil_
theorem RdI.below {C : Nat} (h : RdI w B k A l) (hb : Below C w w') (hC : B ≤ C) : RdI w' B k A l := Rd.below h hb hC
theorem RdI.more (h : RdI w B k A l) (hB : B ≤ B') : RdI w B' k A l := Rd.more h hB
theorem RdI.alloc (h : RdI w B k A l) (hB : B ≤ w.heap.size) (o : Obj) : RdI (w.alloc o) B k A l := Rd.alloc h hB o
theorem RdI.setCell (h : RdI w B k A l) {p : Addr} (hB : B ≤ p.block) (u : Value) : RdI (w.setCell p u) B k A l := Rd.setCell h hB u
theorem RdI.grown (h : RdI w B k A l) {row : Option Nat} (hg : w.grownBy w' row) (hB : B ≤ w.heap.size) (hr : ∀ g, row = some g → B ≤ g) : RdI w' B k A l := Rd.grown h hg hB hr
theorem RdI.drewN (h : RdI w B k A l) (m : Nat) : RdI (w.drewN m) B k A l := h
theorem RdI.cut (h : RdI w B k A l) {n cap : Nat} (hk : n ≤ l.length) (hc : l.length ≤ cap) :
    RdI w B k (if cap = n then A else A.map (·.add n)) (l.drop n) := by
  have := Rd.cut h hk hc
  simp only [Nat.mul_one] at this
  unfold RdI
  rw [List.length_drop, ← ic_drop]
  exact this
theorem RdI.take (h : RdI w B k A l) {n : Nat} (hk : n ≤ l.length) : RdI w B k A (l.take n) := by
  have := Rd.take h hk
  simp only [Nat.mul_one] at this
  unfold RdI
  rw [List.length_take, Nat.min_eq_left hk, ← ic_take]
  exact this
end

theorem RdI.one (w : World) (k : IntKind) (x : Int) (e : TypeId) : RdI (w.alloc (.cells #[.int k x] e)) (w.heap.size + 1) k (some ⟨w.heap.size, 0, none⟩) [x] := by
  refine ⟨rfl, fun _ => ⟨_, rfl, by simp, fun j u hu => ?_⟩⟩
  match j, hu with
  | 0, hu =>
    simp [ic] at hu
    subst hu
    rw [add_mk, cell_of_row _ w.heap.size (0 + 0) #[.int k x] e (0, 0) (heap_alloc_new w _)]
    rfl
  | j + 1, hu => simp [ic] at hu

theorem sizeOf_run {P : Program} {e : TypeId} {size : Nat} {z : Option Value} {b : Nat} (hi : (P.info? e).map (fun i => (i.zero, i.size, i.bytes)) = some (z, size, b)) (w : World) : (sizeOf e).run P w = .ok size w := by
  cases h : P.info? e with
  | none => rw [h] at hi; simp at hi
  | some i =>
    rw [h] at hi
    simp only [Option.map_some, Option.some.injEq, Prod.mk.injEq] at hi
    simp [sizeOf, typeInfo, h, hi.2.1]
theorem elem_of {P : Program} {t e : TypeId} (ht : P.underlying t = some (.slice e)) : P.elem t = e ∧ P.underlying t = some (.slice (P.elem t)) := by
  have : P.elem t = e := by simp [Program.elem, ht]
  exact ⟨this, by rw [this]; exact ht⟩

/-- 's[lo:hi]', 's[lo:]', 's[:hi]' of any slice: the run equation, and what it reads as. -/
theorem Rd.slice_lh {P : Program} {t e : TypeId} {size : Nat} {z : Option Value} {b : Nat} (ht : P.underlying t = some (.slice e)) (hi : (P.info? e).map (fun i => (i.zero, i.size, i.bytes)) = some (z, size, b))
    {w : World} {B n : Nat} {A : Option Addr} {xs : List Value} (h : Rd w B size A n xs) {lo hh c : Nat} (h1 : lo ≤ hh) (h2 : hh ≤ n) (hc : n ≤ c) :
    ∃ A', (∀ w' : World, (Instr.slice t (.slice A n c) (some (.int .i64 (lo : Int))) (some (.int .i64 (hh : Int))) none).run P w' = .ok (.slice A' (hh - lo) (c - lo)) w') ∧
      Rd w B size A' (hh - lo) ((xs.drop (lo * size)).take ((hh - lo) * size)) ∧ (∀ ad, A' = some ad → ∃ ad', A = some ad' ∧ ad'.block = ad.block) := by
  obtain ⟨he, ht'⟩ := elem_of ht
  refine ⟨if c = lo then A else A.map (·.add (lo * size)), fun w' => ?_, (Rd.cut h (k := lo) (cap := c) (by omega) hc).take (by omega), fun ad had => ?_⟩
  · rw [run_slice_lh w' t A n c ht' .i64 .i64 lo hh (by omega) (by omega) (by omega), he, sizeOf_run hi]
    simp [sliced]
  · split at had
    · exact ⟨ad, had, rfl⟩
    · rw [Option.map_eq_some_iff] at had
      obtain ⟨x, rfl, rfl⟩ := had
      exact ⟨x, rfl, (add_block _ _).symm⟩
theorem Rd.slice_l {P : Program} {t e : TypeId} {size : Nat} {z : Option Value} {b : Nat} (ht : P.underlying t = some (.slice e)) (hi : (P.info? e).map (fun i => (i.zero, i.size, i.bytes)) = some (z, size, b))
    {w : World} {B n : Nat} {A : Option Addr} {xs : List Value} (h : Rd w B size A n xs) {lo c : Nat} (h1 : lo ≤ n) (hc : n ≤ c) :
    ∃ A', (∀ w' : World, (Instr.slice t (.slice A n c) (some (.int .i64 (lo : Int))) none none).run P w' = .ok (.slice A' (n - lo) (c - lo)) w') ∧
      Rd w B size A' (n - lo) (xs.drop (lo * size)) ∧ (∀ ad, A' = some ad → ∃ ad', A = some ad' ∧ ad'.block = ad.block) := by
  obtain ⟨he, ht'⟩ := elem_of ht
  refine ⟨if c = lo then A else A.map (·.add (lo * size)), fun w' => ?_, Rd.cut h (k := lo) (cap := c) (by omega) hc, fun ad had => ?_⟩
  · rw [run_slice_l w' t A n c ht' .i64 lo (by omega) (by omega), he, sizeOf_run hi]
    simp [sliced]
  · split at had
    · exact ⟨ad, had, rfl⟩
    · rw [Option.map_eq_some_iff] at had
      obtain ⟨x, rfl, rfl⟩ := had
      exact ⟨x, rfl, (add_block _ _).symm⟩
theorem Rd.slice_h {P : Program} {t e : TypeId} {size : Nat} {z : Option Value} {b : Nat} (ht : P.underlying t = some (.slice e)) (hi : (P.info? e).map (fun i => (i.zero, i.size, i.bytes)) = some (z, size, b))
    {w : World} {B n : Nat} {A : Option Addr} {xs : List Value} (h : Rd w B size A n xs) {hh c : Nat} (h2 : hh ≤ n) (hc : n ≤ c) :
    ∃ A', (∀ w' : World, (Instr.slice t (.slice A n c) none (some (.int .i64 (hh : Int))) none).run P w' = .ok (.slice A' hh c) w') ∧
      Rd w B size A' hh (xs.take (hh * size)) ∧ (∀ ad, A' = some ad → ∃ ad', A = some ad' ∧ ad'.block = ad.block) := by
  obtain ⟨he, ht'⟩ := elem_of ht
  have hcut := Rd.cut h (k := 0) (cap := c) (by omega) hc
  simp only [Nat.zero_mul, List.drop_zero, Nat.sub_zero] at hcut
  refine ⟨if c = 0 then A else A.map (·.add (0 * size)), fun w' => ?_, by simpa using hcut.take h2, fun ad had => ?_⟩
  · rw [run_slice_h w' t A n c ht' .i64 hh (by omega) (by omega), he, sizeOf_run hi]
    simp [sliced]
  · split at had
    · exact ⟨ad, had, rfl⟩
    · rw [Option.map_eq_some_iff] at had
      obtain ⟨x, rfl, rfl⟩ := had
      exact ⟨x, rfl, (add_block _ _).symm⟩
/-- The same for integers. -/
theorem RdI.slice_lh {P : Program} {t e : TypeId} {k : IntKind} {z : Option Value} {b : Nat} (ht : P.underlying t = some (.slice e)) (hi : (P.info? e).map (fun i => (i.zero, i.size, i.bytes)) = some (z, 1, b))
    {w : World} {B : Nat} {A : Option Addr} {l : List Int} (h : RdI w B k A l) {lo hh c : Nat} (h1 : lo ≤ hh) (h2 : hh ≤ l.length) (hc : l.length ≤ c) :
    ∃ A', (∀ w' : World, (Instr.slice t (.slice A l.length c) (some (.int .i64 (lo : Int))) (some (.int .i64 (hh : Int))) none).run P w' = .ok (.slice A' (hh - lo) (c - lo)) w') ∧
      RdI w B k A' ((l.drop lo).take (hh - lo)) ∧ (∀ ad, A' = some ad → ∃ ad', A = some ad' ∧ ad'.block = ad.block) := by
  obtain ⟨A', h1', h2', h3'⟩ := Rd.slice_lh ht hi h h1 h2 hc
  simp only [Nat.mul_one, ic_drop, ic_take] at h2'
  refine ⟨A', h1', ?_, h3'⟩
  unfold RdI
  rw [List.length_take, List.length_drop, Nat.min_eq_left (by omega)]
  exact h2'
theorem RdI.slice_l {P : Program} {t e : TypeId} {k : IntKind} {z : Option Value} {b : Nat} (ht : P.underlying t = some (.slice e)) (hi : (P.info? e).map (fun i => (i.zero, i.size, i.bytes)) = some (z, 1, b))
    {w : World} {B : Nat} {A : Option Addr} {l : List Int} (h : RdI w B k A l) {lo c : Nat} (h1 : lo ≤ l.length) (hc : l.length ≤ c) :
    ∃ A', (∀ w' : World, (Instr.slice t (.slice A l.length c) (some (.int .i64 (lo : Int))) none none).run P w' = .ok (.slice A' (l.length - lo) (c - lo)) w') ∧
      RdI w B k A' (l.drop lo) ∧ (∀ ad, A' = some ad → ∃ ad', A = some ad' ∧ ad'.block = ad.block) := by
  obtain ⟨A', h1', h2', h3'⟩ := Rd.slice_l ht hi h h1 hc
  simp only [Nat.mul_one, ic_drop] at h2'
  refine ⟨A', h1', ?_, h3'⟩
  unfold RdI
  rw [List.length_drop]
  exact h2'
theorem RdI.slice_h {P : Program} {t e : TypeId} {k : IntKind} {z : Option Value} {b : Nat} (ht : P.underlying t = some (.slice e)) (hi : (P.info? e).map (fun i => (i.zero, i.size, i.bytes)) = some (z, 1, b))
    {w : World} {B : Nat} {A : Option Addr} {l : List Int} (h : RdI w B k A l) {hh c : Nat} (h2 : hh ≤ l.length) (hc : l.length ≤ c) :
    ∃ A', (∀ w' : World, (Instr.slice t (.slice A l.length c) none (some (.int .i64 (hh : Int))) none).run P w' = .ok (.slice A' hh c) w') ∧
      RdI w B k A' (l.take hh) ∧ (∀ ad, A' = some ad → ∃ ad', A = some ad' ∧ ad'.block = ad.block) := by
  obtain ⟨A', h1', h2', h3'⟩ := Rd.slice_h ht hi h h2 hc
  simp only [Nat.mul_one, ic_take] at h2'
  refine ⟨A', h1', ?_, h3'⟩
  unfold RdI
  rw [List.length_take, Nat.min_eq_left h2]
  exact h2'

/-- A slice of bytes as a string. -/
def str (l : List Int) : ByteArray := l.foldl (fun r n => r.push (UInt8.ofNat n.toNat)) ByteArray.empty
theorem run_str {P : Program} {src dst e : TypeId} (hs : P.underlying src = some (.slice e)) (he : P.underlying e = some (.int .u8)) (hd : P.underlying dst = some .string)
    {w : World} {B : Nat} {A : Option Addr} {l : List Int} (h : RdI w B .u8 A l) (c : Nat) : (convert src dst (.slice A l.length c)).run P w = .ok (.string (str l)) w := by
  rw [run_convert_bytes_string w src dst e A l.length c hs he hd]
  by_cases h0 : l = []
  · subst h0
    cases A with
    | none => simp [Conv.bytesToString, str, Sem.run_pure]
    | some a => exact run_bytesToString w a 0 c [] (by simp [loadCells, loadCellsFrom])
  · have hl : 0 < l.length := List.length_pos_iff.2 h0
    obtain ⟨ad, rfl, _, hc⟩ := Rd.addr h hl
    refine run_bytesToString w ad l.length c l ?_
    have h1 := run_loadCells_list (P := P) w ad (ic .u8 l) hc
    rw [ic_length] at h1
    exact h1
theorem str_data (l : List Int) : ∀ s : ByteArray, (l.foldl (fun r n => r.push (UInt8.ofNat n.toNat)) s).data.toList = s.data.toList ++ l.map (fun n => UInt8.ofNat n.toNat) := by
  induction l with
  | nil => intro s; simp
  | cons x l ih => intro s; rw [List.foldl_cons, ih]; simp [ByteArray.push]
theorem str_inj {a b : List Int} (ha : ∀ x ∈ a, 0 ≤ x ∧ x ≤ 255) (hb : ∀ x ∈ b, 0 ≤ x ∧ x ≤ 255) : str a = str b ↔ a = b := by
  refine ⟨fun h => ?_, fun h => by rw [h]⟩
  have h1 := str_data a ByteArray.empty
  have h2 := str_data b ByteArray.empty
  unfold str at h
  rw [h, h2] at h1
  simp only [List.append_cancel_left_eq] at h1
  apply List.ext_getElem?
  intro k
  have h3 := congrArg (fun l => l[k]?) h1
  simp only [List.getElem?_map] at h3
  cases e1 : a[k]? <;> cases e2 : b[k]? <;> simp only [e1, e2, Option.map_some, Option.map_none, Option.some.injEq, reduceCtorEq] at h3 ⊢
  rename_i x y
  have hx := ha x (List.mem_of_getElem? e1)
  have hy := hb y (List.mem_of_getElem? e2)
  have h4 := congrArg UInt8.toNat h3
  simp only [UInt8.toNat_ofNat'] at h4
  omega

theorem str_beq {a b : List Int} (ha : ∀ x ∈ a, 0 ≤ x ∧ x ≤ 255) (hb : ∀ x ∈ b, 0 ≤ x ∧ x ≤ 255) : ((str a).toList == (str b).toList) = decide (a = b) := by
  by_cases h : a = b
  · subst h
    simp
  · have h1 : ¬ str a = str b := fun e => h ((str_inj ha hb).1 e)
    have h2 : ¬ (str a).toList = (str b).toList := fun e => h1 (by
      rw [ByteArray.toList_eq, ByteArray.toList_eq] at e
      exact Go.WideShapes.bytes_inj e)
    simp [h, h2]
theorem RdI.lit (w : World) (k : IntKind) (l : List Int) (e : TypeId) (cs : Array Value) (h : cs.toList = ic k l) : RdI (w.alloc (.cells cs e)) (w.heap.size + 1) k (some ⟨w.heap.size, 0, none⟩) l := by
  refine ⟨by simp [ic_length], fun _ => ⟨_, rfl, by simp, fun j u hu => ?_⟩⟩
  rw [add_mk, cell_of_row _ w.heap.size (0 + j) cs e (0, 0) (heap_alloc_new w _), Nat.zero_add, ← hu, ← h]
  simp

/-- The call's own row of integers: v is a slice of l, of element type e, in a block from base on. -/
def OwnI (w : World) (base : Nat) (e : TypeId) (k : IntKind) (v : Value) (l : List Int) : Prop := w.ownsRow base e 1 v l.length (ic k l)

section
variable {w w' : World} {base : Nat} {e : TypeId} {k : IntKind} {v : Value} {l : List Int}
theorem OwnI.nil_ (w : World) (base : Nat) (e : TypeId) (k : IntKind) : OwnI w base e k (.slice none 0 0) [] := World.ownsRow_nil w base e 1
theorem OwnI.form (h : OwnI w base e k v l) : ∃ A c, v = .slice A l.length c ∧ l.length ≤ c ∧ RdI w w.heap.size k A l ∧ (∀ ad, A = some ad → base ≤ ad.block ∧ ad.block < w.heap.size) := by
  rcases h.2 with ⟨rfl, h0⟩ | ⟨g, cap, cur, rfl, hb, hg, hn, _⟩
  · have : l = [] := List.eq_nil_of_length_eq_zero h0
    subst this
    exact ⟨none, 0, rfl, Nat.le_refl _, RdI.nil_, fun _ h => by cases h⟩
  · refine ⟨some ⟨g, 0, none⟩, cap, rfl, hn, Rd.of_own (base := base) (e := e) (c := cap) h, fun ad h => ?_⟩
    injection h with h
    subst h
    exact ⟨hb, (Array.getElem?_eq_some_iff.1 hg).1⟩
theorem OwnI.alloc (h : OwnI w base e k v l) (o : Obj) : OwnI (w.alloc o) base e k v l := World.ownsRow.alloc h o
theorem OwnI.kept {row : Option Nat} (h : OwnI w base e k v l) (hg : w.grownBy w' row) (hne : v.ownBlock = none ∨ v.ownBlock ≠ row) : OwnI w' base e k v l := World.ownsRow.kept h hg hne
theorem OwnI.below (h : OwnI w base e k v l) (hb : Below w.heap.size w w') : OwnI w' base e k v l :=
  World.ownsRow.kept h (row := none) ⟨hb.os, hb.tape, hb.output, hb.size, fun j hj _ => hb.block j hj⟩ (by cases v.ownBlock <;> simp)
theorem OwnI.drew (h : OwnI w base e k v l) : OwnI w.drew base e k v l := h
theorem OwnI.drewN (h : OwnI w base e k v l) (n : Nat) : OwnI (w.drewN n) base e k v l := h
theorem OwnI.far (h : OwnI w base e k v l) {a : Addr} (ha : a.block < base) (u : Value) : OwnI (w.setCell a u) base e k v l := ownsRow_setCell_below h ha u
theorem OwnI.only {g : Nat} (h : OwnI w base e k v l) (hg : w.grownBy w' (some g)) (hlt : g < base) : OwnI w' base e k v l :=
  h.kept hg (by
    cases hv : v.ownBlock with
    | none => exact .inl rfl
    | some b =>
      have := (World.ownsRow.lt h b hv).1
      exact .inr (by simp; omega))
theorem OwnI.base_ {base' : Nat} (h : OwnI w base e k v l) (hb : base' ≤ base) : OwnI w base' e k v l := by
  obtain ⟨h1, h2⟩ := h
  refine ⟨h1, ?_⟩
  rcases h2 with h2 | ⟨g, cap, cur, hv, hg, r⟩
  · exact .inl h2
  · exact .inr ⟨g, cap, cur, hv, by omega, r⟩
end

theorem ic_set (k : IntKind) (l : List Int) (j : Nat) (x : Int) : (ic k l).set j (.int k x) = ic k (l.set j x) := by simp [ic, List.map_set]
theorem OwnI.row {w : World} {base : Nat} {e : TypeId} {k : IntKind} {v : Value} {l : List Int} (h : OwnI w base e k v l) (hl : 0 < l.length) :
    ∃ g c, v = .slice (some ⟨g, 0, none⟩) l.length c ∧ base ≤ g ∧ g < w.heap.size ∧ l.length ≤ c ∧ (∀ j, j < l.length → w.cell? ⟨g, j, none⟩ = some (.int k (l.getD j 0))) ∧ (∀ j, w.frozen? ⟨g, j, none⟩ = false) ∧
      (∀ (j : Nat) (x : Int), OwnI (w.setCell ⟨g, j, none⟩ (.int k x)) base e k v (l.set j x)) := by
  obtain ⟨g, cap, hv, hgb, hgl⟩ := World.ownsRow.form h hl
  subst hv
  have hc : l.length ≤ cap := by
    rcases h.2 with ⟨h', _⟩ | ⟨g', cap', cur, h', _, _, hnc, _⟩
    · simp at h'
    · simp only [Value.slice.injEq] at h'
      omega
  have h1 : w.ownsRow base e 1 (.slice (some ⟨g, 0, none⟩) l.length cap) l.length (ic k l) := h
  refine ⟨g, cap, rfl, hgb, hgl, hc, fun j hj => ?_, fun j => h1.frozenAt j, fun j x => ?_⟩
  · rw [h1.cellAt j (by omega), ic_get hj]
  · have h2 := (World.ownsRow.stored h1 j (.int k x)).1
    rw [ic_set] at h2
    unfold OwnI
    rw [List.length_set]
    exact h2
theorem OwnI.empty (w : World) (base : Nat) (e : TypeId) (k : IntKind) (hb : base ≤ w.heap.size) : OwnI (w.alloc (.cells #[] e)) base e k (.slice (some ⟨w.heap.size, 0, none⟩) 0 0) [] :=
  World.ownsRow_made w #[] 0 hb (by simp [maxLen]) rfl

/-- A slice of slices of integers. -/
def RdLL (w : World) (B : Nat) (k : IntKind) (A : Option Addr) (ls : List (List Int)) : Prop :=
  ∀ j, j < ls.length → ∃ ad Aj cj, A = some ad ∧ ad.block < B ∧ w.cell? (ad.add j) = some (.slice Aj (ls.getD j []).length cj) ∧ (ls.getD j []).length ≤ cj ∧ RdI w B k Aj (ls.getD j [])
theorem RdLL.below {w w' : World} {B C : Nat} {k : IntKind} {A : Option Addr} {ls : List (List Int)} (h : RdLL w B k A ls) (hb : Below C w w') (hC : B ≤ C) : RdLL w' B k A ls := fun j hj => by
  obtain ⟨ad, Aj, cj, e, h1, h2, h3, h4⟩ := h j hj
  exact ⟨ad, Aj, cj, e, h1, (hb.cell (by rw [add_block]; omega)).trans h2, h3, h4.below hb hC⟩

theorem own_ge {w : World} {base e n : Nat} {size : Nat} {v : Value} {xs : List Value} (h : w.ownsRow base e size v n xs) : ∀ g, v.ownBlock = some g → base ≤ g := fun g hg => (World.ownsRow.lt h g hg).1

section
variable {P : Program} (w : World)

theorem run_append_nothing (base : Nat) (t ty e : TypeId) (i : TypeInfo) (size : Nat) (ht : P.underlying t = some (.slice e)) (hi : P.info? e = some i)
    (v : Value) (n : Nat) (xs : List Value) (hown : w.ownsRow base e size v n xs) (c : Nat) : (Builtin.append_ #[t, t] ty #[v, .slice none 0 c]).run P w = .ok v w := by
  rcases hown.2 with ⟨rfl, rfl⟩ | ⟨g, cap, cur, rfl, _, _, hnc, _⟩
  · simp [Builtin.append_, run_underlying ht, sizeOf, typeInfo, hi, Builtin.lenOf, Builtin.firstCells]
  · simp [Builtin.append_, run_underlying ht, sizeOf, typeInfo, hi, Builtin.lenOf, Builtin.firstCells, hnc, storeCells]

/-- append onto a row of the call's own, from whatever slice. -/
theorem run_append_rd (base : Nat) (t ty e : TypeId) (i : TypeInfo) (z : Value) (size bytes : Nat) (ht : P.underlying t = some (.slice e)) (hi : P.info? e = some i) (hz : i.zero = some z)
    (hsize : i.size = size) (hby : i.bytes = bytes) (hzs : z.cells.size = size) (hsz : 0 < size)
    (v : Value) (n : Nat) (xs : List Value) (hown : w.ownsRow base e size v n xs)
    (B : Nat) (A : Option Addr) (m c : Nat) (news : List Value) (hr : Rd w B size A m news) (h1 : ∀ u ∈ news, u.oneCell' = true)
    (h63 : n + m ≤ maxLen) (hbytes : (n + m) * bytes ≤ 140737488355328) (hbase : base ≤ w.heap.size) :
    ∃ v' w', (Builtin.append_ #[t, t] ty #[v, .slice A m c]).run P w = .ok v' w' ∧ w'.ownsRow base e size v' (n + m) (xs ++ news) ∧ w.grownBy w' v.ownBlock ∧
      (v'.ownBlock = v.ownBlock ∨ v'.ownBlock = some w.heap.size) := by
  rcases A with _ | ad
  · have hm : m = 0 := by
      rcases Nat.eq_zero_or_pos m with h0 | h0
      · exact h0
      · obtain ⟨ad, h, _⟩ := hr.2 h0
        cases h
    subst hm
    have hn : news = [] := List.eq_nil_of_length_eq_zero (by simpa using hr.1)
    subst hn
    exact ⟨v, w, run_append_nothing w base t ty e i size ht hi v n xs hown c, by simpa using hown, World.grownBy.refl w _, .inl rfl⟩
  · have hcells : ∀ j u, news[j]? = some u → w.cell? (ad.add j) = some u := by
      intro j u hu
      rcases Nat.eq_zero_or_pos m with h0 | h0
      · subst h0
        have hn : news = [] := List.eq_nil_of_length_eq_zero (by simpa using hr.1)
        subst hn
        simp at hu
      · obtain ⟨ad', h, _, hc⟩ := hr.2 h0
        injection h with h
        subst h
        exact hc j u hu
    obtain ⟨v', w', hrun, h2, h3, _, h5⟩ := run_append_own_at (P := P) w base t ty e i z size bytes ht hi hz hsize hby hzs hsz v n xs hown ad m c news hr.1 hcells h1 h63 hbytes hbase
    exact ⟨v', w', hrun, h2, h3, h5⟩

theorem wp_append_rd {o : Oper} {a : Act} {K : Act → World → Prop} {Q : Exit → Act → World → Prop} (s x : Operand) (t : TypeId)
    (ho : o.op = .call { callee := .builtin .append, args := #[s, x], argTypes := #[t, t] })
    (base : Nat) (e : TypeId) (i : TypeInfo) (z : Value) (size bytes : Nat) (ht : P.underlying t = some (.slice e)) (hi : P.info? e = some i) (hz : i.zero = some z)
    (hsize : i.size = size) (hby : i.bytes = bytes) (hzs : z.cells.size = size) (hsz : 0 < size)
    (v : Value) (n : Nat) (xs : List Value) (hs : a.eval s = v) (hown : w.ownsRow base e size v n xs)
    (B : Nat) (A : Option Addr) (m c : Nat) (news : List Value) (hx : a.eval x = .slice A m c) (hr : Rd w B size A m news) (h1 : ∀ u ∈ news, u.oneCell' = true)
    (h63 : n + m ≤ maxLen) (hbytes : (n + m) * bytes ≤ 140737488355328) (hbase : base ≤ w.heap.size)
    (h : ∀ v' w', w'.ownsRow base e size v' (n + m) (xs ++ news) → w.grownBy w' v.ownBlock → (v'.ownBlock = v.ownBlock ∨ v'.ownBlock = some w.heap.size) → K (a.put o.dst v') w') : o.wp P a w K Q := by
  obtain ⟨v', w', hrun, h2, h3, h4⟩ := run_append_rd (P := P) w base t o.type e i z size bytes ht hi hz hsize hby hzs hsz v n xs hown B A m c news hr h1 h63 hbytes hbase
  unfold Oper.wp execOp
  simp only [ho, resolve, invoke, builtin, Sem.run_bind, Sem.run_pure, Result.andThen_ok, List.map_toArray, List.map_cons, List.map_nil, hs, hx, hrun]
  exact h v' w' h2 h3 h4

/-- The same, integers onto integers, with Below carried. -/
theorem wpList_append_int2 {ops : Array Oper} {rest : List Oper} {o : Oper} {a : Act} {Q : Exit → Act → World → Prop} (hgd : o.guard = none) (s x : Operand) (t : TypeId)
    (ho : o.op = .call { callee := .builtin .append, args := #[s, x], argTypes := #[t, t] })
    (w0 : World) (B0 base : Nat) (e : TypeId) (k : IntKind) (bytes : Nat) (ht : P.underlying t = some (.slice e))
    (hi : (P.info? e).map (fun i => (i.zero, i.size, i.bytes)) = some (some (.int k 0), 1, bytes))
    (v : Value) (l : List Int) (hs : a.eval s = v) (hown : OwnI w base e k v l)
    (B : Nat) (A : Option Addr) (m c : Nat) (l' : List Int) (hx : a.eval x = .slice A m c) (hm : m = l'.length) (hr : RdI w B k A l')
    (hlen : l.length + l'.length ≤ 1099511627776) (hby : bytes ≤ 8) (hbel : Below B0 w0 w) (hB0 : B0 ≤ base) (hbw : base ≤ w.heap.size)
    (h : ∀ v' w', OwnI w' base e k v' (l ++ l') → Below B0 w0 w' → w.grownBy w' v.ownBlock → (v'.ownBlock = v.ownBlock ∨ v'.ownBlock = some w.heap.size) → wpList P ops Q rest (a.put o.dst v') w') : wpList P ops Q (o :: rest) a w := by
  obtain ⟨i0, hi0, hz0, hz1, hz2⟩ := info_parts hi
  subst hm
  refine wpList_plain hgd fun _ hK => wp_append_rd w s x t ho base e i0 (.int k 0) 1 bytes ht hi0 hz0 hz1 hz2 rfl (by omega) v l.length (ic k l) hs hown B A l'.length c (ic k l') hx hr (ic_cell k l')
    (by simp only [maxLen]; omega) ?_ hbw fun v' w' h2 h3 h4 => hK _ _ (h v' w' ?_ ?_ h3 h4)
  · calc (l.length + l'.length) * bytes ≤ 1099511627776 * 8 := Nat.mul_le_mul hlen hby
      _ ≤ 140737488355328 := by omega
  · unfold OwnI
    rw [List.length_append, ic_append]
    exact h2
  · exact hbel.grown h3 (by omega) (fun g hg => by have := own_ge hown g hg; omega)

/-- The same as a step of a region that draws its order. -/
theorem step_append_int {ops : Array Oper} {o : Oper} {a : Act} {K : Act → World → Prop} {E : Prop} {Q : Exit → Act → World → Prop} (hgd : o.guard = none) (s x : Operand) (t : TypeId)
    (ho : o.op = .call { callee := .builtin .append, args := #[s, x], argTypes := #[t, t] })
    (w0 : World) (B0 base : Nat) (e : TypeId) (k : IntKind) (bytes : Nat) (ht : P.underlying t = some (.slice e))
    (hi : (P.info? e).map (fun i => (i.zero, i.size, i.bytes)) = some (some (.int k 0), 1, bytes))
    (v : Value) (l : List Int) (hs : a.eval s = v) (hown : OwnI w base e k v l)
    (B : Nat) (A : Option Addr) (m c : Nat) (l' : List Int) (hx : a.eval x = .slice A m c) (hm : m = l'.length) (hr : RdI w B k A l')
    (hlen : l.length + l'.length ≤ 1099511627776) (hby : bytes ≤ 8) (hbel : Below B0 w0 w) (hB0 : B0 ≤ base) (hbw : base ≤ w.heap.size)
    (h : ∀ v' w', OwnI w' base e k v' (l ++ l') → Below B0 w0 w' → w.grownBy w' v.ownBlock → (v'.ownBlock = v.ownBlock ∨ v'.ownBlock = some w.heap.size) → K (a.put o.dst v') w') : if Region.wanted o (yielded ops a.tmps) = true then Oper.wp P o a w K Q else E := by
  obtain ⟨i0, hi0, hz0, hz1, hz2⟩ := info_parts hi
  subst hm
  have hw : Region.wanted o (yielded ops a.tmps) = true := by simp [Region.wanted, hgd]
  rw [if_pos hw]
  refine wp_append_rd w s x t ho base e i0 (.int k 0) 1 bytes ht hi0 hz0 hz1 hz2 rfl (by omega) v l.length (ic k l) hs hown B A l'.length c (ic k l') hx hr (ic_cell k l')
    (by simp only [maxLen]; omega) ?_ hbw fun v' w' h2 h3 h4 => h v' w' ?_ ?_ h3 h4
  · calc (l.length + l'.length) * bytes ≤ 1099511627776 * 8 := Nat.mul_le_mul hlen hby
      _ ≤ 140737488355328 := by omega
  · unfold OwnI
    rw [List.length_append, ic_append]
    exact h2
  · exact hbel.grown h3 (by omega) (fun g hg => by have := own_ge hown g hg; omega)

/-- The same, integers onto integers, Below carried, no more told. -/
theorem wpList_append_int {ops : Array Oper} {rest : List Oper} {o : Oper} {a : Act} {Q : Exit → Act → World → Prop} (hgd : o.guard = none) (s x : Operand) (t : TypeId)
    (ho : o.op = .call { callee := .builtin .append, args := #[s, x], argTypes := #[t, t] })
    (w0 : World) (B0 base : Nat) (e : TypeId) (k : IntKind) (bytes : Nat) (ht : P.underlying t = some (.slice e))
    (hi : (P.info? e).map (fun i => (i.zero, i.size, i.bytes)) = some (some (.int k 0), 1, bytes))
    (v : Value) (l : List Int) (hs : a.eval s = v) (hown : OwnI w base e k v l)
    (B : Nat) (A : Option Addr) (m c : Nat) (l' : List Int) (hx : a.eval x = .slice A m c) (hm : m = l'.length) (hr : RdI w B k A l')
    (hlen : l.length + l'.length ≤ 1099511627776) (hby : bytes ≤ 8) (hbel : Below B0 w0 w) (hB0 : B0 ≤ base) (hbw : base ≤ w.heap.size)
    (h : ∀ v' w', OwnI w' base e k v' (l ++ l') → Below B0 w0 w' → wpList P ops Q rest (a.put o.dst v') w') : wpList P ops Q (o :: rest) a w :=
  wpList_append_int2 w hgd s x t ho w0 B0 base e k bytes ht hi v l hs hown B A m c l' hx hm hr hlen hby hbel hB0 hbw fun v' w' h1 h2 _ _ => h v' w' h1 h2

/-- append(out, x) of one integer: x lies in a new block of its own. -/
theorem wpList_push_int {ops : Array Oper} {rest : List Oper} {o : Oper} {a : Act} {Q : Exit → Act → World → Prop} (hgd : o.guard = none) (s x : Operand) (t : TypeId)
    (ho : o.op = .call { callee := .builtin .append, args := #[s, x], argTypes := #[t, t] })
    (w0 : World) (B0 base : Nat) (e : TypeId) (k : IntKind) (bytes : Nat) (ht : P.underlying t = some (.slice e))
    (hi : (P.info? e).map (fun i => (i.zero, i.size, i.bytes)) = some (some (.int k 0), 1, bytes))
    (v : Value) (l : List Int) (hs : a.eval s = v) (hown : OwnI w base e k v l)
    (gs c : Nat) (y : Int) (hx : a.eval x = .slice (some ⟨gs, 0, none⟩) 1 c) (hgs : gs = w.heap.size)
    (hlen : l.length ≤ 1000000000000) (hby : bytes ≤ 8) (hbel : Below B0 w0 w) (hB0 : B0 ≤ base) (hbw : base ≤ w.heap.size)
    (h : ∀ v' w', OwnI w' base e k v' (l ++ [y]) → Below B0 w0 w' → wpList P ops Q rest (a.put o.dst v') w') : wpList P ops Q (o :: rest) a (w.alloc (.cells #[.int k y] e)) := by
  subst hgs
  exact wpList_append_int2 _ hgd s x t ho w0 B0 base e k bytes ht hi v l hs (hown.alloc _) _ _ _ _ [y] hx rfl (RdI.one w k y e) (by simp only [List.length_singleton]; omega) hby
    (hbel.alloc (by omega) _) hB0 (by simp; omega) fun v' w' h1 h2 _ _ => h v' w' h1 h2
end

end Go.Proofs.Ytbbflddhbamjbaa
