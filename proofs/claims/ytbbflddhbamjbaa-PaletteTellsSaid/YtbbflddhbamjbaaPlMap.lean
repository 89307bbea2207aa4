/- Maps from a colour (four numbers) that a call keeps. -/
import Derived.Test.YtbbflddhbamjbaaProg
import Derived.Test.YtbbflddhbamjbaaDat
import Derived.Maps.OwnOps
import Derived.WideKeyPair
set_option linter.unusedSimpArgs false
set_option linter.unusedVariables false
namespace Go.Proofs.Ytbbflddhbamjbaa
open Go.RowKit

/-- a colour as a value -/
def colV (k : List Int) : Value := .agg (ic .i64 k).toArray
def c64 (x : Int) : Prop := -9223372036854775808 ≤ x ∧ x ≤ 9223372036854775807
/-- a colour: four numbers -/
def Col (k : List Int) : Prop := k.length = 4 ∧ ∀ x ∈ k, c64 x

theorem lit_c64 {s : Int} (h : c64 s) : (Lit.int .i64 s).wf = true := by
  obtain ⟨h1, h2⟩ := h
  have e1 : IntKind.min .i64 = -9223372036854775808 := rfl
  have e2 : IntKind.max .i64 = 9223372036854775807 := rfl
  simp only [Lit.wf, e1, e2, Bool.and_eq_true, decide_eq_true_eq]
  exact ⟨h1, h2⟩
theorem col_arr : Go.WideMaps.ArrKey Try.prog 70 3 4 where
  hu := Try.underlying70
  plain := by kernel_rfl
  one := by kernel_rfl
  size := by kernel_rfl
theorem col_keyed : Go.Maps.Keyed Try.prog 70 := Go.Maps.Keyed.of_law col_arr.law
theorem types_pos : ∃ m, Try.prog.types.size = m + 1 := by
  have h : decide (0 < Try.prog.types.size) = true := by kernel_rfl
  have h2 := of_decide_eq_true h
  generalize Try.prog.types.size = n at h2
  exact ⟨n - 1, by omega⟩
theorem col_key {k : List Int} (h : Col k) : ∃ l, keyOf Try.prog 70 (colV k) = some l := by
  obtain ⟨h4, hb⟩ := h
  match k, h4 with
  | [a, b, c, d], _ =>
    have wa := lit_c64 (hb a (by simp))
    have wb := lit_c64 (hb b (by simp))
    have wc := lit_c64 (hb c (by simp))
    have wd := lit_c64 (hb d (by simp))
    have A := col_arr
    have hsz := types_pos
    have hkt := A.keyType hsz
    obtain ⟨m, hm⟩ := hsz
    have he := Try.underlying3
    refine ⟨.string (Go.keyBytes [.int .i64 a, .int .i64 b, .int .i64 c, .int .i64 d]), ?_⟩
    unfold keyOf
    simp only [A.hu]
    rw [if_pos (by simp [hkt, Value.formed, A.hu, A.size, colV, ic]), hm]
    unfold Program.keyLits
    simp only [A.hu, Value.cells, colV]
    rw [if_pos (by rw [A.size]; rfl), show List.range 4 = [0, 1, 2, 3] from rfl, List.mapM_cons, List.mapM_cons, List.mapM_cons, List.mapM_cons, List.mapM_nil]
    simp [ic, A.one, Program.keyLits, he, wa, wb, wc, wd]
theorem colV_inj {k k' : List Int} (h : colV k = colV k') : k = k' := by
  simp only [colV, Value.agg.injEq] at h
  have h2 : ic .i64 k = ic .i64 k' := by simpa using h
  have key : ∀ k k' : List Int, ic .i64 k = ic .i64 k' → k = k' := by
    intro k
    induction k with
    | nil => intro k' h; cases k' with
      | nil => rfl
      | cons b k' => simp [ic] at h
    | cons a k ih => intro k' h; cases k' with
      | nil => simp [ic] at h
      | cons b k' =>
        simp only [ic, List.map_cons, List.cons.injEq, Value.int.injEq, true_and] at h
        rw [h.1, ih k' h.2]
  exact key k k' h2

/-- Block b is a map that holds just these, each key once. -/
def MapC (w : World) (b : Nat) (l : List (List Int × Value)) : Prop :=
  ∃ es clock, w.heap[b]? = some (.map es clock) ∧ es.toList.map (fun e => (e.key, e.val)) = l.map (fun p => (colV p.1, p.2)) ∧ (∀ p ∈ l, Col p.1) ∧ (l.map (·.1)).Nodup
def mget (l : List (List Int × Value)) (k : List Int) : Option Value := (l.find? fun p => decide (p.1 = k)).map (·.2)
theorem mget_some {l : List (List Int × Value)} (hn : (l.map (·.1)).Nodup) {p : List Int × Value} (hp : p ∈ l) : mget l p.1 = some p.2 := by
  induction l with
  | nil => cases hp
  | cons q l ih =>
    rw [List.map_cons, List.nodup_cons] at hn
    rcases List.mem_cons.1 hp with rfl | hp
    · simp [mget]
    · have hne : q.1 ≠ p.1 := fun e => hn.1 (by rw [e]; exact List.mem_map.2 ⟨p, hp, rfl⟩)
      have := ih hn.2 hp
      unfold mget at this ⊢
      rw [List.find?_cons_of_neg (by simpa using hne)]
      exact this
theorem mget_none {l : List (List Int × Value)} {k : List Int} : mget l k = none ↔ ∀ p ∈ l, p.1 ≠ k := by
  simp [mget]
section
variable {w w' : World} {b : Nat} {M : Nat → Prop} {l : List (List Int × Value)}
theorem MapC.made (w : World) : MapC (w.alloc (.map #[] 0)) w.heap.size [] := ⟨#[], 0, heap_alloc_new w _, rfl, (fun p hp => by cases hp), List.nodup_nil⟩
theorem MapC.lt (h : MapC w b l) : b < w.heap.size := by
  obtain ⟨es, clock, hb, _⟩ := h
  exact (Array.getElem?_eq_some_iff.1 hb).1
theorem MapC.same (h : MapC w b l) (e : w'.heap[b]? = w.heap[b]?) : MapC w' b l := by
  obtain ⟨es, clock, hb, r⟩ := h
  exact ⟨es, clock, e.trans hb, r⟩
theorem MapC.below {C : Nat} (h : MapC w b l) (hb : Below C w w') (hC : b < C) : MapC w' b l := h.same (hb.block b hC)
theorem MapC.run (h : MapC w b l) {k : List Int} (hk : Col k) {es : Array MapEntry} {clock : Nat} (hb : w.heap[b]? = some (.map es clock)) (W : World) :
    (mget l k = none ∧ (Instr.findKey 70 (colV k) es.toList).run Try.prog W = .ok none W) ∨ ∃ v j, mget l k = some v ∧ (Instr.findKey 70 (colV k) es.toList).run Try.prog W = .ok (some (j, v)) W := by
  obtain ⟨es', clock', hb', he, hc, hn⟩ := h
  rw [hb] at hb'
  injection hb' with hb'
  injection hb' with h1 h2
  subst h1
  obtain ⟨lk, hkey⟩ := col_key hk
  have hmem : ∀ e ∈ es.toList, ∃ p ∈ l, e.key = colV p.1 ∧ e.val = p.2 := fun e hm => by
    have : (e.key, e.val) ∈ l.map (fun p => (colV p.1, p.2)) := by rw [← he]; exact List.mem_map.2 ⟨e, hm, rfl⟩
    obtain ⟨p, hp, e1⟩ := List.mem_map.1 this
    simp only [Prod.mk.injEq] at e1
    exact ⟨p, hp, e1.1.symm, e1.2.symm⟩
  have hall : ∀ e ∈ es.toList, ∃ lt, keyOf Try.prog 70 e.key = some lt := fun e hm => by
    obtain ⟨p, hp, e1, _⟩ := hmem e hm
    rw [e1]; exact col_key (hc p hp)
  rcases col_keyed.find W hkey es.toList hall with ⟨h1, h2⟩ | ⟨j, e0, h1, h2, h3⟩
  · refine .inl ⟨mget_none.2 fun p hp e => ?_, h1⟩
    have : (colV p.1, p.2) ∈ es.toList.map (fun e => (e.key, e.val)) := by rw [he]; exact List.mem_map.2 ⟨p, hp, rfl⟩
    obtain ⟨x, hx, e1⟩ := List.mem_map.1 this
    simp only [Prod.mk.injEq] at e1
    exact h2 x hx (by rw [e1.1, e])
  · obtain ⟨p, hp, e1, e2⟩ := hmem e0 (List.mem_of_getElem? h2)
    have hk2 : p.1 = k := colV_inj (e1.symm.trans h3)
    refine .inr ⟨e0.val, j, ?_, h1⟩
    rw [← hk2, e2]
    exact mget_some hn hp
/-- m[k] -/
theorem MapC.look (h : MapC w b l) {t e : TypeId} (ht : Try.prog.underlying t = some (.map 70 e)) {z : Value} (hz : ∀ W, (zeroValue e).run Try.prog W = .ok z W) {k : List Int} (hk : Col k) (W : World) (hW : W.heap[b]? = w.heap[b]?) :
    (Instr.lookup t (.map (some b)) (colV k) false).run Try.prog W = .ok ((mget l k).getD z) W := by
  obtain ⟨lk, hkey⟩ := col_key hk
  have h0 := h
  obtain ⟨es, clock, hb, _⟩ := h0
  rcases h.run hk hb W with ⟨h1, h2⟩ | ⟨v, j, h1, h2⟩
  · simp [Instr.lookup, run_underlying ht, Go.MapKept.run_getObj_map (hW.trans hb), col_keyed.check W _ hkey, h2, hz, h1, Result.andThen]
  · simp [Instr.lookup, run_underlying ht, Go.MapKept.run_getObj_map (hW.trans hb), col_keyed.check W _ hkey, h2, h1, Result.andThen]
/-- v, ok := m[k] -/
theorem MapC.look2 (h : MapC w b l) {t e : TypeId} (ht : Try.prog.underlying t = some (.map 70 e)) {z : Value} (hz : ∀ W, (zeroValue e).run Try.prog W = .ok z W) {k : List Int} (hk : Col k) (W : World) (hW : W.heap[b]? = w.heap[b]?) :
    (Instr.lookup t (.map (some b)) (colV k) true).run Try.prog W = .ok (.tuple #[(mget l k).getD z, .bool (mget l k).isSome]) W := by
  obtain ⟨lk, hkey⟩ := col_key hk
  have h0 := h
  obtain ⟨es, clock, hb, _⟩ := h0
  rcases h.run hk hb W with ⟨h1, h2⟩ | ⟨v, j, h1, h2⟩
  · simp [Instr.lookup, run_underlying ht, Go.MapKept.run_getObj_map (hW.trans hb), col_keyed.check W _ hkey, h2, hz, h1, Result.andThen]
  · simp [Instr.lookup, run_underlying ht, Go.MapKept.run_getObj_map (hW.trans hb), col_keyed.check W _ hkey, h2, h1, Result.andThen]
/-- m[k] = v, where none is there -/
theorem MapC.put (h : MapC w b l) {t e : TypeId} (ht : Try.prog.underlying t = some (.map 70 e)) {k : List Int} (hk : Col k) (v : Value) (hne : ∀ p ∈ l, p.1 ≠ k) :
    ∃ w', (Instr.mapUpdate t (.map (some b)) (colV k) v).run Try.prog w = .ok () w' ∧ MapC w' b (l ++ [(k, v)]) ∧ w.grownBy w' (some b) := by
  obtain ⟨lk, hkey⟩ := col_key hk
  have hlt := h.lt
  have h0 := h
  obtain ⟨es, clock, hb, he, hc, hn⟩ := h0
  rcases h.run hk hb w with ⟨h1, h2⟩ | ⟨v', j, h1, h2⟩
  · have hg : w.grownBy (Go.ChangeMaps.setBlock w b (.map (es.push ⟨colV k, v, clock⟩) (clock + 1))) (some b) :=
      ⟨rfl, rfl, rfl, by simp [Go.ChangeMaps.setBlock], fun i hi hn => by
        simp only [Go.ChangeMaps.setBlock]
        rw [Array.getElem?_setIfInBounds]
        split
        · rename_i h; exact absurd (by rw [h]) hn
        · rfl⟩
    refine ⟨_, ?_, ⟨es.push ⟨colV k, v, clock⟩, clock + 1, ?_, by simp [he], fun p hp => ?_, ?_⟩, hg⟩
    · simp [Instr.mapUpdate, run_underlying ht, Go.MapKept.run_getObj_map hb, col_keyed.check w false hkey, h2, Go.MapKept.run_setObj_map _ hb, Result.andThen, Go.ChangeMaps.setBlock]
    · simp only [Go.ChangeMaps.setBlock]
      rw [Array.getElem?_setIfInBounds, if_pos rfl, if_pos hlt]
    · rcases List.mem_append.1 hp with hp | hp
      · exact hc p hp
      · rw [List.mem_singleton] at hp; subst hp; exact hk
    · rw [List.map_append, List.nodup_append]
      refine ⟨hn, by simp, fun a ha c hc' => ?_⟩
      obtain ⟨p, hp, rfl⟩ := List.mem_map.1 ha
      simp at hc'
      subst hc'
      exact hne p hp
  · exfalso
    rw [mget_none.2 hne] at h1
    cases h1
end

/-- The store at the operation. -/
theorem wpList_put_c {w : World} {ops : Array Oper} {rest : List Oper} {o : Oper} {a : Act} {Q : Exit → Act → World → Prop} (hgd : o.guard = none) {t e : TypeId} (ht : Try.prog.underlying t = some (.map 70 e)) (m x v : Operand) (hop : o.op = Op.mapUpdate t m x v)
    {b : Nat} {l : List (List Int × Value)} (hm : a.eval m = .map (some b)) (k : List Int) (hx : a.eval x = colV k) (u : Value) (hv : a.eval v = u) (h : MapC w b l) (hk : Col k) (hne : ∀ p ∈ l, p.1 ≠ k)
    (hK : ∀ w', MapC w' b (l ++ [(k, u)]) → w.grownBy w' (some b) → wpList Try.prog ops Q rest (a.put o.dst undef) w') : wpList Try.prog ops Q (o :: rest) a w := by
  refine wpList_plain hgd fun K' hK' => ?_
  obtain ⟨w', hrun, r1, r2⟩ := h.put ht hk u hne
  unfold Oper.wp
  simp [execOp, hop, hm, hx, hv, hrun, Result.andThen]
  exact hK' _ _ (hK w' r1 r2)
end Go.Proofs.Ytbbflddhbamjbaa
