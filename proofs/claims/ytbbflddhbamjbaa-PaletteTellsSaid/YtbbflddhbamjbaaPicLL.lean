/- Own slices of own slices: the rows that a call made, and the row of their headers. -/
import Derived.Test.YtbbflddhbamjbaaLib
set_option linter.unusedSimpArgs false
set_option linter.unusedVariables false
namespace Go.Proofs.Ytbbflddhbamjbaa
open Go.RowKit

/-- v is the call's own slice (element type eS) of the slices hs, each the call's own (element type e), no two in one block. -/
def OwnLL (w : World) (base : Nat) (eS e : TypeId) (k : IntKind) (v : Value) (ls : List (List Int)) : Prop :=
  ∃ hs : List Value, w.ownsRow base eS 1 v ls.length hs ∧ (∀ j, j < ls.length → ∃ A c, hs[j]? = some (.slice A (ls.getD j []).length c) ∧ OwnI w base e k (.slice A (ls.getD j []).length c) (ls.getD j [])) ∧
    (∀ (i j : Nat) (u u' : Value), i < j → hs[i]? = some u → hs[j]? = some u' → u.ownBlock = none ∨ u.ownBlock ≠ u'.ownBlock)

section
variable {w w' : World} {base : Nat} {eS e : TypeId} {k : IntKind} {v : Value} {ls : List (List Int)}
theorem OwnLL.nil_ (w : World) (base : Nat) (eS e : TypeId) (k : IntKind) : OwnLL w base eS e k (.slice none 0 0) [] :=
  ⟨[], World.ownsRow_nil w base eS 1, fun j hj => absurd hj (by simp), fun i j u u' _ h => by simp at h⟩
theorem OwnLL.form (h : OwnLL w base eS e k v ls) : ∃ A c, v = .slice A ls.length c ∧ ls.length ≤ c ∧ RdLL w w.heap.size k A ls ∧ (∀ ad, A = some ad → base ≤ ad.block ∧ ad.block < w.heap.size) := by
  obtain ⟨hs, ho, hp, _⟩ := h
  rcases ho.2 with ⟨rfl, h0⟩ | ⟨g, cap, cur, rfl, hb, hg, hn, _⟩
  · have : ls = [] := List.eq_nil_of_length_eq_zero h0
    subst this
    exact ⟨none, 0, rfl, Nat.le_refl _, fun j hj => absurd hj (by simp), fun _ h => by cases h⟩
  · have hlt : g < w.heap.size := (Array.getElem?_eq_some_iff.1 hg).1
    refine ⟨some ⟨g, 0, none⟩, cap, rfl, hn, fun j hj => ?_, fun ad h => by injection h with h; subst h; exact ⟨hb, hlt⟩⟩
    obtain ⟨A, c, hj', hown⟩ := hp j hj
    obtain ⟨A2, c2, hv, hc, hr, _⟩ := hown.form
    simp only [Value.slice.injEq] at hv
    obtain ⟨rfl, _, rfl⟩ := hv
    refine ⟨_, A, c, rfl, hlt, ?_, hc, hr⟩
    exact ho.cells (g := g) rfl j _ hj'
theorem OwnLL.below (h : OwnLL w base eS e k v ls) (hb : Below w.heap.size w w') : OwnLL w' base eS e k v ls := by
  obtain ⟨hs, ho, hp, hd⟩ := h
  refine ⟨hs, World.ownsRow.kept ho (row := none) ⟨hb.os, hb.tape, hb.output, hb.size, fun j hj _ => hb.block j hj⟩ (by cases v.ownBlock <;> simp), fun j hj => ?_, hd⟩
  obtain ⟨A, c, h1, h2⟩ := hp j hj
  exact ⟨A, c, h1, h2.below hb⟩

theorem own_types {base' : Nat} {e' : TypeId} {s s' n n' : Nat} {v' : Value} {xs xs' : List Value} (h : w.ownsRow base e s v n xs) (h' : w.ownsRow base' e' s' v' n' xs') (hne : e ≠ e') : v.ownBlock = none ∨ v.ownBlock ≠ v'.ownBlock := by
  rcases h.2 with ⟨rfl, _⟩ | ⟨g, cap, cur, rfl, _, hg, _⟩
  · exact .inl rfl
  · refine .inr ?_
    rcases h'.2 with ⟨rfl, _⟩ | ⟨g', cap', cur', rfl, _, hg', _⟩
    · simp [Value.ownBlock]
    · intro hb
      simp only [Value.ownBlock, Option.some.injEq] at hb
      subst hb
      rw [hg] at hg'
      injection hg' with hg'
      injection hg' with _ ht
      exact hne ht

theorem OwnI.lo {A : Option Addr} {n c : Nat} {l : List Int} (h : OwnI w base e k (.slice A n c) l) : ∀ ad, A = some ad → base ≤ ad.block := fun ad hA => by
  subst hA
  exact (World.ownsRow.lt h ad.block rfl).1
theorem below_undrew (h : Below w.drew.heap.size w.drew w') : Below w.heap.size w w' := ⟨h.os, h.tape, h.output, h.size, h.block⟩
theorem Blk.drew {g : Nat} {t : TypeId} {cs : Array Value} (h : Blk w g t cs) : Blk w.drew g t cs := h

/-- make([]int, n), make([]int, 0, n). -/
theorem madeCells_int (k : IntKind) (n : Nat) : madeCells #[.int k 0] n = Array.replicate n (.int k 0) := by
  apply Array.ext
  · simp [size_madeCells]
  · intro i h1 h2
    simp [madeCells, Nat.mod_one]
theorem run_make_ints {P : Program} (W : World) (t : TypeId) {bytes : Nat} (ht : P.underlying t = some (.slice e)) (hi : (P.info? e).map (fun i => (i.zero, i.size, i.bytes)) = some (some (.int k 0), 1, bytes)) (hby : bytes ≤ 8) (kl : IntKind) (l n : Nat) (hl : l ≤ n) (hn : n ≤ 1000000000) :
    (Instr.makeSlice t (.int kl (l : Int)) (.int kl (n : Int))).run P W = .ok (.slice (some ⟨W.heap.size, 0, none⟩) l n) (W.alloc (.cells (Array.replicate n (.int k 0)) e)) := by
  obtain ⟨i0, hi0, hz0, hz1, hz2⟩ := info_parts hi
  have hb : (i0.bytes : Int) * (n : Int) ≤ 281474976710656 := by
    have h : i0.bytes * n ≤ 8 * 1000000000 := Nat.mul_le_mul (by omega) hn
    have h2 : ((i0.bytes * n : Nat) : Int) ≤ 281474976710656 := by omega
    rwa [Int.natCast_mul] at h2
  have hr := run_make (P := P) W t e i0 (.int k 0) ht hi0 hz0 kl kl l n (by omega) (by omega) hb (by omega)
  simp only [Int.toNat_natCast, hz1, Nat.mul_one] at hr
  rw [hr, show (Value.int k 0).cells = #[.int k 0] from rfl, madeCells_int]
theorem OwnI.made (W : World) (hb : base ≤ W.heap.size) {n : Nat} (hn : n ≤ 1000000000) : OwnI (W.alloc (.cells (Array.replicate n (.int k 0)) e)) base e k (.slice (some ⟨W.heap.size, 0, none⟩) (List.replicate n (0 : Int)).length n) (List.replicate n 0) := by
  have h := World.ownsRow_lit (base := base) (e := e) (size := 1) W (Array.replicate n (.int k 0)) n hb (by simp only [maxLen]; omega) (by simp)
  unfold OwnI
  rw [List.length_replicate]
  simpa [ic] using h
theorem OwnI.room (W : World) (hb : base ≤ W.heap.size) {n : Nat} (hn : n ≤ 1000000000) : OwnI (W.alloc (.cells (Array.replicate n (.int k 0)) e)) base e k (.slice (some ⟨W.heap.size, 0, none⟩) 0 n) [] :=
  World.ownsRow_made W _ n hb (by simp only [maxLen]; omega) (by simp)
/-- A block of four cells, cell by cell. -/
theorem Blk.four {g : Nat} {t : TypeId} {a b c d : Value} (h : Blk w g t #[a, b, c, d]) : w.cell? ⟨g, 0, none⟩ = some a ∧ w.cell? ⟨g, 1, none⟩ = some b ∧ w.cell? ⟨g, 2, none⟩ = some c ∧ w.cell? ⟨g, 3, none⟩ = some d ∧
    w.frozen? ⟨g, 0, none⟩ = false ∧ w.frozen? ⟨g, 1, none⟩ = false ∧ w.frozen? ⟨g, 2, none⟩ = false ∧ w.frozen? ⟨g, 3, none⟩ = false :=
  ⟨h.cell 0, h.cell 1, h.cell 2, h.cell 3, h.frozen 0, h.frozen 1, h.frozen 2, h.frozen 3⟩
theorem Blk.new1 (w : World) (o : Obj) (t : TypeId) (cs : Array Value) : Blk ((w.alloc o).alloc (.cells cs t)) (w.heap.size + 1) t cs := by
  have h := Blk.new (w.alloc o) t cs
  simpa using h
theorem Blk.new2 (w : World) (o o2 : Obj) (t : TypeId) (cs : Array Value) : Blk (((w.alloc o).alloc o2).alloc (.cells cs t)) (w.heap.size + 1 + 1) t cs := by
  have h := Blk.new ((w.alloc o).alloc o2) t cs
  simpa using h

/-- append of one header: the new plane is the call's own, in a block of no other. -/
theorem run_push_ll {P : Program} (w : World) (t ty : TypeId) (base : Nat) (eS e : TypeId) (k : IntKind) (bytes : Nat) (ht : P.underlying t = some (.slice eS))
    (hi : (P.info? eS).map (fun i => (i.zero, i.size, i.bytes)) = some (some (.slice none 0 0), 1, bytes)) (hby : bytes ≤ 64) (hne : e ≠ eS)
    (v : Value) (ls : List (List Int)) (w0 : World) (h0 : OwnLL w0 base eS e k v ls) (hbel : Below w0.heap.size w0 w) (A : Option Addr) (c : Nat) (l : List Int) (hl : OwnI w base e k (.slice A l.length c) l)
    (hlo : ∀ ad, A = some ad → w0.heap.size ≤ ad.block)
    (hlen : ls.length ≤ 1000000) (hbase : base ≤ w.heap.size) (cc : Nat) :
    ∃ v' w', (Builtin.append_ #[t, t] ty #[v, .slice (some ⟨w.heap.size, 0, none⟩) 1 cc]).run P (w.alloc (.cells #[.slice A l.length c] eS)) = .ok v' w' ∧ OwnLL w' base eS e k v' (ls ++ [l]) ∧
      (w.alloc (.cells #[.slice A l.length c] eS)).grownBy w' v.ownBlock := by
  obtain ⟨hs, ho0, hp0, hd⟩ := h0
  have ho := World.ownsRow.kept ho0 (w' := w) (row := none) ⟨hbel.os, hbel.tape, hbel.output, hbel.size, fun j hj _ => hbel.block j hj⟩ (by cases v.ownBlock <;> simp)
  have hp : ∀ j, j < ls.length → ∃ A c, hs[j]? = some (.slice A (ls.getD j []).length c) ∧ OwnI w base e k (.slice A (ls.getD j []).length c) (ls.getD j []) := fun j hj => by
    obtain ⟨A, c, h1, h2⟩ := hp0 j hj
    exact ⟨A, c, h1, h2.below hbel⟩
  obtain ⟨i0, hi0, hz0, hz1, hz2⟩ := info_parts hi
  have hrd : Rd (w.alloc (.cells #[.slice A l.length c] eS)) (w.heap.size + 1) 1 (some ⟨w.heap.size, 0, none⟩) 1 [.slice A l.length c] := by
    refine ⟨rfl, fun _ => ⟨_, rfl, by simp, fun j u hu => ?_⟩⟩
    match j, hu with
    | 0, hu =>
      simp at hu
      subst hu
      rw [add_mk, cell_of_row _ w.heap.size (0 + 0) #[.slice A l.length c] eS (0, 0) (heap_alloc_new w _)]
      rfl
    | j + 1, hu => simp at hu
  obtain ⟨v', w', hrun, h2, h3, h4⟩ := run_append_rd (P := P) (w.alloc (.cells #[.slice A l.length c] eS)) base t ty eS i0 (.slice none 0 0) 1 bytes ht hi0 hz0 hz1 hz2 rfl (by omega) v ls.length hs (ho.alloc _) (w.heap.size + 1) _ 1 cc
    [.slice A l.length c] hrd (by simp [Value.oneCell']) (by simp only [maxLen]; omega) (by
      calc (ls.length + 1) * bytes ≤ 1000001 * 64 := Nat.mul_le_mul (by omega) hby
        _ ≤ 140737488355328 := by omega) (by simp; omega)
  have hkeep : ∀ (x : Value) (y : List Int), OwnI w base e k x y → OwnI w' base e k x y := fun x y hx => (hx.alloc _).kept h3 (own_types hx ho hne)
  refine ⟨v', w', hrun, ⟨hs ++ [.slice A l.length c], by rw [List.length_append]; exact h2, fun j hj => ?_, fun i j u u' hij hu hu' => ?_⟩, h3⟩
  · have hlh : hs.length = ls.length := by have := ho.1; omega
    rw [List.length_append, List.length_singleton] at hj
    by_cases hjl : j < ls.length
    · obtain ⟨A', c', h5, h6⟩ := hp j hjl
      have e1 : (ls ++ [l]).getD j [] = ls.getD j [] := by simp [List.getD, List.getElem?_append_left hjl]
      rw [e1]
      exact ⟨A', c', by rw [List.getElem?_append_left (by omega)]; exact h5, hkeep _ _ h6⟩
    · have hje : j = ls.length := by omega
      subst hje
      have e1 : (ls ++ [l]).getD ls.length [] = l := by simp [List.getD]
      rw [e1]
      exact ⟨A, c, by rw [← hlh]; simp, hkeep _ _ hl⟩
  · have hlh : hs.length = ls.length := by have := ho.1; omega
    by_cases hjl : j < hs.length
    · rw [List.getElem?_append_left hjl] at hu'
      rw [List.getElem?_append_left (by omega)] at hu
      exact hd i j u u' hij hu hu'
    · have hje : j = hs.length := by
        have := (List.getElem?_eq_some_iff.1 hu').1
        rw [List.length_append, List.length_singleton] at this
        omega
      subst hje
      rw [List.getElem?_append_left hij] at hu
      simp at hu'
      subst hu'
      obtain ⟨A', c', h5, h6⟩ := hp0 i (by omega)
      rw [h5] at hu
      injection hu with hu
      subst hu
      cases A' with
      | none => exact .inl rfl
      | some ad =>
        refine .inr fun hb => ?_
        have h7 := (World.ownsRow.lt h6 ad.block rfl).2
        cases A with
        | none => simp [Value.ownBlock] at hb
        | some ad2 =>
          have h8 := hlo ad2 rfl
          simp only [Value.ownBlock, Option.some.injEq] at hb
          omega
theorem OwnLL.far (h : OwnLL w base eS e k v ls) {a : Addr} (ha : a.block < base) (u : Value) : OwnLL (w.setCell a u) base eS e k v ls := by
  obtain ⟨hs, ho, hp, hd⟩ := h
  refine ⟨hs, ownsRow_setCell_below ho ha u, fun j hj => ?_, hd⟩
  obtain ⟨A, c, h1, h2⟩ := hp j hj
  exact ⟨A, c, h1, h2.far ha u⟩
theorem OwnLL.base_ {base' : Nat} (h : OwnLL w base eS e k v ls) (hb : base' ≤ base) : OwnLL w base' eS e k v ls := by
  obtain ⟨hs, ho, hp, hd⟩ := h
  refine ⟨hs, ?_, fun j hj => ?_, hd⟩
  · obtain ⟨h1, h2⟩ := ho
    refine ⟨h1, ?_⟩
    rcases h2 with h2 | ⟨g, cap, cur, hv, hg, r⟩
    · exact .inl h2
    · exact .inr ⟨g, cap, cur, hv, by omega, r⟩
  · obtain ⟨A, c, h1, h2⟩ := hp j hj
    exact ⟨A, c, h1, h2.base_ hb⟩
theorem OwnLL.own_ge (h : OwnLL w base eS e k v ls) : ∀ g, v.ownBlock = some g → base ≤ g := by
  obtain ⟨hs, ho, _, _⟩ := h
  exact fun g hg => (World.ownsRow.lt ho g hg).1

/-- The append of one header as a step of a region that draws, and as an operation behind others. What lies below 'base' is kept. -/
theorem step_push_ll {P : Program} {ops : Array Oper} {o : Oper} {a : Act} {K : Act → World → Prop} {E : Prop} {Q : Exit → Act → World → Prop} (hgd : o.guard = none) (s x : Operand) (t : TypeId)
    (ho : o.op = .call { callee := .builtin .append, args := #[s, x], argTypes := #[t, t] })
    (w : World) (base : Nat) (eS e : TypeId) (k : IntKind) (bytes : Nat) (ht : P.underlying t = some (.slice eS))
    (hi : (P.info? eS).map (fun i => (i.zero, i.size, i.bytes)) = some (some (.slice none 0 0), 1, bytes)) (hby : bytes ≤ 64) (hne : e ≠ eS)
    (v : Value) (hs : a.eval s = v) (ls : List (List Int)) (w0 : World) (h0 : OwnLL w0 base eS e k v ls) (hbel : Below w0.heap.size w0 w)
    (gs cc : Nat) (hx : a.eval x = .slice (some ⟨gs, 0, none⟩) 1 cc) (hgs : gs = w.heap.size)
    (A : Option Addr) (n c : Nat) (l : List Int) (hn : n = l.length) (hl : OwnI w base e k (.slice A l.length c) l)
    (hlo : ∀ ad, A = some ad → w0.heap.size ≤ ad.block) (hlen : ls.length ≤ 1000000) (hbase : base ≤ w.heap.size)
    (h : ∀ v' w', OwnLL w' base eS e k v' (ls ++ [l]) → Below base w w' → K (a.put o.dst v') w') : if Region.wanted o (yielded ops a.tmps) = true then Oper.wp P o a (w.alloc (.cells #[.slice A n c] eS)) K Q else E := by
  subst hgs hn
  obtain ⟨v', w', hrun, h2, h3⟩ := run_push_ll (P := P) w t o.type base eS e k bytes ht hi hby hne v ls w0 h0 hbel A c l hl hlo hlen hbase cc
  have hw : Region.wanted o (yielded ops a.tmps) = true := by simp [Region.wanted, hgd]
  rw [if_pos hw]
  unfold Oper.wp execOp
  simp only [ho, resolve, invoke, builtin, Sem.run_bind, Sem.run_pure, Result.andThen_ok, List.map_toArray, List.map_cons, List.map_nil, hs, hx, hrun]
  exact h v' w' h2 (((Below.refl base w).alloc hbase _).grown h3 (by simp; omega) (fun g hg => by have := h0.own_ge g hg; omega))

theorem wpList_push_ll {P : Program} {ops : Array Oper} {rest : List Oper} {o : Oper} {a : Act} {Q : Exit → Act → World → Prop} (hgd : o.guard = none) (s x : Operand) (t : TypeId)
    (ho : o.op = .call { callee := .builtin .append, args := #[s, x], argTypes := #[t, t] })
    (w : World) (base : Nat) (eS e : TypeId) (k : IntKind) (bytes : Nat) (ht : P.underlying t = some (.slice eS))
    (hi : (P.info? eS).map (fun i => (i.zero, i.size, i.bytes)) = some (some (.slice none 0 0), 1, bytes)) (hby : bytes ≤ 64) (hne : e ≠ eS)
    (v : Value) (hs : a.eval s = v) (ls : List (List Int)) (w0 : World) (h0 : OwnLL w0 base eS e k v ls) (hbel : Below w0.heap.size w0 w)
    (gs cc : Nat) (hx : a.eval x = .slice (some ⟨gs, 0, none⟩) 1 cc) (hgs : gs = w.heap.size)
    (A : Option Addr) (n c : Nat) (l : List Int) (hn : n = l.length) (hl : OwnI w base e k (.slice A l.length c) l)
    (hlo : ∀ ad, A = some ad → w0.heap.size ≤ ad.block) (hlen : ls.length ≤ 1000000) (hbase : base ≤ w.heap.size)
    (h : ∀ v' w', OwnLL w' base eS e k v' (ls ++ [l]) → Below base w w' → wpList P ops Q rest (a.put o.dst v') w') : wpList P ops Q (o :: rest) a (w.alloc (.cells #[.slice A n c] eS)) := by
  subst hgs hn
  obtain ⟨v', w', hrun, h2, h3⟩ := run_push_ll (P := P) w t o.type base eS e k bytes ht hi hby hne v ls w0 h0 hbel A c l hl hlo hlen hbase cc
  refine wpList_plain hgd fun _ hK => ?_
  unfold Oper.wp execOp
  simp only [ho, resolve, invoke, builtin, Sem.run_bind, Sem.run_pure, Result.andThen_ok, List.map_toArray, List.map_cons, List.map_nil, hs, hx, hrun]
  exact hK _ _ (h v' w' h2 (((Below.refl base w).alloc hbase _).grown h3 (by simp; omega) (fun g hg => by have := h0.own_ge g hg; omega)))
end
end Go.Proofs.Ytbbflddhbamjbaa
