/- Queues of packets in memory, each with a slice of its own that grows in place. Nothing of the program is named here. -/
import Derived.Test.YtnflhogjonlnmaaQu
import Derived.Test.YtnflhogjonlnmaaOwnS
set_option linter.unusedSimpArgs false
set_option linter.unusedVariables false
namespace Go.Proofs.Ytnflhogjonlnmaa
open Go.RowKit

def qCells : List Value → List Qu → List Value
  | v :: vs, q :: qs => v :: .int .i64 q.last :: .bool q.ended :: qCells vs qs
  | _, _ => []
abbrev vAt (vs : List Value) (i : Nat) : Value := vs.getD i (.slice none 0 0)
theorem qCells_get : ∀ {vs : List Value} {qs : List Qu} {i : Nat}, vs.length = qs.length → (h : i < qs.length) →
    (qCells vs qs)[i * 3]? = some (vAt vs i) ∧ (qCells vs qs)[i * 3 + 1]? = some (.int .i64 qs[i].last) ∧ (qCells vs qs)[i * 3 + 2]? = some (.bool qs[i].ended)
  | [], [], i, _, h => absurd h (by simp)
  | v :: vs, q :: qs, 0, _, _ => ⟨rfl, rfl, rfl⟩
  | v :: vs, q :: qs, i + 1, hl, h => by
    have ih := qCells_get (vs := vs) (qs := qs) (i := i) (by simpa using hl) (by simpa using h)
    rw [show (i + 1) * 3 = i * 3 + 1 + 1 + 1 by omega]
    simpa [qCells, vAt] using ih
theorem qCells_set0 : ∀ {vs : List Value} {qs : List Qu} {i : Nat} (v : Value) (l : List Pk), vs.length = qs.length → (h : i < qs.length) →
    (qCells vs qs).set (i * 3) v = qCells (vs.set i v) (qs.set i ⟨l, qs[i].last, qs[i].ended⟩)
  | [], [], i, _, _, _, h => absurd h (by simp)
  | v :: vs, q :: qs, 0, _, _, _, _ => rfl
  | v :: vs, q :: qs, i + 1, u, l, hl, h => by
    have ih := qCells_set0 (vs := vs) (qs := qs) (i := i) u l (by simpa using hl) (by simpa using h)
    rw [show (i + 1) * 3 = i * 3 + 1 + 1 + 1 by omega]
    simpa [qCells] using ih
theorem qCells_set1 : ∀ {vs : List Value} {qs : List Qu} {i : Nat} (n : Int), vs.length = qs.length → (h : i < qs.length) →
    (qCells vs qs).set (i * 3 + 1) (.int .i64 n) = qCells vs (qs.set i ⟨qs[i].wait, n, qs[i].ended⟩)
  | [], [], i, _, _, h => absurd h (by simp)
  | v :: vs, q :: qs, 0, _, _, _ => rfl
  | v :: vs, q :: qs, i + 1, n, hl, h => by
    have ih := qCells_set1 (vs := vs) (qs := qs) (i := i) n (by simpa using hl) (by simpa using h)
    rw [show (i + 1) * 3 + 1 = i * 3 + 1 + 1 + 1 + 1 by omega]
    simpa [qCells] using ih
theorem qCells_set2 : ∀ {vs : List Value} {qs : List Qu} {i : Nat} (b : Bool), vs.length = qs.length → (h : i < qs.length) →
    (qCells vs qs).set (i * 3 + 2) (.bool b) = qCells vs (qs.set i ⟨qs[i].wait, qs[i].last, b⟩)
  | [], [], i, _, _, h => absurd h (by simp)
  | v :: vs, q :: qs, 0, _, _, _ => rfl
  | v :: vs, q :: qs, i + 1, b, hl, h => by
    have ih := qCells_set2 (vs := vs) (qs := qs) (i := i) b (by simpa using hl) (by simpa using h)
    rw [show (i + 1) * 3 + 2 = i * 3 + 2 + 1 + 1 + 1 by omega]
    simpa [qCells] using ih
theorem vAt_set {vs : List Value} {i j : Nat} {v : Value} (h : i < vs.length) : vAt (vs.set i v) j = if i = j then v else vAt vs j := by
  simp only [vAt, List.getD_eq_getElem?_getD, List.getElem?_set]
  by_cases hij : i = j
  · subst hij; simp [h]
  · simp [hij]

/-- The queues at block gq; F: the blocks that may be written, D: those of the packets' bytes, ex: another block of the owner's. -/
structure QsM (w : World) (TQ TP : TypeId) (F D : Nat → Prop) (ex gq : Nat) (vs : List Value) (qs : List Qu) : Prop where
  len : vs.length = qs.length
  blk : Blk w gq TQ (qCells vs qs).toArray
  own : ∀ i (h : i < qs.length), OwnG PkR 6 TP w 0 D (vAt vs i) qs[i].wait
  inF : ∀ i, i < qs.length → ∀ b, (vAt vs i).ownBlock = some b → F b ∧ b ≠ gq ∧ b ≠ ex
  dis : ∀ i j, i < qs.length → j < qs.length → i ≠ j → ∀ b, (vAt vs i).ownBlock = some b → (vAt vs j).ownBlock ≠ some b
  gF : F gq ∧ F ex ∧ gq ≠ ex
  Flt : ∀ b, F b → b < w.heap.size
  Dlt : ∀ b, D b → b < w.heap.size ∧ ¬ F b

section
variable {w w1 : World} {TQ TP : TypeId} {M F F' D D' : Nat → Prop} {ex gq : Nat} {vs : List Value} {qs : List Qu}
theorem QsM.keep (h : QsM w TQ TP F D ex gq vs qs) (hm : Mod M w w1) (hF : ∀ b, F b → ¬ M b) (hD : ∀ b, D b → ¬ M b) : QsM w1 TQ TP F D ex gq vs qs where
  len := h.len
  blk := h.blk.mod hm (hF _ h.gF.1)
  own := fun i hi => (h.own i hi).keep PkR.good hm (fun b hb _ => hD b hb) (fun b hb => hF b (h.inF i hi b hb).1)
  inF := h.inF
  dis := h.dis
  gF := h.gF
  Flt := fun b hb => Nat.lt_of_lt_of_le (h.Flt b hb) hm.size
  Dlt := fun b hb => ⟨Nat.lt_of_lt_of_le (h.Dlt b hb).1 hm.size, (h.Dlt b hb).2⟩
theorem QsM.below (h : QsM w TQ TP F D ex gq vs qs) (hb : Below w.heap.size w w1) : QsM w1 TQ TP F D ex gq vs qs :=
  h.keep (M := fun _ => False) (Mod.of_fresh hb) (fun _ _ h => h) (fun _ _ h => h)
theorem QsM.drewN (h : QsM w TQ TP F D ex gq vs qs) (n : Nat) : QsM (w.drewN n) TQ TP F D ex gq vs qs :=
  h.keep (M := fun _ => False) ((Mod.refl _ _).drewN n) (fun _ _ h => h) (fun _ _ h => h)
/-- The owner's other block stored into. -/
theorem QsM.exPut (h : QsM w TQ TP F D ex gq vs qs) (off : Nat) (u : Value) : QsM (w.setCell ⟨ex, off, none⟩ u) TQ TP F D ex gq vs qs where
  len := h.len
  blk := h.blk.far (p := ⟨ex, off, none⟩) h.gF.2.2 u
  own := fun i hi => (h.own i hi).keep PkR.good (mod_put (M := (· = ex)) (Mod.refl _ _) (fun _ => rfl)) (fun b hb _ he => (h.Dlt b hb).2 (by rw [he]; exact h.gF.2.1)) (fun b hb he => (h.inF i hi b hb).2.2 he)
  inF := h.inF
  dis := h.dis
  gF := h.gF
  Flt := fun b hb => by simpa [World.setCell] using h.Flt b hb
  Dlt := fun b hb => ⟨by simpa [World.setCell] using (h.Dlt b hb).1, (h.Dlt b hb).2⟩
theorem QsM.q_at (h : QsM w TQ TP F D ex gq vs qs) {i : Nat} (hi : i < qs.length) : ∃ A c, vAt vs i = .slice A qs[i].wait.length c ∧ qs[i].wait.length ≤ c ∧ RdPk w (fun b => F b ∨ D b) A qs[i].wait ∧
    w.cell? ⟨gq, i * 3, none⟩ = some (.slice A qs[i].wait.length c) ∧ w.cell? ⟨gq, i * 3 + 1, none⟩ = some (.int .i64 qs[i].last) ∧ w.cell? ⟨gq, i * 3 + 2, none⟩ = some (.bool qs[i].ended) ∧
    (w.frozen? ⟨gq, i * 3, none⟩ = false ∧ w.frozen? ⟨gq, i * 3 + 1, none⟩ = false ∧ w.frozen? ⟨gq, i * 3 + 2, none⟩ = false) := by
  obtain ⟨A, c, hv, hc, hr⟩ := (h.own i hi).reads PkR.good (S := fun b => F b ∨ D b) (fun b hb _ => hb.elim .inr (fun hb => .inl (h.inF i hi b hb).1))
  obtain ⟨g0, g1, g2⟩ := qCells_get h.len hi
  refine ⟨A, c, hv, hc, hr, ?_, ?_, ?_, h.blk.frozen _, h.blk.frozen _, h.blk.frozen _⟩
  · rw [h.blk.cell, List.getElem?_toArray, g0, hv]
  · rw [h.blk.cell, List.getElem?_toArray, g1]
  · rw [h.blk.cell, List.getElem?_toArray, g2]
theorem QsM.rd (h : QsM w TQ TP F D ex gq vs qs) : RdQu w (fun b => F b ∨ D b) (some ⟨gq, 0, none⟩) qs := fun j hj => by
  obtain ⟨A, c, hv, hc, hr, c0, c1, c2, _⟩ := h.q_at hj
  refine ⟨_, [.slice A qs[j].wait.length c, .int .i64 qs[j].last, .bool qs[j].ended], rfl, .inl h.gF.1, ⟨A, c, rfl, hc, hr⟩, fun i u hu => ?_⟩
  rw [add_mk, Nat.zero_add]
  match i with
  | 0 => simp only [List.getElem?_cons_zero, Option.some.injEq] at hu; subst hu; exact c0
  | 1 => simp only [List.getElem?_cons_succ, List.getElem?_cons_zero, Option.some.injEq] at hu; subst hu; exact c1
  | 2 => simp only [List.getElem?_cons_succ, List.getElem?_cons_zero, Option.some.injEq] at hu; subst hu; exact c2
  | i + 3 => simp at hu
theorem QsM.put1 (h : QsM w TQ TP F D ex gq vs qs) {i : Nat} (hi : i < qs.length) (n : Int) : QsM (w.setCell ⟨gq, i * 3 + 1, none⟩ (.int .i64 n)) TQ TP F D ex gq vs (qs.set i ⟨qs[i].wait, n, qs[i].ended⟩) where
  len := by rw [List.length_set]; exact h.len
  blk := by
    have := h.blk.set_ (i * 3 + 1) (.int .i64 n)
    rwa [List.setIfInBounds_toArray, qCells_set1 n h.len hi] at this
  own := fun j hj => by
    rw [List.length_set] at hj
    have h1 := (h.own j hj).keep PkR.good (mod_put (g := gq) (off := i * 3 + 1) (u := .int .i64 n) (M := (· = gq)) (Mod.refl _ _) (fun _ => rfl)) (fun b hb _ he => (h.Dlt b hb).2 (by rw [he]; exact h.gF.1)) (fun b hb he => (h.inF j hj b hb).2.1 he)
    rw [List.getElem_set]
    split
    · rename_i hij; subst hij; exact h1
    · exact h1
  inF := fun j hj => h.inF j (by simpa using hj)
  dis := fun j k hj hk => h.dis j k (by simpa using hj) (by simpa using hk)
  gF := h.gF
  Flt := fun b hb => by simpa [World.setCell] using h.Flt b hb
  Dlt := fun b hb => ⟨by simpa [World.setCell] using (h.Dlt b hb).1, (h.Dlt b hb).2⟩
theorem QsM.put2 (h : QsM w TQ TP F D ex gq vs qs) {i : Nat} (hi : i < qs.length) (e : Bool) : QsM (w.setCell ⟨gq, i * 3 + 2, none⟩ (.bool e)) TQ TP F D ex gq vs (qs.set i ⟨qs[i].wait, qs[i].last, e⟩) where
  len := by rw [List.length_set]; exact h.len
  blk := by
    have := h.blk.set_ (i * 3 + 2) (.bool e)
    rwa [List.setIfInBounds_toArray, qCells_set2 e h.len hi] at this
  own := fun j hj => by
    rw [List.length_set] at hj
    have h1 := (h.own j hj).keep PkR.good (mod_put (g := gq) (off := i * 3 + 2) (u := .bool e) (M := (· = gq)) (Mod.refl _ _) (fun _ => rfl)) (fun b hb _ he => (h.Dlt b hb).2 (by rw [he]; exact h.gF.1)) (fun b hb he => (h.inF j hj b hb).2.1 he)
    rw [List.getElem_set]
    split
    · rename_i hij; subst hij; exact h1
    · exact h1
  inF := fun j hj => h.inF j (by simpa using hj)
  dis := fun j k hj hk => h.dis j k (by simpa using hj) (by simpa using hk)
  gF := h.gF
  Flt := fun b hb => by simpa [World.setCell] using h.Flt b hb
  Dlt := fun b hb => ⟨by simpa [World.setCell] using (h.Dlt b hb).1, (h.Dlt b hb).2⟩
/-- Queue i's slice written anew: what lay in its own block may have turned on the way. -/
theorem QsM.put0 (h : QsM w TQ TP F D ex gq vs qs) {i : Nat} (hi : i < qs.length) (hm : Mod (fun b => (vAt vs i).ownBlock = some b) w w1) {v : Value} {l : List Pk} (ho : OwnG PkR 6 TP w1 0 D' v l)
    (hv : ∀ b, v.ownBlock = some b → (vAt vs i).ownBlock = some b ∨ w.heap.size ≤ b) (hDD : ∀ b, D b → D' b) (hD' : ∀ b, D' b → D b ∨ (w.heap.size ≤ b ∧ b < w1.heap.size ∧ v.ownBlock ≠ some b)) :
    QsM (w1.setCell ⟨gq, i * 3, none⟩ v) TQ TP (fun b => F b ∨ v.ownBlock = some b) D' ex gq (vs.set i v) (qs.set i ⟨l, qs[i].last, qs[i].ended⟩) := by
  have hsz := hm.size
  have hil : i < vs.length := by rw [h.len]; exact hi
  have hgl := h.Flt _ h.gF.1
  have hel := h.Flt _ h.gF.2.1
  have hvl := ho.own_ge
  have hvx : ∀ b, v.ownBlock = some b → b ≠ gq ∧ b ≠ ex := fun b hb => by
    rcases hv b hb with h1 | h1
    · exact (h.inF i hi b h1).2
    · exact ⟨by omega, by omega⟩
  have hDg : ∀ b, D' b → b ≠ gq ∧ b ≠ ex ∧ b < w1.heap.size ∧ ¬ F b := fun b hb => by
    rcases hD' b hb with h1 | h1
    · have h2 := h.Dlt b h1
      exact ⟨fun e => h2.2 (by rw [e]; exact h.gF.1), fun e => h2.2 (by rw [e]; exact h.gF.2.1), by omega, h2.2⟩
    · exact ⟨by omega, by omega, h1.2.1, fun hf => by have := h.Flt b hf; omega⟩
  have hmg : Mod (· = gq) w1 (w1.setCell ⟨gq, i * 3, none⟩ v) := mod_put (Mod.refl _ _) (fun _ => rfl)
  refine ⟨by rw [List.length_set, List.length_set]; exact h.len, ?_, ?_, ?_, ?_, ⟨.inl h.gF.1, .inl h.gF.2.1, h.gF.2.2⟩, ?_, ?_⟩
  · have hb1 := h.blk.mod hm (fun e => (h.inF i hi _ e).2.1 rfl)
    have := hb1.set_ (i * 3) v
    rwa [List.setIfInBounds_toArray, qCells_set0 v l h.len hi] at this
  · intro j hj
    rw [List.length_set] at hj
    rw [vAt_set hil, List.getElem_set]
    by_cases hij : i = j
    · subst hij
      rw [if_pos rfl, if_pos rfl]
      exact ho.keep PkR.good hmg (fun b hb _ he => (hDg b hb).1 he) (fun b hb he => (hvx b hb).1 he)
    · rw [if_neg hij, if_neg hij]
      have h1 := ((h.own j hj).keep PkR.good hm (fun b hb _ he => (h.Dlt b hb).2 (h.inF i hi b he).1) (fun b hb he => h.dis i j hi hj hij b he hb)).weak PkR.good (D' := D') (fun b hb _ => hDD b hb)
      exact h1.keep PkR.good hmg (fun b hb _ he => (hDg b hb).1 he) (fun b hb he => (h.inF j hj b hb).2.1 he)
  · intro j hj b hb
    rw [List.length_set] at hj
    rw [vAt_set hil] at hb
    split at hb
    · exact ⟨.inr hb, hvx b hb⟩
    · have := h.inF j hj b hb
      exact ⟨.inl this.1, this.2⟩
  · intro j k hj hk hjk b hb hb2
    rw [List.length_set] at hj hk
    rw [vAt_set hil] at hb hb2
    split at hb
    · rename_i hij
      subst hij
      rw [if_neg hjk] at hb2
      rcases hv b hb with h1 | h1
      · exact h.dis i k hi hk hjk b h1 hb2
      · have := h.Flt b (h.inF k hk b hb2).1; omega
    · split at hb2
      · rename_i hik
        subst hik
        rcases hv b hb2 with h1 | h1
        · exact h.dis j i hj hi hjk b hb h1
        · have := h.Flt b (h.inF j hj b hb).1; omega
      · exact h.dis j k hj hk hjk b hb hb2
  · intro b hb
    have : b < w1.heap.size := by
      rcases hb with hb | hb
      · have := h.Flt b hb; omega
      · exact (hvl b hb).2
    simpa [World.setCell] using this
  · intro b hb
    refine ⟨by simpa [World.setCell] using (hDg b hb).2.2.1, fun hf => ?_⟩
    rcases hf with hf | hf
    · exact (hDg b hb).2.2.2 hf
    · rcases hD' b hb with h1 | h1
      · rcases hv b hf with h2 | h2
        · exact (h.Dlt b h1).2 (h.inF i hi b h2).1
        · have := (h.Dlt b h1).1; omega
      · exact h1.2.2 hf
/-- Queues that are made. -/
theorem made_cells {n : Nat} (hn : n ≤ 4) : madeCells (Value.agg #[.slice none 0 0, .int .i64 0, .bool false]).cells (n * 3) = (qCells (List.replicate n (.slice none 0 0)) (List.replicate n ⟨[], 0, false⟩)).toArray := by
  rcases (show n = 0 ∨ n = 1 ∨ n = 2 ∨ n = 3 ∨ n = 4 by omega) with rfl | rfl | rfl | rfl | rfl <;> kernel_rfl
theorem vAt_rep (n i : Nat) : vAt (List.replicate n (.slice none 0 0)) i = .slice none 0 0 := by
  simp only [vAt, List.getD_eq_getElem?_getD, List.getElem?_replicate]
  split <;> rfl
theorem QsM.made (w : World) (TQ TP : TypeId) {n : Nat} (hn : n ≤ 4) (o : Obj) :
    QsM ((w.alloc (.cells (madeCells (Value.agg #[.slice none 0 0, .int .i64 0, .bool false]).cells (n * 3)) TQ)).alloc o) TQ TP (fun b => b = w.heap.size ∨ b = w.heap.size + 1) (fun _ => False) (w.heap.size + 1) w.heap.size (List.replicate n (.slice none 0 0)) (List.replicate n ⟨[], 0, false⟩) where
  len := by simp
  blk := by rw [made_cells hn]; exact (Blk.new _ _ _).alloc _
  own := fun i hi => by rw [vAt_rep, List.getElem_replicate]; exact OwnG.nil_ _ _ _ _ _ _
  inF := fun i _ b hb => by rw [vAt_rep] at hb; cases hb
  dis := fun i j _ _ _ b hb => by rw [vAt_rep] at hb; cases hb
  gF := ⟨.inl rfl, .inr rfl, by omega⟩
  Flt := fun b hb => by simp; omega
  Dlt := fun b hb => hb.elim
end
end Go.Proofs.Ytnflhogjonlnmaa
