/- A slice of the call's own that need not begin where its block begins (what 's = s[1:]' leaves), and append onto it. -/
import Derived.Test.YtdlbjilbdbjadaaLib
import Derived.ArgAppend
set_option linter.unusedSimpArgs false
set_option linter.unusedVariables false
namespace Go.Proofs.Ytdlbjilbdbjadaa
open Go.RowKit

def OwnO (w : World) (base : Nat) (e : TypeId) (k : IntKind) (v : Value) (l : List Int) : Prop :=
  ∃ A c, v = .slice A l.length c ∧ l.length ≤ c ∧ c ≤ maxLen ∧ (A = none → c = 0) ∧
    ∀ ad, A = some ad → ∃ g off cur, ad = ⟨g, off, none⟩ ∧ base ≤ g ∧ w.heap[g]? = some (.cells cur e (0, 0)) ∧ off + c ≤ cur.size ∧ (cur.toList.drop off).take l.length = ic k l
section
variable {w w' : World} {base : Nat} {e : TypeId} {k : IntKind} {v : Value} {l : List Int}
theorem OwnO.nil_ (w : World) (base : Nat) (e : TypeId) (k : IntKind) : OwnO w base e k (.slice none 0 0) [] :=
  ⟨none, 0, rfl, Nat.le_refl _, Nat.zero_le _, fun _ => rfl, fun _ h => by cases h⟩
theorem OwnO.of (h : OwnI w base e k v l) : OwnO w base e k v l := by
  rcases h.2 with ⟨rfl, h0⟩ | ⟨g, cap, cur, rfl, hb, hg, hn, hm, hs, ht⟩
  · have : l = [] := List.eq_nil_of_length_eq_zero h0
    subst this
    exact OwnO.nil_ _ _ _ _
  · refine ⟨_, cap, rfl, hn, hm, fun h => (nomatch h), fun ad h => ?_⟩
    injection h with h
    exact ⟨g, 0, cur, h.symm, hb, hg, by omega, by simpa using ht⟩
theorem OwnO.keep (h : OwnO w base e k v l) (hk : ∀ g, v.ownBlock = some g → w'.heap[g]? = w.heap[g]?) : OwnO w' base e k v l := by
  obtain ⟨A, c, rfl, h1, h2, h3, h4⟩ := h
  refine ⟨A, c, rfl, h1, h2, h3, fun ad hA => ?_⟩
  obtain ⟨g, off, cur, rfl, hb, hg, hs, ht⟩ := h4 ad hA
  subst hA
  exact ⟨g, off, cur, rfl, hb, (hk g rfl).trans hg, hs, ht⟩
theorem OwnO.lt (h : OwnO w base e k v l) : ∀ g, v.ownBlock = some g → base ≤ g ∧ g < w.heap.size := by
  obtain ⟨A, c, rfl, h1, h2, h3, h4⟩ := h
  intro g hg
  cases A with
  | none => simp [Value.ownBlock] at hg
  | some ad =>
    obtain ⟨g', off, cur, rfl, hb, hh, hs, ht⟩ := h4 ad rfl
    simp [Value.ownBlock] at hg
    subst hg
    exact ⟨hb, (Array.getElem?_eq_some_iff.1 hh).1⟩
theorem OwnO.kept {row : Option Nat} (h : OwnO w base e k v l) (hg : w.grownBy w' row) (hne : v.ownBlock = none ∨ v.ownBlock ≠ row) : OwnO w' base e k v l :=
  h.keep fun g hv => hg.block g (h.lt g hv).2 (by
    rcases hne with hne | hne
    · rw [hv] at hne; cases hne
    · rw [hv] at hne; exact hne)
theorem OwnO.below (h : OwnO w base e k v l) (hb : Below w.heap.size w w') : OwnO w' base e k v l := h.keep fun g hv => hb.block g (h.lt g hv).2
theorem OwnO.alloc (h : OwnO w base e k v l) (o : Obj) : OwnO (w.alloc o) base e k v l := h.keep fun g hv => Below.heap_alloc w o g (h.lt g hv).2
theorem OwnO.drewN (h : OwnO w base e k v l) (n : Nat) : OwnO (w.drewN n) base e k v l := h
theorem OwnO.form (h : OwnO w base e k v l) : ∃ A c, v = .slice A l.length c ∧ l.length ≤ c ∧ RdI w w.heap.size k A l := by
  obtain ⟨A, c, rfl, h1, h2, h3, h4⟩ := h
  refine ⟨A, c, rfl, h1, by simp [ic_length], fun hn => ?_⟩
  cases A with
  | none => have := h3 rfl; omega
  | some ad =>
    obtain ⟨g, off, cur, rfl, hb, hg, hs, ht⟩ := h4 ad rfl
    refine ⟨_, rfl, (Array.getElem?_eq_some_iff.1 hg).1, fun j u hu => ?_⟩
    rw [add_mk, cell_of_row w g (off + j) cur e (0, 0) hg]
    rw [← ht, List.getElem?_take] at hu
    split at hu
    · rw [List.getElem?_drop] at hu
      simpa using hu
    · cases hu
/-- 's[n:]' -/
theorem OwnO.cut {P : Program} {t e' : TypeId} {z : Option Value} {b : Nat} (ht : P.underlying t = some (.slice e')) (hi : (P.info? e').map (fun i => (i.zero, i.size, i.bytes)) = some (z, 1, b))
    (h : OwnO w base e k v l) {n : Nat} (hn : n ≤ l.length) :
    ∃ v', (∀ w' : World, (Instr.slice t v (some (.int .i64 (n : Int))) none none).run P w' = .ok v' w') ∧ OwnO w base e k v' (l.drop n) ∧ v'.ownBlock = v.ownBlock := by
  obtain ⟨A, c, rfl, h1, h2, h3, h4⟩ := h
  obtain ⟨he, ht'⟩ := elem_of ht
  refine ⟨.slice (if c = n then A else A.map (·.add n)) (l.length - n) (c - n), fun w' => ?_, ⟨_, c - n, by rw [List.length_drop], by rw [List.length_drop]; omega, by omega, fun hA => ?_, fun ad hA => ?_⟩, ?_⟩
  · rw [run_slice_l w' t A l.length c ht' .i64 n (by omega) (by omega), he, sizeOf_run hi]
    simp [sliced]
  · split at hA
    · omega
    · rw [Option.map_eq_none_iff] at hA
      have := h3 hA
      omega
  · split at hA
    · obtain ⟨g, off, cur, rfl, hb, hg, hs, ht⟩ := h4 ad hA
      have : l.length = n := by omega
      exact ⟨g, off, cur, rfl, hb, hg, by omega, by rw [List.length_drop, this, Nat.sub_self, List.take_zero, ← this, List.drop_length]; rfl⟩
    · rw [Option.map_eq_some_iff] at hA
      obtain ⟨ad', hA', rfl⟩ := hA
      obtain ⟨g, off, cur, rfl, hb, hg, hs, ht⟩ := h4 ad' hA'
      refine ⟨g, off + n, cur, add_mk _ _ _, hb, hg, by omega, ?_⟩
      rw [List.length_drop, ← List.drop_drop, ← List.drop_take, ht, ic_drop]
  · cases A with
    | none => split <;> rfl
    | some ad => split <;> simp [Value.ownBlock, add_block]
end
section
variable {P : Program} (w : World)
theorem run_append_room_off (t ty e : TypeId) (i : TypeInfo) (ht : P.underlying t = some (.slice e)) (hi : P.info? e = some i) (hz : i.size = 1)
    (g off sLen sCap : Nat) (cur : Array Value) (hg : w.heap[g]? = some (.cells cur e (0, 0)))
    (a : Addr) (m c : Nat) (news : List Value) (hl : news.length = m) (hnews : ∀ j u, news[j]? = some u → w.cell? (a.add j) = some u) (h1 : ∀ u ∈ news, u.oneCell' = true)
    (hroom : sLen + m ≤ sCap) (hfit : off + sLen + news.length ≤ cur.size) :
    (Builtin.append_ #[t, t] ty #[.slice (some ⟨g, off, none⟩) sLen sCap, .slice (some a) m c]).run P w =
      .ok (.slice (some ⟨g, off, none⟩) (sLen + m) sCap) (w.setRow g (cur.toList.take (off + sLen) ++ news ++ cur.toList.drop (off + sLen + news.length)).toArray) := by
  have hf := run_firstCells_some (P := P) w i.size m a m c news (by rw [hz, Nat.mul_one]; exact hl) hnews
  have hst := run_storeCells_at P g (off + sLen) e news 0 cur w hg (by simpa using hfit) h1
  simp only [Nat.add_zero] at hst
  rw [hz] at hf
  simp [Builtin.append_, run_underlying ht, sizeOf, typeInfo, hi, hz, Builtin.lenOf, hroom, hf, Addr.add_lit, hst]
theorem run_append_O (base : Nat) (t ty e : TypeId) (k : IntKind) (bytes : Nat) (ht : P.underlying t = some (.slice e))
    (hi : (P.info? e).map (fun i => (i.zero, i.size, i.bytes)) = some (some (.int k 0), 1, bytes))
    (v : Value) (l : List Int) (hown : OwnO w base e k v l)
    (B : Nat) (A : Option Addr) (m c : Nat) (l' : List Int) (hm : m = l'.length) (hr : RdI w B k A l')
    (hlen : l.length + l'.length ≤ 1099511627776) (hby : bytes ≤ 8) (hbw : base ≤ w.heap.size) :
    ∃ v' w', (Builtin.append_ #[t, t] ty #[v, .slice A m c]).run P w = .ok v' w' ∧ OwnO w' base e k v' (l ++ l') ∧ w.grownBy w' v.ownBlock ∧ (v'.ownBlock = v.ownBlock ∨ ∀ b, v'.ownBlock = some b → w.heap.size ≤ b) := by
  obtain ⟨i0, hi0, hz0, hz1, hz2⟩ := info_parts hi
  subst hm
  have hbytes : (l.length + l'.length) * bytes ≤ 140737488355328 := by
    calc (l.length + l'.length) * bytes ≤ 1099511627776 * 8 := Nat.mul_le_mul hlen hby
      _ ≤ 140737488355328 := by omega
  have h63 : l.length + l'.length ≤ maxLen := by simp only [maxLen]; omega
  have hown0 := hown
  obtain ⟨A0, c0, rfl, h1, h2, h3, h4⟩ := hown
  cases A with
  | none =>
    have hl' : l' = [] := by
      rcases Nat.eq_zero_or_pos l'.length with h0 | h0
      · exact List.eq_nil_of_length_eq_zero h0
      · obtain ⟨ad, h, _⟩ := hr.2 h0
        cases h
    subst hl'
    refine ⟨_, w, ?_, by rw [List.append_nil]; exact hown0, World.grownBy.refl w _, .inl rfl⟩
    simp [Builtin.append_, run_underlying ht, sizeOf, typeInfo, hi0, Builtin.lenOf, Builtin.firstCells, h1]
    cases A0 <;> simp [storeCells]
  | some ad =>
    have hcells : ∀ j u, (ic k l')[j]? = some u → w.cell? (ad.add j) = some u := by
      intro j u hu
      rcases Nat.eq_zero_or_pos l'.length with h0 | h0
      · rw [List.eq_nil_of_length_eq_zero h0] at hu; simp [ic] at hu
      · obtain ⟨ad', h, _, hc⟩ := hr.2 h0
        injection h with h
        subst h
        exact hc j u hu
    cases A0 with
    | none =>
      have hc0 := h3 rfl
      subst hc0
      have hl0 : l = [] := List.eq_nil_of_length_eq_zero (by omega)
      subst hl0
      obtain ⟨v', w', hrun, h5, h6, _, h7⟩ := run_append_own_at (P := P) w base t ty e i0 (.int k 0) 1 bytes ht hi0 hz0 hz1 hz2 rfl (by omega) (.slice none 0 0) 0 [] (World.ownsRow_nil w _ e 1) ad l'.length c (ic k l') (by simp [ic_length]) hcells (ic_cell k l') (by simpa using h63) (by simpa using hbytes) hbw
      refine ⟨v', w', hrun, OwnO.of (by unfold OwnI; simpa using h5), h6, h7.imp id (fun h b hb => by rw [h] at hb; injection hb with hb; omega)⟩
    | some b =>
      obtain ⟨g, off, cur, rfl, hb, hg, hs, htk⟩ := h4 _ rfl
      by_cases hroom : l.length + l'.length ≤ c0
      · have hrun := run_append_room_off (P := P) w t ty e i0 ht hi0 hz1 g off l.length c0 cur hg ad l'.length c (ic k l') (by simp [ic_length]) hcells (ic_cell k l') hroom (by rw [ic_length]; omega)
        refine ⟨_, _, hrun, ⟨some ⟨g, off, none⟩, c0, by rw [List.length_append], by rw [List.length_append]; exact hroom, h2, fun h => (nomatch h), fun ad' h => ?_⟩, ⟨rfl, rfl, rfl, by simp, fun j _ hj => setRow_other w g j _ (fun e => hj (by simp [Value.ownBlock, e]))⟩, .inl rfl⟩
        injection h with h
        refine ⟨g, off, _, h.symm, hb, setRow_heap w g cur _ e _ hg, ?_, ?_⟩
        · simp only [List.size_toArray, List.length_append, List.length_take, List.length_drop, Array.length_toList, ic_length]
          omega
        · have e1 : cur.toList.take (off + l.length) = cur.toList.take off ++ ic k l := by rw [List.take_add, htk]
          have e2 : (cur.toList.take off).length = off := by rw [List.length_take, Array.length_toList]; omega
          simp only [e1, List.append_assoc]
          rw [List.drop_append, e2, Nat.sub_self, List.drop_zero, List.drop_eq_nil_of_le (by omega), List.nil_append, ← List.append_assoc, ← ic_append, ← ic_length k (l ++ l'), List.take_left]
      · obtain ⟨v', w', hrun, r1, r2⟩ := run_append_arg_grows (P := P) w t ty e i0 (.int k 0) 1 bytes ht hi0 hz0 hz1 hz2 rfl (by omega) ⟨g, off, none⟩ l.length c0 (ic k l) (by simp [ic_length])
          (fun j u hu => by
            rw [add_mk, cell_of_row w g (off + j) cur e (0, 0) hg]
            rw [← htk, List.getElem?_take] at hu
            split at hu
            · rw [List.getElem?_drop] at hu
              simpa using hu
            · cases hu) ad l'.length c (ic k l') (by simp [ic_length]) hcells (by omega) h63 hbytes
        have hO : OwnI w' w.heap.size e k v' (l ++ l') := by unfold OwnI; rw [List.length_append, ic_append]; exact r1
        refine ⟨v', w', hrun, OwnO.of (hO.base_ hbw), ⟨r2.os, r2.tape, r2.output, r2.size, fun j hj _ => r2.block j hj (by simp)⟩, .inr fun b hb => (World.ownsRow.lt r1 b hb).1⟩
/-- append(s, x..) as a step of a region that draws its order. -/
theorem step_append_O {ops : Array Oper} {o : Oper} {a : Act} {K : Act → World → Prop} {E : Prop} {Q : Exit → Act → World → Prop} (hgd : o.guard = none) (s x : Operand) (t : TypeId)
    (ho : o.op = .call { callee := .builtin .append, args := #[s, x], argTypes := #[t, t] })
    (base : Nat) (e : TypeId) (k : IntKind) (bytes : Nat) (ht : P.underlying t = some (.slice e))
    (hi : (P.info? e).map (fun i => (i.zero, i.size, i.bytes)) = some (some (.int k 0), 1, bytes))
    (v : Value) (l : List Int) (hs : a.eval s = v) (hown : OwnO w base e k v l)
    (B : Nat) (A : Option Addr) (m c : Nat) (l' : List Int) (hx : a.eval x = .slice A m c) (hm : m = l'.length) (hr : RdI w B k A l')
    (hlen : l.length + l'.length ≤ 1099511627776) (hby : bytes ≤ 8) (hbw : base ≤ w.heap.size)
    (h : ∀ v' w', OwnO w' base e k v' (l ++ l') → w.grownBy w' v.ownBlock → (v'.ownBlock = v.ownBlock ∨ ∀ b, v'.ownBlock = some b → w.heap.size ≤ b) → K (a.put o.dst v') w') : if Region.wanted o (yielded ops a.tmps) = true then Oper.wp P o a w K Q else E := by
  have hw : Region.wanted o (yielded ops a.tmps) = true := by simp [Region.wanted, hgd]
  rw [if_pos hw]
  obtain ⟨v', w', hrun, h2, h3, h4⟩ := run_append_O (P := P) w base t o.type e k bytes ht hi v l hown B A m c l' hm hr hlen hby hbw
  unfold Oper.wp execOp
  simp only [ho, resolve, invoke, builtin, Sem.run_bind, Sem.run_pure, Result.andThen_ok, List.map_toArray, List.map_cons, List.map_nil, hs, hx, hrun]
  exact h v' w' h2 h3 h4
theorem wpList_append_O {ops : Array Oper} {rest : List Oper} {o : Oper} {a : Act} {Q : Exit → Act → World → Prop} (hgd : o.guard = none) (s x : Operand) (t : TypeId)
    (ho : o.op = .call { callee := .builtin .append, args := #[s, x], argTypes := #[t, t] })
    (base : Nat) (e : TypeId) (k : IntKind) (bytes : Nat) (ht : P.underlying t = some (.slice e))
    (hi : (P.info? e).map (fun i => (i.zero, i.size, i.bytes)) = some (some (.int k 0), 1, bytes))
    (v : Value) (l : List Int) (hs : a.eval s = v) (hown : OwnO w base e k v l)
    (B : Nat) (A : Option Addr) (m c : Nat) (l' : List Int) (hx : a.eval x = .slice A m c) (hm : m = l'.length) (hr : RdI w B k A l')
    (hlen : l.length + l'.length ≤ 1099511627776) (hby : bytes ≤ 8) (hbw : base ≤ w.heap.size)
    (h : ∀ v' w', OwnO w' base e k v' (l ++ l') → w.grownBy w' v.ownBlock → (v'.ownBlock = v.ownBlock ∨ ∀ b, v'.ownBlock = some b → w.heap.size ≤ b) → wpList P ops Q rest (a.put o.dst v') w') : wpList P ops Q (o :: rest) a w := by
  refine wpList_plain hgd fun K hK => ?_
  obtain ⟨v', w', hrun, h2, h3, h4⟩ := run_append_O (P := P) w base t o.type e k bytes ht hi v l hown B A m c l' hm hr hlen hby hbw
  unfold Oper.wp execOp
  simp only [ho, resolve, invoke, builtin, Sem.run_bind, Sem.run_pure, Result.andThen_ok, List.map_toArray, List.map_cons, List.map_nil, hs, hx, hrun]
  exact hK _ _ (h v' w' h2 h3 h4)
end
end Go.Proofs.Ytdlbjilbdbjadaa
