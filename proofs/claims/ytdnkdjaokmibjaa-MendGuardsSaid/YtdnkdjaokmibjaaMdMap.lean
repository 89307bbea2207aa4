/- Maps from a number to a page that a call keeps. -/
import Derived.Test.YtdnkdjaokmibjaaPkVal
import Derived.Maps.OwnOps
set_option linter.unusedSimpArgs false
set_option linter.unusedVariables false
namespace Go.Proofs.Ytdnkdjaokmibjaa
open Go.RowKit

/-- Block b is a map that holds just these pages, by number; S: the blocks that they read. -/
def MapPg (w : World) (b : Nat) (S : Nat → Prop) (l : List Pg) : Prop :=
  ∃ es clock, w.heap[b]? = some (.map es clock) ∧ es.size = l.length ∧ ∀ i (h : i < l.length), ∃ e cs, es[i]? = some e ∧ e.key = .int .i64 l[i].seq ∧ e.val = .agg (List.toArray cs) ∧ PgR w S cs l[i]

theorem lit_wf {s : Int} (h : i64B s) : (Lit.int .i64 s).wf = true := by
  obtain ⟨h1, h2⟩ := h
  have e1 : IntKind.min .i64 = -9223372036854775808 := rfl
  have e2 : IntKind.max .i64 = 9223372036854775807 := rfl
  simp only [Lit.wf, e1, e2, Bool.and_eq_true, decide_eq_true_eq]
  exact ⟨h1, h2⟩
theorem map_keyed : Go.Maps.Keyed Try.prog 3 := Go.Maps.int_keyed Try.underlying3

section
variable {w w' : World} {b : Nat} {M S S' : Nat → Prop} {l : List Pg}
theorem MapPg.made (w : World) (S : Nat → Prop) : MapPg (w.alloc (.map #[] 0)) w.heap.size S [] := ⟨#[], 0, heap_alloc_new w _, rfl, fun i h => absurd h (by simp)⟩
theorem MapPg.lt (h : MapPg w b S l) : b < w.heap.size := by
  obtain ⟨es, clock, hb, _⟩ := h
  exact (Array.getElem?_eq_some_iff.1 hb).1
theorem MapPg.keep (h : MapPg w b S l) (hm : Mod M w w') (hb : ¬ M b) (hs : ∀ x, S x → x < w.heap.size → ¬ M x) : MapPg w' b S l := by
  have hlt := h.lt
  obtain ⟨es, clock, e, hn, hc⟩ := h
  refine ⟨es, clock, (hm.block b hlt hb).trans e, hn, fun i hi => ?_⟩
  obtain ⟨en, cs, h1, h2, h3, h4⟩ := hc i hi
  exact ⟨en, cs, h1, h2, h3, PgR.good.keep h4 hm hs⟩
theorem MapPg.weak (h : MapPg w b S l) (hs : ∀ x, S x → x < w.heap.size → S' x) : MapPg w b S' l := by
  obtain ⟨es, clock, e, hn, hc⟩ := h
  refine ⟨es, clock, e, hn, fun i hi => ?_⟩
  obtain ⟨en, cs, h1, h2, h3, h4⟩ := hc i hi
  exact ⟨en, cs, h1, h2, h3, PgR.good.weak h4 hs⟩
theorem MapPg.keys (h : MapPg w b S l) {es : Array MapEntry} {clock : Nat} (e : w.heap[b]? = some (.map es clock)) : ∀ i, (hi : i < l.length) → ∃ en cs, es[i]? = some en ∧ en.key = .int .i64 l[i].seq ∧ en.val = .agg (List.toArray cs) ∧ PgR w S cs l[i] := by
  obtain ⟨es', clock', e', hn, hc⟩ := h
  rw [e'] at e
  injection e with e
  injection e with e1 e2
  subst e1
  exact hc
/-- v, ok := m[s] -/
theorem MapPg.look (h : MapPg w b S l) {s : Int} (hs : i64B s) :
    (∃ (i : Nat) (hi : i < l.length) (cs : List Value), l[i].seq = s ∧ PgR w S cs l[i] ∧ ∀ W : World, W.heap[b]? = w.heap[b]? → (Instr.lookup 71 (.map (some b)) (.int .i64 s) true).run Try.prog W = .ok (.tuple #[.agg cs.toArray, .bool true]) W) ∨
    ((∀ p ∈ l, p.seq ≠ s) ∧ ∀ W : World, W.heap[b]? = w.heap[b]? → (Instr.lookup 71 (.map (some b)) (.int .i64 s) true).run Try.prog W = .ok (.tuple #[.agg #[.int .i64 0, .bool false, .bool false, .bool false, .slice none 0 0], .bool false]) W) := by
  have hkey := Go.Maps.keyOf_int_mk Try.underlying3 (lit_wf hs)
  obtain ⟨es, clock, hb, hn, hc⟩ := h
  have hall : ∀ e ∈ es.toList, ∃ lt, keyOf Try.prog 3 e.key = some lt := by
    intro e he
    obtain ⟨i, hi, rfl⟩ := List.getElem_of_mem he
    have hi' : i < l.length := by rw [← hn]; simpa using hi
    obtain ⟨en, cs, h1, h2, _, h4⟩ := hc i hi'
    rw [Array.getElem?_eq_getElem (by simpa using hi)] at h1
    injection h1 with h1
    refine ⟨.int .i64 l[i].seq, ?_⟩
    rw [Array.getElem_toList, h1, h2]
    obtain ⟨A, c, _, _, _, hw⟩ := h4
    exact Go.Maps.keyOf_int_mk Try.underlying3 (lit_wf hw.seq)
  rcases map_keyed.find w hkey es.toList hall with ⟨h1, h2⟩ | ⟨j, e0, h1, h2, h3⟩
  · refine .inr ⟨fun p hp => ?_, fun W hW => ?_⟩
    · obtain ⟨i, hi, rfl⟩ := List.getElem_of_mem hp
      obtain ⟨en, cs, k1, k2, _, _⟩ := hc i hi
      have hm : en ∈ es.toList := by rw [Array.mem_toList_iff]; exact Array.mem_of_getElem? k1
      have := h2 en hm
      rw [k2] at this
      exact fun e => this (by rw [e])
    · rcases map_keyed.find W hkey es.toList hall with ⟨h1', _⟩ | ⟨j', e0', _, h2', h3'⟩
      · simp [Instr.lookup, run_underlying Try.underlying71, Go.MapKept.run_getObj_map (hW.trans hb), map_keyed.check W _ hkey, h1', Try.zeroValue33, Result.andThen]
      · exact absurd h3' (h2 e0' (List.mem_of_getElem? h2'))
  · have hj : j < l.length := by
      have := (List.getElem?_eq_some_iff.1 h2).1
      rw [← hn]; simpa using this
    obtain ⟨en, cs, k1, k2, k3, k4⟩ := hc j hj
    have e1 : es.toList[j]? = some en := by rw [Array.getElem?_toList]; exact k1
    rw [e1] at h2
    injection h2 with h2
    subst h2
    refine .inl ⟨j, hj, cs, ?_, k4, fun W hW => ?_⟩
    · rw [k2] at h3; injection h3
    · rcases map_keyed.find W hkey es.toList hall with ⟨_, h2'⟩ | ⟨j', e0', h1', h2', h3'⟩
      · exact absurd h3 (h2' en (List.mem_of_getElem? e1))
      · have hsame : e0'.val = en.val := by
          have f1 : (Instr.findKey 3 (.int .i64 s) es.toList).run Try.prog W = .ok (some (j', e0'.val)) W := h1'
          have f2 : (Instr.findKey 3 (.int .i64 s) es.toList).run Try.prog w = .ok (some (j, en.val)) w := h1
          cases hfn : Instr.findNow (.int .i64) (.int .i64 s) es.toList 0 with
          | none =>
            exfalso
            have hkeys : ∀ (es : List MapEntry) (n : Nat), (∀ e ∈ es, ∃ k, e.key = .int .i64 k) → Instr.findNow (.int .i64) (.int .i64 s) es n ≠ none := by
              intro es
              induction es with
              | nil => intro n _; simp [Instr.findNow]
              | cons e es ih =>
                intro n he
                obtain ⟨k, hk⟩ := he e (List.mem_cons_self ..)
                simp only [Instr.findNow, hk, Instr.sameNow, if_true]
                cases hh : (s == k)
                · exact ih _ fun x hx => he x (List.mem_cons_of_mem _ hx)
                · simp
            refine hkeys es.toList 0 (fun e he => ?_) hfn
            obtain ⟨i, hi, rfl⟩ := List.getElem_of_mem he
            have hi' : i < l.length := by rw [← hn]; simpa using hi
            obtain ⟨en', _, h1, h2, _, _⟩ := hc i hi'
            rw [Array.getElem?_eq_getElem (by simpa using hi)] at h1
            injection h1 with h1
            exact ⟨_, by rw [Array.getElem_toList, h1, h2]⟩
          | some r =>
            simp only [Instr.findKey, Sem.run_bind, run_underlying Try.underlying3, Result.andThen_ok, hfn, Sem.run_pure, Result.ok.injEq, and_true] at f1 f2
            exact congrArg Prod.snd (Option.some.inj (f1.symm.trans f2))
        rw [hsame, k3] at h1'
        simp [Instr.lookup, run_underlying Try.underlying71, Go.MapKept.run_getObj_map (hW.trans hb), map_keyed.check W _ hkey, h1', Result.andThen]
/-- m[q.seq] = q, where none is there -/
theorem MapPg.put (h : MapPg w b S l) (hSb : ¬ S b) {q : Pg} {cs : List Value} (hq : PgR w S cs q) (hne : ∀ p ∈ l, p.seq ≠ q.seq) :
    ∃ w', (Instr.mapUpdate 71 (.map (some b)) (.int .i64 q.seq) (.agg cs.toArray)).run Try.prog w = .ok () w' ∧ MapPg w' b S (l ++ [q]) ∧ w.grownBy w' (some b) := by
  have hwq : i64B q.seq := by obtain ⟨A, c, _, _, _, hw⟩ := hq; exact hw.seq
  have hkey := Go.Maps.keyOf_int_mk Try.underlying3 (lit_wf hwq)
  have hlt := h.lt
  have h0 := h
  obtain ⟨es, clock, hb, hn, hc⟩ := h
  have hall : ∀ e ∈ es.toList, ∃ lt, keyOf Try.prog 3 e.key = some lt := by
    intro e he
    obtain ⟨i, hi, rfl⟩ := List.getElem_of_mem he
    have hi' : i < l.length := by rw [← hn]; simpa using hi
    obtain ⟨en, cs, h1, h2, _, h4⟩ := hc i hi'
    rw [Array.getElem?_eq_getElem (by simpa using hi)] at h1
    injection h1 with h1
    refine ⟨.int .i64 l[i].seq, ?_⟩
    rw [Array.getElem_toList, h1, h2]
    obtain ⟨A, c, _, _, _, hw⟩ := h4
    exact Go.Maps.keyOf_int_mk Try.underlying3 (lit_wf hw.seq)
  rcases map_keyed.find w hkey es.toList hall with ⟨h1, h2⟩ | ⟨j, e0, h1, h2, h3⟩
  · have hg : w.grownBy (Go.ChangeMaps.setBlock w b (.map (es.push ⟨.int .i64 q.seq, .agg cs.toArray, clock⟩) (clock + 1))) (some b) :=
      ⟨rfl, rfl, rfl, by simp [Go.ChangeMaps.setBlock], fun i hi hn => by
        simp only [Go.ChangeMaps.setBlock]
        rw [Array.getElem?_setIfInBounds]
        split
        · rename_i h; exact absurd (by rw [h]) hn
        · rfl⟩
    have hM := Mod.of_only (M := (· = b)) hg (fun _ => rfl)
    refine ⟨_, ?_, ⟨es.push ⟨.int .i64 q.seq, .agg cs.toArray, clock⟩, clock + 1, ?_, by simp [hn], fun i hi => ?_⟩, hg⟩
    · simp [Instr.mapUpdate, run_underlying Try.underlying71, Go.MapKept.run_getObj_map hb, map_keyed.check w false hkey, h1, Go.MapKept.run_setObj_map _ hb, Result.andThen, Go.ChangeMaps.setBlock]
    · simp only [Go.ChangeMaps.setBlock]
      rw [Array.getElem?_setIfInBounds, if_pos rfl, if_pos hlt]
    · by_cases hil : i < l.length
      · obtain ⟨en, cs', k1, k2, k3, k4⟩ := hc i hil
        refine ⟨en, cs', ?_, by rw [List.getElem_append_left hil]; exact k2, k3, by rw [List.getElem_append_left hil]; exact PgR.good.keep k4 hM (fun x hx _ e => hSb (by rw [← e]; exact hx))⟩
        rw [Array.getElem?_push, if_neg (by omega)]
        exact k1
      · have : i = l.length := by simp at hi; omega
        subst this
        refine ⟨⟨.int .i64 q.seq, .agg cs.toArray, clock⟩, cs, ?_, by simp, rfl, by simpa using PgR.good.keep hq hM (fun x hx _ e => hSb (by rw [← e]; exact hx))⟩
        rw [Array.getElem?_push, if_pos hn.symm]
  · exfalso
    have hj : j < l.length := by
      have := (List.getElem?_eq_some_iff.1 h2).1
      rw [← hn]; simpa using this
    obtain ⟨en, cs', k1, k2, _, _⟩ := hc j hj
    have e1 : es.toList[j]? = some en := by rw [Array.getElem?_toList]; exact k1
    rw [e1] at h2
    injection h2 with h2
    subst h2
    rw [k2] at h3
    injection h3 with _ h3
    exact hne _ (List.getElem_mem hj) h3
end

/-- The store at the operation. -/
theorem wpList_put_pg {w : World} {ops : Array Oper} {rest : List Oper} {o : Oper} {a : Act} {Q : Exit → Act → World → Prop} (hgd : o.guard = none) (m x v : Operand) (hop : o.op = Op.mapUpdate 71 m x v)
    {b : Nat} {S : Nat → Prop} {l : List Pg} (hm : a.eval m = .map (some b)) (q : Pg) (cs : List Value) (hx : a.eval x = .int .i64 q.seq) (hv : a.eval v = .agg cs.toArray) (h : MapPg w b S l) (hSb : ¬ S b) (hq : PgR w S cs q) (hne : ∀ p ∈ l, p.seq ≠ q.seq)
    (hK : ∀ w', MapPg w' b S (l ++ [q]) → w.grownBy w' (some b) → wpList Try.prog ops Q rest (a.put o.dst undef) w') : wpList Try.prog ops Q (o :: rest) a w := by
  refine wpList_plain hgd fun K' hK' => ?_
  obtain ⟨w', hrun, r1, r2⟩ := h.put hSb hq hne
  unfold Oper.wp
  simp [execOp, hop, hm, hx, hv, hrun, Result.andThen]
  exact hK' _ _ (hK w' r1 r2)
end Go.Proofs.Ytdnkdjaokmibjaa
