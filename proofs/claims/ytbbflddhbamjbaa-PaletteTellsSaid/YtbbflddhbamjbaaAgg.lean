/- Arrays and structs of many cells read and stored at once, wherever they lie in their block; copies of slices of arrays. Nothing of the program is named here. -/
import Derived.Test.YtbbflddhbamjbaaDat
import Derived.Laws.CopyRow
import Derived.Great.BuildSlice
set_option linter.unusedSimpArgs false
set_option linter.unusedVariables false
namespace Go.Proofs.Ytbbflddhbamjbaa
open Go.RowKit

section
variable {P : Program}
/-- A struct or an array read at once. -/
theorem run_loadVar_any (w : World) (ad : Addr) (ty : TypeId) (cs : List Value) (d : TypeDesc) (hu : P.underlying ty = some d) (hd : (match d with | .struct _ | .array _ _ => true | _ => false) = true)
    (hi : (P.info? ty).map (·.size) = some cs.length) (hc : ∀ j v, cs[j]? = some v → w.cell? (ad.add j) = some v) : (loadVar ty ad).run P w = .ok (.agg cs.toArray) w := by
  have hl := run_loadCells_list (P := P) w ad cs hc
  cases hq : P.info? ty with
  | none => simp [hq] at hi
  | some i =>
    have hs : i.size = cs.length := by simpa [hq] using hi
    have hagg : (isAgg ty).run P w = .ok true w := by
      unfold isAgg
      rw [Sem.run_bind, run_underlying hu w]
      cases d <;> simp_all
    simp [loadVar, Sem.run_bind, hagg, sizeOf, typeInfo, hq, hs, hl]
theorem run_loadAt_any (w : World) (ad : Addr) (ty : TypeId) (cs : List Value) (d : TypeDesc) (hu : P.underlying ty = some d) (hd : (match d with | .struct _ | .array _ _ => true | _ => false) = true)
    (hi : (P.info? ty).map (·.size) = some cs.length) (hc : ∀ j v, cs[j]? = some v → w.cell? (ad.add j) = some v) : (Instr.loadAt ty (.pointer (some ad))).run P w = .ok (.agg cs.toArray) w := by
  simp only [Instr.loadAt, Instr.sureAddr, Sem.run_bind, Sem.run_pure, Result.andThen]
  exact run_loadVar_any w ad ty cs d hu hd hi hc
theorem wp_load_any {o : Oper} {a : Act} {w : World} {K : Act → World → Prop} {Q : Exit → Act → World → Prop} (ty : TypeId) (x : Operand) (ho : o.op = .load ty x)
    (ad : Addr) (hx : a.eval x = .pointer (some ad)) (cs : List Value) (d : TypeDesc) (hu : P.underlying ty = some d) (hd : (match d with | .struct _ | .array _ _ => true | _ => false) = true)
    (hi : (P.info? ty).map (·.size) = some cs.length) (hc : ∀ j v, cs[j]? = some v → w.cell? (ad.add j) = some v) (h : K (a.put o.dst (.agg cs.toArray)) w) : o.wp P a w K Q := by
  unfold Oper.wp execOp
  simp only [ho, hx, Instr.loadAt, Instr.sureAddr, Sem.run_bind, Sem.run_pure, Result.andThen_ok, run_loadVar_any w ad ty cs d hu hd hi hc]
  exact h
/-- A load in a region that draws its order. -/
theorem yields_load {o : Oper} {a : Act} (ty : TypeId) (x : Operand) (ho : o.op = .load ty x) (ad : Addr) (hx : a.eval x = .pointer (some ad)) (cs : List Value) (d : TypeDesc) (hu : P.underlying ty = some d) (hd : (match d with | .struct _ | .array _ _ => true | _ => false) = true)
    (hi : (P.info? ty).map (·.size) = some cs.length) {w : World} (hc : ∀ j v, cs[j]? = some v → w.cell? (ad.add j) = some v) : (execOp a.eval o).run P w = .ok (.value (.agg cs.toArray)) w := by
  unfold execOp
  simp only [ho, hx, Instr.loadAt, Instr.sureAddr, Sem.run_bind, Sem.run_pure, Result.andThen_ok, run_loadVar_any w ad ty cs d hu hd hi hc]
theorem wpList_load_any {ops : Array Oper} {rest : List Oper} {o : Oper} {a : Act} {w : World} {Q : Exit → Act → World → Prop} (hgd : o.guard = none) (ty : TypeId) (x : Operand) (ho : o.op = .load ty x)
    (ad : Addr) (hx : a.eval x = .pointer (some ad)) (cs : List Value) (d : TypeDesc) (hu : P.underlying ty = some d) (hd : (match d with | .struct _ | .array _ _ => true | _ => false) = true)
    (hi : (P.info? ty).map (·.size) = some cs.length) (hc : ∀ j v, cs[j]? = some v → w.cell? (ad.add j) = some v) (h : wpList P ops Q rest (a.put o.dst (.agg cs.toArray)) w) : wpList P ops Q (o :: rest) a w :=
  wpList_plain hgd fun _ hK => wp_load_any ty x ho ad hx cs d hu hd hi hc (hK _ _ h)
/-- The row that a store of many cells leaves. -/
def putAt (cur : List Value) (off : Nat) (vs : List Value) : List Value := cur.take off ++ vs ++ cur.drop (off + vs.length)
theorem run_storeVar_any (w : World) (g off : Nat) (t ty : TypeId) (cur : Array Value) (v : Value) (vs : List Value) (hv : v.cells.toList = vs) (hg : w.heap[g]? = some (.cells cur t (0, 0)))
    (hi : (P.info? ty).map (·.size) = some vs.length) (hfit : off + vs.length ≤ cur.size) (h1 : ∀ u ∈ vs, u.oneCell' = true) :
    (storeVar ty ⟨g, off, none⟩ v).run P w = .ok () (w.setRow g (putAt cur.toList off vs).toArray) := by
  have hst := run_storeCells_at P g off t vs 0 cur w hg (by simpa using hfit) h1
  cases hq : P.info? ty with
  | none => simp [hq] at hi
  | some i =>
    have hs : i.size = vs.length := by simpa [hq] using hi
    have hsz : v.cells.size = vs.length := by rw [← hv, Array.length_toList]
    simp only [putAt]
    simp [storeVar, sizeOf, typeInfo, hq, hv, hsz, hs, hst]
theorem wp_store_any {o : Oper} {a : Act} {w : World} {K : Act → World → Prop} {Q : Exit → Act → World → Prop} (ty : TypeId) (x y : Operand) (ho : o.op = .store ty x y)
    (g off : Nat) (hx : a.eval x = .pointer (some ⟨g, off, none⟩)) (t : TypeId) (cur : Array Value) (vs : List Value) (hv : (a.eval y).cells.toList = vs) (hg : w.heap[g]? = some (.cells cur t (0, 0)))
    (hi : (P.info? ty).map (·.size) = some vs.length) (hfit : off + vs.length ≤ cur.size) (h1 : ∀ u ∈ vs, u.oneCell' = true) (h : K (a.put o.dst undef) (w.setRow g (putAt cur.toList off vs).toArray)) : o.wp P a w K Q := by
  unfold Oper.wp execOp
  simp only [ho, hx, Instr.storeAt, Instr.sureAddr, Sem.run_bind, Sem.run_pure, Result.andThen_ok, run_storeVar_any w g off t ty cur _ vs hv hg hi hfit h1]
  exact h
/-- []T{x}: a block of one element. -/
theorem run_build1 (w : World) (t e : TypeId) (cs : List Value) {z : Value} {n b : Nat} (ht : P.underlying t = some (.slice e)) (hi : (P.info? e).map (fun i => (i.zero, i.size, i.bytes)) = some (some z, n, b)) (hn : cs.length = n) (h0 : 0 < n) (hle : n ≤ 16777216) :
    (Instr.buildSlice t 1 #[(0, .agg cs.toArray)]).run P w = .ok (.slice (some ⟨w.heap.size, 0, none⟩) 1 1) (w.alloc (.cells cs.toArray e)) := by
  obtain ⟨i0, hi0, hz0, hz1, hz2⟩ := infoG hi
  refine run_buildSlice w t e 1 _ cs.toArray i0 z ht hi0 hz0 (by rw [hz1]; simp only [Nat.reducePow]; omega) (by rw [hz1]; omega) ?_
  have hf := Great.fill_whole (s := n) h0 [.agg cs.toArray] ((Array.range (1 * i0.size)).map (z.cells[· % z.cells.size]!)) (fun v hv => by rw [List.mem_singleton.1 hv]; show cs.toArray.size = n; simpa using hn) (by simp [hz1])
  rw [hz1] at hf ⊢
  simpa [Value.cells] using hf
theorem step_build1 {ops : Array Oper} {o : Oper} {a : Act} {w : World} {K : Act → World → Prop} {E : Prop} {Q : Exit → Act → World → Prop} (hgd : o.guard = none) (t e : TypeId) (x : Operand) (ho : o.op = .buildSlice t 1 #[(0, x)])
    (cs : List Value) (hx : a.eval x = .agg cs.toArray) {z : Value} {n b : Nat} (ht : P.underlying t = some (.slice e)) (hi : (P.info? e).map (fun i => (i.zero, i.size, i.bytes)) = some (some z, n, b)) (hn : cs.length = n) (h0 : 0 < n) (hle : n ≤ 16777216)
    (hk : K (a.put o.dst (.slice (some ⟨w.heap.size, 0, none⟩) 1 1)) (w.alloc (.cells cs.toArray e))) : if Region.wanted o (yielded ops a.tmps) = true then Oper.wp P o a w K Q else E := by
  have hwn : Region.wanted o (yielded ops a.tmps) = true := by simp [Region.wanted, hgd]
  rw [if_pos hwn]
  unfold Oper.wp execOp
  have hr := run_build1 (P := P) w t e cs ht hi hn h0 hle
  have e1 : (#[(0, x)] : Array (Nat × Operand)).map (fun (i, x) => (i, a.eval x)) = #[(0, .agg cs.toArray)] := by simp [hx]
  simp only [ho, Sem.run_bind, e1, hr, Result.andThen_ok]
  exact hk
theorem step_store_any {ops : Array Oper} {o : Oper} {a : Act} {w : World} {K : Act → World → Prop} {E : Prop} {Q : Exit → Act → World → Prop} (hgd : o.guard = none) (ty : TypeId) (x y : Operand) (ho : o.op = .store ty x y)
    (g off : Nat) (hx : a.eval x = .pointer (some ⟨g, off, none⟩)) (t : TypeId) (cur : Array Value) (vs : List Value) (hv : (a.eval y).cells.toList = vs) (hg : w.heap[g]? = some (.cells cur t (0, 0)))
    (hi : (P.info? ty).map (·.size) = some vs.length) (hfit : off + vs.length ≤ cur.size) (h1 : ∀ u ∈ vs, u.oneCell' = true) (h : K (a.put o.dst undef) (w.setRow g (putAt cur.toList off vs).toArray)) : if Region.wanted o (yielded ops a.tmps) = true then Oper.wp P o a w K Q else E := by
  have hwn : Region.wanted o (yielded ops a.tmps) = true := by simp [Region.wanted, hgd]
  rw [if_pos hwn]
  exact wp_store_any ty x y ho g off hx t cur vs hv hg hi hfit h1 h
/-- copy, elements of many cells. -/
theorem run_copy_cells_n (w : World) (dT sT ty elem : TypeId) (g o dLen dCap : Nat) (a : Addr) (sLen sCap size : Nat) (cur : Array Value) (t : TypeId) (cs : List Value)
    (hu : P.underlying dT = some (.slice elem)) (hs : (P.info? elem).map (·.size) = some size)
    (hg : w.heap[g]? = some (.cells cur t (0, 0))) (hn : cs.length = Nat.min sLen dLen * size)
    (hsrc : ∀ j v, cs[j]? = some v → w.cell? (a.add j) = some v) (hfit : o + cs.length ≤ cur.size) (h1 : ∀ v ∈ cs, v.oneCell' = true) :
    (Builtin.copy_ #[dT, sT] ty #[.slice (some ⟨g, o, none⟩) dLen dCap, .slice (some a) sLen sCap]).run P w =
      .ok (goInt (Nat.min sLen dLen)) (w.setRow g (putAt cur.toList o cs).toArray) := by
  have hl := run_loadCells_list (P := P) w a cs hsrc
  have hst := run_storeCells_at P g o t cs 0 cur w hg (by simpa using hfit) h1
  simp only [putAt]
  cases hq : P.info? elem with
  | none => simp [hq] at hs
  | some i =>
    have hi : i.size = size := by simpa [hq] using hs
    simp [Builtin.copy_, run_underlying hu, Builtin.lenOf, Builtin.firstCells, sizeOf, typeInfo, hq, hi, ← hn, hl, hst]
end
/-! What a row that was set is. -/
theorem Mod.setRow {M : Nat → Prop} {w w' : World} (h : Mod M w w') {g : Nat} (hg : g < w.heap.size → M g) (cs : Array Value) : Mod M w (w'.setRow g cs) :=
  h.trans (M' := (· = g)) ⟨rfl, rfl, rfl, by simp, fun i _ hn => setRow_other w' g i cs hn⟩ (fun b e hb => by subst e; exact hg hb)
theorem Blk.setRow {w : World} {g : Nat} {t : TypeId} {cs : Array Value} (h : Blk w g t cs) (cs' : Array Value) : Blk (w.setRow g cs') g t cs' := setRow_heap w g cs cs' t (0, 0) h
/-- cells of a block, from some place on -/
theorem Blk.seg {w : World} {g : Nat} {t : TypeId} {l : List Value} (h : Blk w g t l.toArray) (off n : Nat) : ∀ j v, ((l.drop off).take n)[j]? = some v → w.cell? ((⟨g, off, none⟩ : Addr).add j) = some v := fun j v hv => by
  rw [add_mk, h.cell (off + j), List.getElem?_toArray]
  rw [List.getElem?_take] at hv
  split at hv
  · rwa [List.getElem?_drop] at hv
  · cases hv
theorem putAt_len {cur vs : List Value} {off : Nat} (h : off + vs.length ≤ cur.length) : (putAt cur off vs).length = cur.length := by simp [putAt]; omega
/-- bytes -/
def updB (cur : List Int) (off : Nat) (b : List Int) : List Int := cur.take off ++ b ++ cur.drop (off + b.length)
theorem updB_len {cur b : List Int} {off : Nat} (h : off + b.length ≤ cur.length) : (updB cur off b).length = cur.length := by simp [updB]; omega
theorem updB_byte {cur b : List Int} {off : Nat} (h : ∀ x ∈ cur, 0 ≤ x ∧ x ≤ 255) (h2 : ∀ x ∈ b, 0 ≤ x ∧ x ≤ 255) : ∀ x ∈ updB cur off b, 0 ≤ x ∧ x ≤ 255 := fun x hx => by
  rcases List.mem_append.1 hx with hx | hx
  · rcases List.mem_append.1 hx with hx | hx
    · exact h x (List.mem_of_mem_take hx)
    · exact h2 x hx
  · exact h x (List.mem_of_mem_drop hx)
theorem putAt_ic (k : IntKind) (cur b : List Int) (off : Nat) : putAt (ic k cur) off (ic k b) = ic k (updB cur off b) := by
  simp [putAt, updB, ic]
theorem ic_seg (k : IntKind) (l : List Int) (off n : Nat) : ((ic k l).drop off).take n = ic k ((l.drop off).take n) := by simp [ic, List.map_drop, List.map_take]
end Go.Proofs.Ytbbflddhbamjbaa
