/- Arguments that are slices of structs, opened, with the form's own bound of their memory. -/
import Derived.Test.YtdnkdjaokmibjaaFinK
import Derived.SizedLaws
set_option linter.unusedSimpArgs false
set_option linter.unusedVariables false
namespace Go.Proofs.Ytdnkdjaokmibjaa
open Go.ChangeShapes Go.WideShapes Go.ChangeAt Go.RowKit Go.Deep

theorem mem_weightsAllS {H : Type} {P : Program} {e : TypeId} {d : DataW H} {n : Nat} (hn : n ∈ d.weights P e) : ∀ {l : List (DataW H)}, d ∈ l → n ∈ DataW.weightsAll P e l
  | x :: l, h => by
    rw [DataW.weightsAll, List.mem_append]
    rcases List.mem_cons.1 h with rfl | h
    · exact .inl hn
    · exact .inr (mem_weightsAllS hn h)

section
variable {H : Type} {enc : TypeId × Value → H} {P : Program} {w : World} {base : Nat} {held : Bool}
/-- The fields of a struct, each with a reading of its own and its own part of the datum. -/
theorem fieldsS {t : TypeId} {fs : Array Field} {fuel : Nat} {cs : List Value} {x : DataW H × List MemPlace} (hs : P.underlying t = some (.struct fs)) (hone : oneCellFields P fs = true) (hC : P.cellsOf t = fs.size)
    (h : DataW.trod enc P w base (fun _ => true) held fuel t cs = some x) (hw : ∀ n ∈ x.1.weights P t, n ≤ reachBytes) :
    cs.length = fs.size ∧ ∃ n : Nat, ∀ (i : Nat) (f : Field) (u : Value), fs[i]? = some f → cs[i]? = some u → ∃ y, DataW.trod enc P w base (fun _ => true) held n f.type [u] = some y ∧ ∀ m ∈ y.1.weights P f.type, m ≤ reachBytes := by
  obtain ⟨xs, n, _, hx, hl, hlen, hg⟩ := DataW.trod_struct hs h
  refine ⟨hl.trans hC, n, fun i f u hi hu => ?_⟩
  obtain ⟨ho, hk⟩ := hone_of hone i f hi
  have h1 := hg i f hi
  rw [ho, hk] at h1
  have hil : i < cs.length := (List.getElem?_eq_some_iff.1 hu).1
  have h2 : (cs.drop i).take 1 = [u] := by
    rw [List.drop_eq_getElem_cons hil, (List.getElem?_eq_some_iff.1 hu).2]; rfl
  rw [h2] at h1
  have hf : i < fs.size := (Array.getElem?_eq_some_iff.1 hi).1
  have hxi : i < xs.length := by rw [hlen]; exact hf
  refine ⟨xs[i], h1.trans (List.getElem?_eq_getElem hxi), fun m hm => hw m ?_⟩
  have e : x.1 = .agg (xs.map (·.1)) := by rw [hx]
  rw [e, DataW.weights, hs]
  refine DataW.weights_mem_each (j := i) (t := f.type) (d := xs[i].1) ?_ ?_ m hm
  · rw [List.getElem?_map, Array.getElem?_toList, hi]; rfl
  · rw [List.getElem?_map, List.getElem?_eq_getElem hxi]; rfl
theorem bytesS {t e : TypeId} {u : Value} {fuel : Nat} {y : DataW H × List MemPlace} (ht : P.underlying t = some (.slice e)) (he : P.underlying e = some (.int .u8)) (hc : P.cellsOf e = 1) (hby : P.bytesOf e = 1)
    (h : DataW.trod enc P w base (fun _ => true) held fuel t [u] = some y) (hw : ∀ n ∈ y.1.weights P t, n ≤ reachBytes) :
    ∃ (A : Option Addr) (c : Nat) (l : List Int), u = .slice A l.length c ∧ l.length ≤ c ∧ l.length ≤ 140737488351232 ∧ byteB l ∧ RdI w w.heap.size .u8 A l := by
  obtain ⟨A, c, l, rfl, h1, _, h3, h4⟩ := open_bytes ht he hc h
  refine ⟨A, c, l, rfl, h1, ?_, h3, h4⟩
  rcases open_ints ht he hc h with ⟨hcs, _⟩ | ⟨x, l', c', zs, hcs, _, hl, hm, hz, hx, _⟩
  · simp at hcs
    omega
  · simp at hcs
    obtain ⟨_, hl', hc'⟩ := hcs
    simp only [if_true] at hz
    have hmem := hw ((zs.take l').length * P.bytesOf e + (zs.drop l').length * P.bytesOf e) (by
      have e2 : y.1 = _ := congrArg Prod.fst hx
      rw [e2, DataW.weights, ht]
      simp only [List.mem_cons]
      left
      rw [← Nat.add_mul]
      simp [lits])
    rw [List.length_take, List.length_drop, ← Nat.add_mul, hby] at hmem
    simp only [reachBytes] at hmem
    omega
theorem pkS {t e : TypeId} {f0 f1 f2 f3 f4 f5 : Field} {fuel : Nat} {cs : List Value} {x : DataW H × List MemPlace}
    (ht : P.underlying t = some (.struct #[f0, f1, f2, f3, f4, f5])) (hone : oneCellFields P #[f0, f1, f2, f3, f4, f5] = true) (hC : P.cellsOf t = 6)
    (h0 : P.underlying f0.type = some (.int .i64)) (h1 : P.underlying f1.type = some (.int .i64)) (h2 : P.underlying f2.type = some (.int .i64)) (h3 : P.underlying f3.type = some .bool) (h4 : P.underlying f4.type = some .bool)
    (h5 : P.underlying f5.type = some (.slice e)) (h6 : P.underlying e = some (.int .u8)) (hc : P.cellsOf e = 1) (hby : P.bytesOf e = 1)
    (h : DataW.trod enc P w base (fun _ => true) held fuel t cs = some x) (hw : ∀ n ∈ x.1.weights P t, n ≤ reachBytes) : ∃ q : Pk, PkR w (· < w.heap.size) cs q := by
  obtain ⟨hl, n, hf⟩ := fieldsS ht hone hC h hw
  match cs, hl with
  | [c0, c1, c2, c3, c4, c5], _ =>
    obtain ⟨y0, t0, _⟩ := hf 0 f0 c0 rfl rfl
    obtain ⟨y1, t1, _⟩ := hf 1 f1 c1 rfl rfl
    obtain ⟨y2, t2, _⟩ := hf 2 f2 c2 rfl rfl
    obtain ⟨y3, t3, _⟩ := hf 3 f3 c3 rfl rfl
    obtain ⟨y4, t4, _⟩ := hf 4 f4 c4 rfl rfl
    obtain ⟨y5, t5, w5⟩ := hf 5 f5 c5 rfl rfl
    obtain ⟨a0, rfl, b0⟩ := open_i64 h0 t0
    obtain ⟨a1, rfl, b1⟩ := open_i64 h1 t1
    obtain ⟨a2, rfl, b2⟩ := open_i64 h2 t2
    obtain ⟨a3, rfl⟩ := open_bl h3 t3
    obtain ⟨a4, rfl⟩ := open_bl h4 t4
    obtain ⟨A, c, l, rfl, l1, l2, l3, l4⟩ := bytesS h5 h6 hc hby t5 w5
    exact ⟨⟨a0, a1, a2, a3, a4, l⟩, A, c, rfl, l1, RdI.rds l4, ⟨b0, b1, b2, by simp only; omega, l3⟩⟩
/-- A slice of elements of whatever kind. -/
theorem open_rdg {α : Type} {R : Rel α} {size : Nat} {t e : TypeId} {A : Option Addr} {n c : Nat} {d : DataW H} {p : List MemPlace} (g : R.Good size) (ht : P.underlying t = some (.slice e)) (hC : P.cellsOf e = size)
    (h : DataW.Trod enc P w base (fun _ => true) held t (.slice A n c) d p) (hw : ∀ m ∈ d.weights P t, m ≤ reachBytes)
    (hel : ∀ fuel cs x, DataW.trod enc P w base (fun _ => true) held fuel e cs = some x → (∀ m ∈ x.1.weights P e, m ≤ reachBytes) → ∃ q, R w (· < w.heap.size) cs q) :
    ∃ xs : List α, xs.length = n ∧ xs.length ≤ c ∧ c ≤ 9223372036854775807 ∧ RdG R size w (· < w.heap.size) A xs := by
  obtain ⟨fuel, hf⟩ := h
  rcases open_slice ht hf with ⟨hcs, _⟩ | ⟨a, len, cap, m, n', D, Pl, hcs, _, hl, hm, hmm, hx, hi⟩
  · simp [Value.cells] at hcs
    obtain ⟨rfl, rfl, rfl⟩ := hcs
    exact ⟨[], rfl, Nat.le_refl _, by omega, fun j hj => absurd hj (by simp)⟩
  · simp [Value.cells] at hcs
    obtain ⟨rfl, rfl, rfl⟩ := hcs
    simp only [if_true] at hmm
    subst hmm
    simp only [Prod.mk.injEq] at hx
    have hwd : ∀ i, i < n → ∀ x ∈ (D i).weights P e, x ≤ reachBytes := fun i hin x hxw => hw x (by
      rw [hx.1, DataW.weights, ht]
      simp only [List.mem_cons, List.mem_append]
      exact .inr (.inl (mem_weightsAllS hxw (List.mem_map.2 ⟨i, List.mem_range.2 hin, rfl⟩))))
    have key : ∀ i, i < n → ∃ q cs, R w (· < w.heap.size) cs q ∧ ∀ j u, cs[j]? = some u → w.cell? (a.add (i * size + j)) = some u := fun i hin => by
      obtain ⟨cs', hcell, htr⟩ := hi i (by omega)
      obtain ⟨q, hq⟩ := hel _ _ _ htr (hwd i hin)
      obtain ⟨_, hlen, hat⟩ := World.cells?_some hcell
      refine ⟨q, cs', hq, fun j u hu => ?_⟩
      have hj : j < P.cellsOf e := by rw [← hlen]; exact (List.getElem?_eq_some_iff.1 hu).1
      rw [← add_add', ← hC, hat j hj, hu]
    have hch : ∃ f : Fin n → α, ∀ i : Fin n, ∃ cs, R w (· < w.heap.size) cs (f i) ∧ ∀ j u, cs[j]? = some u → w.cell? (a.add (i.val * size + j)) = some u :=
      ⟨fun i => Classical.choose (key i.val i.isLt), fun i => Classical.choose_spec (key i.val i.isLt)⟩
    obtain ⟨f, hf9⟩ := hch
    refine ⟨List.ofFn f, by simp, by simpa using hl, by unfold maxLen at hm; exact hm, fun j hj => ?_⟩
    have hjn : j < n := by simpa using hj
    obtain ⟨cs, h1, h2⟩ := hf9 ⟨j, hjn⟩
    have e1 : (List.ofFn f)[j] = f ⟨j, hjn⟩ := by simp
    refine ⟨a, cs, rfl, ?_, by rw [e1]; exact h1, h2⟩
    have hp := g.pos
    have hcl := g.len h1
    have h3 := h2 0 cs[0] (List.getElem?_eq_getElem (by omega))
    have := World.block_lt_of_cell? w _ h3
    rwa [add_block] at this
end
end Go.Proofs.Ytdnkdjaokmibjaa
