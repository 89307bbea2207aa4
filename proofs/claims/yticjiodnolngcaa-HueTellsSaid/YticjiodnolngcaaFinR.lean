/- An argument that is a picture, opened, with the form's own bound of its memory. -/
import Derived.Test.YticjiodnolngcaaFinP
import Derived.SizedLaws
set_option linter.unusedSimpArgs false
set_option linter.unusedVariables false
namespace Go.Proofs.Yticjiodnolngcaa
open Go.ChangeShapes Go.WideShapes Go.ChangeAt Go.RowKit Go.Deep

theorem mem_weightsAll {H : Type} {P : Program} {e : TypeId} {d : DataW H} {n : Nat} (hn : n ∈ d.weights P e) : ∀ {l : List (DataW H)}, d ∈ l → n ∈ DataW.weightsAll P e l
  | x :: l, h => by
    rw [DataW.weightsAll, List.mem_append]
    rcases List.mem_cons.1 h with rfl | h
    · exact .inl hn
    · exact .inr (mem_weightsAll hn h)

theorem open_rdR {H : Type} {enc : TypeId × Value → H} {P : Program} {w : World} {base : Nat} {held : Bool} {t e : TypeId} {k : IntKind} {A : Option Addr} {n c : Nat} {d : DataW H} {p : List MemPlace}
    (ht : P.underlying t = some (.slice e)) (he : P.underlying e = some (.int k)) (hc : P.cellsOf e = 1) (hby : 1 ≤ P.bytesOf e) (h : DataW.Trod enc P w base (fun _ => true) held t (.slice A n c) d p) (hw : ∀ x ∈ d.weights P t, x ≤ reachBytes) :
    ∃ l : List Int, l.length = n ∧ l.length ≤ c ∧ l.length * P.bytesOf e ≤ reachBytes ∧ (∀ x ∈ l, (Lit.int k x).wf = true) ∧ RdI w w.heap.size k A l := by
  obtain ⟨l, h1, h2, h3, h4⟩ := open_rd ht he hc h
  refine ⟨l, h1, h2, ?_, h3, h4⟩
  obtain ⟨fuel, hf⟩ := h
  rcases open_ints ht he hc hf with ⟨hcs, _⟩ | ⟨x, l', c', zs, hcs, _, hl, hm, hz, hx, _⟩
  · simp [Value.cells] at hcs
    rw [h1, hcs.2.1]
    simp
  · simp [Value.cells] at hcs
    obtain ⟨_, rfl, rfl⟩ := hcs
    simp only [if_true] at hz
    simp only [Prod.mk.injEq] at hx
    have hmem := hw ((zs.take n).length * P.bytesOf e + (zs.drop n).length * P.bytesOf e) (by
      rw [hx.1, DataW.weights, ht]
      simp only [List.mem_cons]
      left
      rw [← Nat.add_mul]
      simp [lits])
    rw [List.length_take, List.length_drop, ← Nat.add_mul] at hmem
    refine Nat.le_trans (Nat.mul_le_mul_right _ ?_) hmem
    omega

theorem open_rdllR {H : Type} {enc : TypeId × Value → H} {P : Program} {w : World} {base : Nat} {held : Bool} {t e e2 : TypeId} {k : IntKind} {A : Option Addr} {n c : Nat} {d : DataW H} {p : List MemPlace}
    (ht : P.underlying t = some (.slice e)) (he : P.underlying e = some (.slice e2)) (he2 : P.underlying e2 = some (.int k)) (hc : P.cellsOf e = 1) (hc2 : P.cellsOf e2 = 1) (hby : 1 ≤ P.bytesOf e) (hby2 : 1 ≤ P.bytesOf e2)
    (h : DataW.Trod enc P w base (fun _ => true) held t (.slice A n c) d p) (hw : ∀ x ∈ d.weights P t, x ≤ reachBytes) :
    ∃ ls : List (List Int), ls.length = n ∧ ls.length ≤ c ∧ ls.length * P.bytesOf e ≤ reachBytes ∧ (∀ l ∈ ls, l.length * P.bytesOf e2 ≤ reachBytes ∧ ∀ x ∈ l, (Lit.int k x).wf = true) ∧ RdLL w w.heap.size k A ls := by
  obtain ⟨fuel, hf⟩ := h
  rcases open_slice1 ht hc hf with ⟨hcs, _⟩ | ⟨a, len, cap, m, fl, V, D, Pl, hcs, _, hl, hm, hmm, hx, hi⟩
  · simp [Value.cells] at hcs
    obtain ⟨rfl, rfl, rfl⟩ := hcs
    exact ⟨[], rfl, Nat.le_refl _, by simp, by simp, fun j hj => absurd hj (by simp)⟩
  · simp [Value.cells] at hcs
    obtain ⟨rfl, rfl, rfl⟩ := hcs
    simp only [if_true] at hmm
    subst hmm
    simp only [Prod.mk.injEq] at hx
    have hwd : ∀ i, i < n → ∀ x ∈ (D i).weights P e, x ≤ reachBytes := fun i hin x hxw => hw x (by
      rw [hx.1, DataW.weights, ht]
      simp only [List.mem_cons, List.mem_append]
      exact .inr (.inl (mem_weightsAll hxw (List.mem_map.2 ⟨i, List.mem_range.2 hin, rfl⟩))))
    have hwn : n * P.bytesOf e ≤ reachBytes := by
      refine Nat.le_trans (Nat.mul_le_mul_right _ ?_) (hw ((((List.range n).map D).length + ((List.range (m - n)).map fun j => D (n + j)).length) * P.bytesOf e) (by
        rw [hx.1, DataW.weights, ht]
        simp))
      simp
    have key : ∀ i, ∃ l : List Int, i < n → ∃ Ai ci, V i = .slice Ai l.length ci ∧ l.length ≤ ci ∧ l.length * P.bytesOf e2 ≤ reachBytes ∧ (∀ x ∈ l, (Lit.int k x).wf = true) ∧ RdI w w.heap.size k Ai l := fun i => by
      by_cases hin : i < n
      · obtain ⟨_, htr⟩ := hi i (by omega)
        obtain ⟨Ai, ni, ci, hv⟩ := Go.Joins.slice_form he htr
        simp only [List.cons.injEq, and_true] at hv
        have htr' : DataW.Trod enc P w base (fun _ => true) held e (.slice Ai ni ci) (D i) (Pl i) := ⟨fl, by rw [hv] at htr; exact htr⟩
        obtain ⟨l, h1, h2, h5, h3, h4⟩ := open_rdR he he2 hc2 hby2 htr' (hwd i hin)
        exact ⟨l, fun _ => ⟨Ai, ci, by rw [hv, h1], h2, h5, h3, h4⟩⟩
      · exact ⟨[], fun h => absurd h hin⟩
    refine ⟨(List.range n).map fun i => Classical.choose (key i), by simp, by simpa using hl, by simpa using hwn, fun l hl' => ?_, fun j hj => ?_⟩
    · obtain ⟨i, hir, rfl⟩ := List.mem_map.1 hl'
      obtain ⟨_, _, _, _, h5, h3, _⟩ := Classical.choose_spec (key i) (List.mem_range.1 hir)
      exact ⟨h5, h3⟩
    · have hjn : j < n := by simpa using hj
      have hg : ((List.range n).map fun i => Classical.choose (key i)).getD j [] = Classical.choose (key j) := by simp [List.getD, hjn]
      rw [hg]
      obtain ⟨Aj, cj, hv, h2, _, _, h4⟩ := Classical.choose_spec (key j) hjn
      have hcell := (hi j (by omega)).1
      rw [hv] at hcell
      refine ⟨a, Aj, cj, rfl, ?_, hcell, h2, h4⟩
      have := World.block_lt_of_cell? w _ hcell
      rwa [add_block] at this

theorem open_picR {H : Type} {enc : TypeId × Value → H} {P : Program} {w : World} {base b0 : Nat} {r : Reach} {held : Bool} {t e1 e2 : TypeId} {f0 f1 f2 f3 : Field} {v : Value} {d : DataW H} {p : List MemPlace}
    (ht : P.underlying t = some (.struct #[f0, f1, f2, f3])) (hone : oneCellFields P #[f0, f1, f2, f3] = true) (hC : P.cellsOf t = 4)
    (h0 : P.underlying f0.type = some (.int .i64)) (h1 : P.underlying f1.type = some (.int .i64)) (h2 : P.underlying f2.type = some (.int .i64)) (h3 : P.underlying f3.type = some (.slice e1))
    (h4 : P.underlying e1 = some (.slice e2)) (h5 : P.underlying e2 = some (.int .i64)) (hc : P.cellsOf e1 = 1) (hc2 : P.cellsOf e2 = 1) (hby : P.bytesOf e1 = 24) (hby2 : P.bytesOf e2 = 8)
    (hv : Value.okWide P w r b0 t v) (h : DataW.Trod enc P w base (fun _ => true) held t v d p) (hw : ∀ x ∈ d.weights P t, x ≤ reachBytes) :
    ∃ (q : Pc) (A : Option Addr) (c : Nat), v = .agg #[.int .i64 q.w, .int .i64 q.h, .int .i64 q.d, .slice A q.p.length c] ∧ (∀ x, x = q.w ∨ x = q.h ∨ x = q.d → (Lit.int .i64 x).wf = true) ∧ q.p.length ≤ c ∧
      (q.p.length ≤ 1099511627776000 ∧ ∀ l ∈ q.p, l.length ≤ 1099511627776000) ∧
      (∀ l ∈ q.p, ∀ x ∈ l, (Lit.int .i64 x).wf = true) ∧ RdLL w w.heap.size .i64 A q.p := by
  obtain ⟨v0, v1, v2, v3, y0, y1, y2, y3, n, rfl, rfl, rfl, t0, t1, t2, t3⟩ := Go.Joins.open_agg4 ht hone hC hv h
  obtain ⟨n0, hc0, _, w0⟩ := DataW.trod_int h0 t0
  obtain ⟨n1, hc1, _, w1⟩ := DataW.trod_int h1 t1
  obtain ⟨n2, hc2', _, w2⟩ := DataW.trod_int h2 t2
  obtain ⟨A, m, c, hv3⟩ := Go.Joins.slice_form h3 t3
  simp only [List.cons.injEq, and_true] at hc0 hc1 hc2' hv3
  subst hc0 hc1 hc2' hv3
  obtain ⟨ls, e, l1, l2, l3, l4⟩ := open_rdllR (enc := enc) (d := y3.1) (p := y3.2) h3 h4 h5 hc hc2 (by omega) (by omega) ⟨n, t3⟩ (fun x hx => hw x (by
    rw [DataW.weights, ht]
    exact DataW.weights_mem_each (j := 3) rfl rfl x hx))
  subst e
  rw [hby] at l2
  simp only [hby2, reachBytes] at l2 l3
  refine ⟨⟨n0, n1, n2, ls⟩, A, c, rfl, fun x hx => ?_, l1, ⟨by simp only; omega, fun l hl => by have := (l3 l hl).1; omega⟩, fun l hl => (l3 l hl).2, l4⟩
  rcases hx with rfl | rfl | rfl <;> assumption
end Go.Proofs.Yticjiodnolngcaa
