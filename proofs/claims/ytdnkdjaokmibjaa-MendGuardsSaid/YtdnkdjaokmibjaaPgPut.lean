/- A field of one page of an own list is stored; a given list of pages. -/
import Derived.Test.YtdnkdjaokmibjaaPk
import Derived.Test.YtdnkdjaokmibjaaFinS
set_option linter.unusedSimpArgs false
set_option linter.unusedVariables false
namespace Go.Proofs.Ytdnkdjaokmibjaa
open Go.ChangeShapes Go.WideShapes Go.ChangeAt Go.RowKit Go.Deep

theorem Pg.cells_get (p : Pg) (A : Option Addr) (c : Nat) : (p.cells A c).length = 5 := rfl
theorem pg_put {w : World} {base g n c : Nat} {D : Nat → Prop} {l : List Pg} {e : TypeId} (h : OwnG PgR 5 e w base D (.slice (some ⟨g, 0, none⟩) n c) l) {j : Nat} (hj : j < l.length) (p : Addr) (hp9 : (⟨g, 0, none⟩ : Addr).add (j * 5) = p) :
    ∃ Aj cj, i64B l[j].seq ∧ p.block = g ∧ base ≤ g ∧ g < w.heap.size ∧ (∀ o, w.frozen? ⟨g, o, none⟩ = false) ∧ w.cell? p = some (.int .i64 l[j].seq) ∧ w.frozen? p = false ∧
      (∀ s, i64B s → ∃ l', l'.length = l.length ∧ RdPg (w.setCell p (.int .i64 s)) (fun b => b < w.heap.size) (some ⟨g, 0, none⟩) l') ∧
      w.cell? ⟨p.block, p.off + 3, none⟩ = some (.bool l[j].guard) ∧ w.frozen? ⟨p.block, p.off + 3, none⟩ = false ∧
      (∀ b, ∃ l', l'.length = l.length ∧ RdPg (w.setCell ⟨p.block, p.off + 3, none⟩ (.bool b)) (fun b => b < w.heap.size) (some ⟨g, 0, none⟩) l') ∧
      w.cell? ⟨p.block, p.off + 4, none⟩ = some (.slice Aj l[j].body.length cj) ∧ w.frozen? ⟨p.block, p.off + 4, none⟩ = false ∧
      (∃ l', l'.length = l.length ∧ RdPg (w.setCell ⟨p.block, p.off + 4, none⟩ (.slice none 0 0)) (fun b => b < w.heap.size) (some ⟨g, 0, none⟩) l') := by
  obtain ⟨_, _, hv0, _⟩ := h.form PgR.good
  simp only [Value.slice.injEq] at hv0
  obtain ⟨_, hn0, _⟩ := hv0
  subst hn0
  have hadd : ∀ k : Nat, (⟨g, 0, none⟩ : Addr).add k = ⟨g, k, none⟩ := fun k => by cases k <;> simp [Addr.add]
  obtain ⟨cells, how, hlen, hC⟩ := h
  have hlt := World.ownsRow.lt how g rfl
  have hcl := fun (i t : Nat) (u : Value) (hi : i < l.length) (ht : t < 5) (hu : ((cells.drop (i * 5)).take 5)[t]? = some u) => (show w.cell? ⟨g, i * 5 + t, none⟩ = some u by
    have h9 := World.ownsRow.cells how (g := g) rfl (i * 5 + t) u (by
      rw [List.getElem?_take, if_pos ht, List.getElem?_drop] at hu
      exact hu)
    rw [hadd] at h9; exact h9)
  have hfr := fun o => how.frozenAt o
  obtain ⟨Aj, cj, ej, e1, e2, e3⟩ := hC j hj
  have hp : (⟨g, 0, none⟩ : Addr).add (j * 5) = ⟨g, j * 5, none⟩ := hadd _
  have key : ∀ (k : Nat) (u : Value) (q : Pg) (A' : Option Addr) (c' : Nat), k < 5 → (l[j].cells Aj cj).set k u = q.cells A' c' → q.body.length ≤ c' → q.wf → ((A' = Aj ∧ q.body = l[j].body) ∨ q.body = []) →
      ∃ l' : List Pg, l'.length = l.length ∧ RdPg (w.setCell ⟨g, j * 5 + k, none⟩ u) (fun b => b < w.heap.size) (some ⟨g, 0, none⟩) l' := by
    intro k u q A' c' hk hq hqc hqw hqb
    have hM : Mod (fun b => b = g) w (w.setCell ⟨g, j * 5 + k, none⟩ u) := mod_put (Mod.refl _ _) (fun _ => rfl)
    refine ⟨l.set j q, List.length_set, fun i hi => ?_⟩
    have hil : i < l.length := by simpa using hi
    by_cases hij : i = j
    · subst hij
      refine ⟨_, q.cells A' c', rfl, hlt.2, ?_, fun t v hv => ?_⟩
      · rw [List.getElem_set_self]
        refine ⟨A', c', rfl, hqc, ?_, hqw⟩
        rcases hqb with ⟨rfl, hb⟩ | hb
        · rw [hb]
          exact (e2.keep hM (fun b hb _ => fun h9 => hb.2 (by simp [Value.ownBlock, h9]))).weak (fun b _ h9 => by simpa [World.setCell] using h9)
        · rw [hb]; exact RdS.nil_
      · have ht : t < 5 := by
          have := (List.getElem?_eq_some_iff.1 hv).1
          rw [Pg.cells_get] at this; exact this
        rw [← hq, List.getElem?_set] at hv
        have hA : (⟨g, 0, none⟩ : Addr).add (i * 5 + t) = ⟨g, i * 5 + t, none⟩ := hadd _
        rw [hA]
        by_cases htk : k = t
        · subst htk
          rw [if_pos rfl, if_pos (by rw [Pg.cells_get]; exact hk)] at hv
          injection hv with hv
          subst hv
          have h0 := hcl i k ((l[i].cells Aj cj)[k]'(by rw [Pg.cells_get]; exact hk)) hil hk (by rw [ej]; exact List.getElem?_eq_getElem _)
          rw [World.cell?_setCell_same _ _ _ h0]
        · rw [if_neg htk] at hv
          rw [World.cell?_setCell_other _ _ _ _ (by simp only [ne_eq, Addr.mk.injEq]; omega)]
          exact hcl i t v hil ht (by rw [ej]; exact hv)
    · refine ⟨_, (cells.drop (i * 5)).take 5, rfl, hlt.2, ?_, fun t v hv => ?_⟩
      · rw [List.getElem_set_ne (fun h => hij h.symm)]
        exact PgR.good.weak (PgR.good.keep (hC i hil) hM (fun b hb _ => fun h9 => hb.2 (by simp [Value.ownBlock, h9]))) (fun b _ h9 => by simpa [World.setCell] using h9)
      · have ht : t < 5 := by
          have := (List.getElem?_eq_some_iff.1 hv).1
          simp at this; omega
        have hA : (⟨g, 0, none⟩ : Addr).add (i * 5 + t) = ⟨g, i * 5 + t, none⟩ := hadd _
        rw [hA, World.cell?_setCell_other _ _ _ _ (by simp only [ne_eq, Addr.mk.injEq]; omega)]
        exact hcl i t v hil ht hv
  rw [hp] at hp9
  subst hp9
  refine ⟨Aj, cj, e3.1, rfl, hlt.1, hlt.2, hfr, hcl j 0 _ hj (by omega) (by rw [ej]; rfl), hfr _, fun s hs => key 0 _ ⟨s, l[j].first, l[j].last, l[j].guard, l[j].body⟩ Aj cj (by omega) rfl e1 ⟨hs, e3.2, e3.3⟩ (.inl ⟨rfl, rfl⟩),
    hcl j 3 _ hj (by omega) (by rw [ej]; rfl), hfr _, fun b => key 3 _ ⟨l[j].seq, l[j].first, l[j].last, b, l[j].body⟩ Aj cj (by omega) rfl e1 ⟨e3.1, e3.2, e3.3⟩ (.inl ⟨rfl, rfl⟩),
    hcl j 4 _ hj (by omega) (by rw [ej]; rfl), hfr _, key 4 _ ⟨l[j].seq, l[j].first, l[j].last, l[j].guard, []⟩ none 0 (by omega) rfl (Nat.le_refl _) ⟨e3.1, by simp, fun x hx => absurd hx (by simp)⟩ (.inr rfl)⟩

section
variable {P : Program} {w : World} {H : Type} {enc : TypeId × Value → H} {base : Nat} {held : Bool}
theorem pgS {t e : TypeId} {f0 f1 f2 f3 f4 : Field} {fuel : Nat} {cs : List Value} {x : DataW H × List MemPlace}
    (ht : P.underlying t = some (.struct #[f0, f1, f2, f3, f4])) (hone : oneCellFields P #[f0, f1, f2, f3, f4] = true) (hC : P.cellsOf t = 5)
    (h0 : P.underlying f0.type = some (.int .i64)) (h1 : P.underlying f1.type = some .bool) (h2 : P.underlying f2.type = some .bool) (h3 : P.underlying f3.type = some .bool)
    (h5 : P.underlying f4.type = some (.slice e)) (h6 : P.underlying e = some (.int .u8)) (hc : P.cellsOf e = 1) (hby : P.bytesOf e = 1)
    (h : DataW.trod enc P w base (fun _ => true) held fuel t cs = some x) (hw : ∀ n ∈ x.1.weights P t, n ≤ reachBytes) : ∃ q : Pg, PgR w (· < w.heap.size) cs q := by
  obtain ⟨hl, n, hf⟩ := fieldsS ht hone hC h hw
  match cs, hl with
  | [c0, c1, c2, c3, c4], _ =>
    obtain ⟨y0, t0, _⟩ := hf 0 f0 c0 rfl rfl
    obtain ⟨y1, t1, _⟩ := hf 1 f1 c1 rfl rfl
    obtain ⟨y2, t2, _⟩ := hf 2 f2 c2 rfl rfl
    obtain ⟨y3, t3, _⟩ := hf 3 f3 c3 rfl rfl
    obtain ⟨y4, t4, w4⟩ := hf 4 f4 c4 rfl rfl
    obtain ⟨a0, rfl, b0⟩ := open_i64 h0 t0
    obtain ⟨a1, rfl⟩ := open_bl h1 t1
    obtain ⟨a2, rfl⟩ := open_bl h2 t2
    obtain ⟨a3, rfl⟩ := open_bl h3 t3
    obtain ⟨A, c, l, rfl, l1, l2, l3, l4⟩ := bytesS h5 h6 hc hby t4 w4
    exact ⟨⟨a0, a1, a2, a3, l⟩, A, c, rfl, l1, RdI.rds l4, ⟨b0, by simp only; omega, l3⟩⟩
end
end Go.Proofs.Ytdnkdjaokmibjaa
