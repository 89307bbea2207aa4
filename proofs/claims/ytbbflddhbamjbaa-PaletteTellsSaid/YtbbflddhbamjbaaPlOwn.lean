/- Own rows of numbers: one number written, rows made empty. -/
import Derived.Test.YtbbflddhbamjbaaPicBackL
import Derived.Test.YtbbflddhbamjbaaLb
set_option linter.unusedSimpArgs false
set_option linter.unusedVariables false
namespace Go.Proofs.Ytbbflddhbamjbaa
open Go.RowKit
section
variable {w w' : World} {base : Nat} {eS e : TypeId} {k : IntKind} {v : Value} {ls : List (List Int)}
theorem OwnLL.cell_ (h : OwnLL w base eS e k v ls) (hne : e ≠ eS) {j i : Nat} (hj : j < ls.length) (hi : i < (ls.getD j []).length) :
    ∃ G C g c, v = .slice (some ⟨G, 0, none⟩) ls.length C ∧ ls.length ≤ C ∧ w.cell? ⟨G, j, none⟩ = some (.slice (some ⟨g, 0, none⟩) (ls.getD j []).length c) ∧ (ls.getD j []).length ≤ c ∧ base ≤ g ∧ w.cell? ⟨g, i, none⟩ = some (.int k ((ls.getD j []).getD i 0)) ∧ w.frozen? ⟨g, i, none⟩ = false ∧ (∃ cur, Blk w g e cur) ∧
      ∀ x, OwnLL (w.setCell ⟨g, i, none⟩ (.int k x)) base eS e k v (ls.set j ((ls.getD j []).set i x)) := by
  obtain ⟨G, C, g, c, hv, hC, hcell, hbg, hc, hcur, hown, hupd⟩ := h.at_ hne hj (by omega)
  obtain ⟨g', c', hv', hb', hlt', hc', hcl, hfr, hset⟩ := hown.row (by omega)
  simp only [Value.slice.injEq, Option.some.injEq, Addr.mk.injEq, and_true, true_and] at hv'
  obtain ⟨rfl, rfl⟩ := hv'
  exact ⟨G, C, g, c, hv, hC, hcell, hc, hbg, hcl i hi, hfr i, hcur, fun x => hupd _ _ (only_setCell (only_refl _ _) (.inl rfl) _) (by rw [List.length_set]) (hset i x)⟩
theorem OwnLL.drew (h : OwnLL w base eS e k v ls) : OwnLL w.drew base eS e k v ls := h.below (Below.drew (Below.refl _ _))
theorem OwnLL.head {G n C : Nat} (h : OwnLL w base eS e k (.slice (some ⟨G, 0, none⟩) n C) ls) : base ≤ G ∧ G < w.heap.size ∧ ∀ j, j < ls.length → (∃ u, w.cell? ⟨G, j, none⟩ = some u) ∧ w.frozen? ⟨G, j, none⟩ = false := by
  obtain ⟨hs, ho, _, _⟩ := h
  have hlt := World.ownsRow.lt ho G rfl
  refine ⟨hlt.1, hlt.2, fun j hj => ⟨?_, ?_⟩⟩
  · have hl1 : j < hs.length := by have := ho.1; omega
    have h1 := ho.cells (g := G) rfl j _ (List.getElem?_eq_getElem hl1)
    exact ⟨_, by rwa [add_mk, Nat.zero_add] at h1⟩
  · rcases ho.2 with ⟨h', _⟩ | ⟨g', cap, cur, h', _, hg, _⟩
    · cases h'
    · simp only [Value.slice.injEq, Option.some.injEq, Addr.mk.injEq, and_true, true_and] at h'
      obtain ⟨rfl, _⟩ := h'
      exact Blk.frozen hg j
theorem OwnLL.made (w : World) (hb : base ≤ w.heap.size) {n : Nat} (hn : n ≤ 1000000) : OwnLL (w.alloc (.cells (Array.replicate n (.slice none 0 0)) eS)) base eS e k (.slice (some ⟨w.heap.size, 0, none⟩) n n) (List.replicate n []) := by
  have h := World.ownsRow_lit (base := base) (e := eS) (size := 1) w (Array.replicate n (.slice none 0 0)) n hb (by simp only [maxLen]; omega) (by simp)
  refine ⟨(Array.replicate n (Value.slice none 0 0)).toList, by rw [List.length_replicate]; exact h, fun j hj => ?_, fun i j u u' hij hu hu' => ?_⟩
  · rw [List.length_replicate] at hj
    have e1 : (List.replicate n ([] : List Int)).getD j [] = [] := by simp [List.getD_eq_getElem?_getD, List.getElem?_replicate]; split <;> rfl
    rw [e1]
    exact ⟨none, 0, by simp [hj], OwnI.nil_ _ _ _ _⟩
  · left
    have : u ∈ (Array.replicate n (Value.slice none 0 0)).toList := List.mem_of_getElem? hu
    simp at this
    rw [this.2]; rfl
end
end Go.Proofs.Ytbbflddhbamjbaa
