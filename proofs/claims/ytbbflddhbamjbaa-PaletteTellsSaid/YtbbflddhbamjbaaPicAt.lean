/- One plane of own planes. -/
import Derived.Test.YtbbflddhbamjbaaPicFacts
set_option linter.unusedSimpArgs false
set_option linter.unusedVariables false
namespace Go.Proofs.Ytbbflddhbamjbaa
open Go.RowKit
section
variable {w w' : World} {base : Nat} {eS e : TypeId} {k : IntKind} {v : Value} {ls : List (List Int)}
/-- One plane of own planes: where its header lies, and what becomes of all when this plane alone is written. -/
theorem OwnLL.at_ (h : OwnLL w base eS e k v ls) (hne : e ≠ eS) {j : Nat} (hj : j < ls.length) (hp : 0 < (ls.getD j []).length) :
    ∃ G C g c, v = .slice (some ⟨G, 0, none⟩) ls.length C ∧ ls.length ≤ C ∧ w.cell? ⟨G, j, none⟩ = some (.slice (some ⟨g, 0, none⟩) (ls.getD j []).length c) ∧ base ≤ g ∧ (ls.getD j []).length ≤ c ∧ (∃ cur, Blk w g e cur) ∧
      OwnI w base e k (.slice (some ⟨g, 0, none⟩) (ls.getD j []).length c) (ls.getD j []) ∧
      ∀ w' l', w.grownBy w' (some g) → l'.length = (ls.getD j []).length → OwnI w' base e k (.slice (some ⟨g, 0, none⟩) (ls.getD j []).length c) l' → OwnLL w' base eS e k v (ls.set j l') := by
  obtain ⟨hs, ho, hps, hd⟩ := h
  obtain ⟨A, c, h1, h2⟩ := hps j hj
  obtain ⟨g, c', hv, hbg, hlt, hc, _⟩ := h2.row hp
  simp only [Value.slice.injEq, true_and] at hv
  obtain ⟨rfl, rfl⟩ := hv
  have hcur : ∃ cur, Blk w g e cur := by
    rcases h2.2 with ⟨h', _⟩ | ⟨g', cap, cur, h', _, hg, _⟩
    · simp at h'
    · simp only [Value.slice.injEq, Option.some.injEq, Addr.mk.injEq, and_true, true_and] at h'
      obtain ⟨rfl, _⟩ := h'
      exact ⟨cur, hg⟩
  have hv : ∃ G C, v = .slice (some ⟨G, 0, none⟩) ls.length C ∧ ls.length ≤ C := by
    rcases ho.2 with ⟨_, h0⟩ | ⟨G, C, cur, hv, _, _, hn, _⟩
    · omega
    · exact ⟨G, C, hv, hn⟩
  obtain ⟨G, C, rfl, hC⟩ := hv
  refine ⟨G, C, g, c, rfl, hC, (by have := ho.cells (g := G) rfl j _ h1; rwa [add_mk, Nat.zero_add] at this), hbg, hc, hcur, h2, fun w' l' hg hl' hown => ⟨hs, by rw [List.length_set]; exact World.ownsRow.kept ho hg (by
    have := own_types ho h2 (Ne.symm hne)
    simpa [Value.ownBlock] using this), fun i hi => ?_, hd⟩⟩
  rw [List.length_set] at hi
  by_cases hij : i = j
  · subst hij
    have e1 : (ls.set i l').getD i [] = l' := by simp [List.getD, hj]
    rw [e1, hl']
    exact ⟨_, c, h1, hown⟩
  · have e1 : (ls.set j l').getD i [] = ls.getD i [] := by simp [List.getD, Ne.symm hij]
    rw [e1]
    obtain ⟨A', c', h3, h4⟩ := hps i hi
    refine ⟨A', c', h3, h4.kept hg ?_⟩
    rcases Nat.lt_or_gt_of_ne hij with hlt' | hlt'
    · have := hd i j _ _ hlt' h3 h1
      simpa [Value.ownBlock] using this
    · have := hd j i _ _ hlt' h1 h3
      rcases this with h | h
      · simp [Value.ownBlock] at h
      · exact .inr (Ne.symm h)
end
end Go.Proofs.Ytbbflddhbamjbaa
