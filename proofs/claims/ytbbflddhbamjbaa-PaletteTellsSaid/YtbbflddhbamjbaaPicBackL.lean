/- A new plane laid into the row of own planes. -/
import Derived.Test.YtbbflddhbamjbaaPicPic
import Derived.Test.YtbbflddhbamjbaaPicAt
set_option linter.unusedSimpArgs false
set_option linter.unusedVariables false
namespace Go.Proofs.Ytbbflddhbamjbaa
open Go.RowKit
section
variable {w w0 : World} {base : Nat} {eS e : TypeId} {k : IntKind} {ls : List (List Int)}
theorem OwnLL.put {G n C : Nat} (h0 : OwnLL w0 base eS e k (.slice (some ⟨G, 0, none⟩) n C) ls) (hne : e ≠ eS) {g0 : Nat} (hg : w0.grownBy w (some g0)) (hg0 : g0 < base ∨ w0.heap.size ≤ g0) {i : Nat} (hi : i < ls.length)
    {A1 : Option Addr} {c1 : Nat} {l1 : List Int} (hown : OwnI w base e k (.slice A1 l1.length c1) l1) (hlo : ∀ ad, A1 = some ad → w0.heap.size ≤ ad.block) :
    OwnLL (w.setCell ⟨G, i, none⟩ (.slice A1 l1.length c1)) base eS e k (.slice (some ⟨G, 0, none⟩) n C) (ls.set i l1) := by
  obtain ⟨hs, ho0, hp0, hd⟩ := h0
  have ho := World.ownsRow.kept ho0 hg (own_not ho0 hg0)
  have hlh : hs.length = ls.length := by have := ho.1; omega
  have hn : n = ls.length := by
    rcases ho.2 with ⟨hh, _⟩ | ⟨_, _, _, hv, _⟩
    · simp at hh
    · simp only [Value.slice.injEq] at hv
      exact hv.2.1
  subst hn
  obtain ⟨hst, hgr⟩ := World.ownsRow.stored ho i (.slice A1 l1.length c1)
  have hkeep : ∀ (x : Value) (y : List Int), OwnI w base e k x y → OwnI (w.setCell ⟨G, i, none⟩ (.slice A1 l1.length c1)) base e k x y := fun x y hx => hx.kept hgr (own_types hx ho hne)
  refine ⟨hs.set i (.slice A1 l1.length c1), by rw [List.length_set]; exact hst, fun j hj => ?_, fun a b u u' hab hu hu' => ?_⟩
  · rw [List.length_set] at hj
    rw [getD_set hj]
    by_cases hji : j = i
    · subst hji
      rw [if_pos rfl]
      exact ⟨A1, c1, by rw [List.getElem?_set_self (by omega)], hkeep _ _ hown⟩
    · rw [if_neg hji]
      obtain ⟨A, c, h1, h2⟩ := hp0 j hj
      exact ⟨A, c, by rw [List.getElem?_set_ne (Ne.symm hji)]; exact h1, hkeep _ _ (h2.kept hg (own_not h2 hg0))⟩
  · have hfar : ∀ (j : Nat) (u : Value), j ≠ i → hs[j]? = some u → u.ownBlock = none ∨ (Value.slice A1 l1.length c1).ownBlock = none ∨ u.ownBlock ≠ (Value.slice A1 l1.length c1).ownBlock := fun j u hji hu => by
      have hj : j < ls.length := by rw [← hlh]; exact (List.getElem?_eq_some_iff.1 hu).1
      obtain ⟨A, c, h1, h2⟩ := hp0 j hj
      rw [h1] at hu
      injection hu with hu
      subst hu
      cases A with
      | none => exact .inl rfl
      | some ad =>
        cases A1 with
        | none => exact .inr (.inl rfl)
        | some ad1 =>
          refine .inr (.inr fun hb => ?_)
          have h7 := (World.ownsRow.lt h2 ad.block rfl).2
          have h8 := hlo ad1 rfl
          simp only [Value.ownBlock, Option.some.injEq] at hb
          omega
    by_cases hai : a = i
    · subst hai
      rw [List.getElem?_set_self (by rw [hlh]; exact hi)] at hu
      injection hu with hu
      subst hu
      rw [List.getElem?_set_ne (by omega)] at hu'
      rcases hfar b u' (by omega) hu' with h | h | h
      · cases hA : (Value.slice A1 l1.length c1).ownBlock with
        | none => exact .inl rfl
        | some x => rw [h]; exact .inr (by simp)
      · exact .inl h
      · exact .inr (Ne.symm h)
    · rw [List.getElem?_set_ne (Ne.symm hai)] at hu
      by_cases hbi : b = i
      · subst hbi
        rw [List.getElem?_set_self (by rw [hlh]; exact hi)] at hu'
        injection hu' with hu'
        subst hu'
        rcases hfar a u hai hu with h | h | h
        · exact .inl h
        · rw [h]
          cases hA : u.ownBlock with
          | none => exact .inl rfl
          | some x => exact .inr (by simp)
        · exact .inr h
      · rw [List.getElem?_set_ne (Ne.symm hbi)] at hu'
        exact hd a b u u' hab hu hu'
end
end Go.Proofs.Ytbbflddhbamjbaa
