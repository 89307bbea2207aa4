/- HueGrey: the plain law, and the end of the region that lays the three planes. -/
import Derived.Test.YticjiodnolngcaaHueGreyM
import Derived.Test.YticjiodnolngcaaHueK
set_option linter.unusedSimpArgs false
set_option linter.unusedVariables false
namespace Go.Proofs.Yticjiodnolngcaa
open Go.RowKit

theorem foldP_zero {d : Int} (hd : 1 ≤ d ∧ d ≤ 16) : foldP 0 d = 0 := by
  have h1 : (0 : Int) < 2 ^ (d.toNat - 1) := Int.pow_pos (by decide)
  rw [foldP, if_pos hd, Int.zero_emod, if_pos h1]
theorem grey_sel {d : Nat} (hd : 1 ≤ (d : Int) ∧ (d : Int) ≤ 16) {k : Int} (hk : 1 ≤ k ∧ k ≤ 4) {a : Int} (ha : 0 ≤ a ∧ a < 2 ^ d) {j : Nat} (hj : j < 3) :
    (foreC k d ⟨a, a, a, 0⟩).sel j = if (j : Int) = (if k = 1 then 1 else 0) then a else 0 := by
  have hp := (pow_16 (k := d) (by omega) (by omega)).1
  have w0 : wrapP 0 (d : Int) = 0 := wrapP_id hd ⟨by omega, by rw [Int.toNat_natCast]; omega⟩
  have wa : wrapP a (d : Int) = a := wrapP_id hd (by rw [Int.toNat_natCast]; exact ha)
  have f0 := foldP_zero hd
  have t0 : fore2t ⟨a, a, a, 0⟩ (d : Int) = a := by simp only [fore2t, Int.sub_self, w0, f0, Int.zero_ediv, Int.add_zero, wa]
  rcases (show k = 1 ∨ k = 2 ∨ k = 3 ∨ k = 4 by omega) with rfl | rfl | rfl | rfl <;>
  rcases (show j = 0 ∨ j = 1 ∨ j = 2 by omega) with rfl | rfl | rfl <;>
  simp [foreC, C4.sel, w0, wa, f0, t0]
theorem hue_grey {d : Nat} (hd : 1 ≤ (d : Int) ∧ (d : Int) ≤ 16) {k : Int} (hk : 1 ≤ k ∧ k ≤ 4) {q : List Int} {N : Nat} (hN : q.length = N) (hq : ∀ v ∈ q, 0 ≤ v ∧ v < 2 ^ d) :
    hueLL (foreC k d) [q, q, q] N = (List.range 3).map (fun j : Nat => if (j : Int) = (if k = 1 then 1 else 0) then q else List.replicate N 0) := by
  subst hN
  rw [hueLL, show [q, q, q].length = 3 from rfl]
  refine List.map_congr_left fun j hj => ?_
  have hj3 : j < 3 := List.mem_range.1 hj
  have hr : ∀ i, i < q.length → (foreC k d (colC [q, q, q] i)).sel j = if (j : Int) = (if k = 1 then 1 else 0) then q.getD i 0 else 0 := fun i hi => by
    rw [show colC [q, q, q] i = ⟨q.getD i 0, q.getD i 0, q.getD i 0, 0⟩ by simp [colC]]
    exact grey_sel hd hk (hq _ (by rw [List.getD_eq_getElem?_getD, List.getElem?_eq_getElem hi]; exact List.getElem_mem hi)) hj3
  refine List.ext_getElem (by
    by_cases hc : (j : Int) = (if k = 1 then 1 else 0)
    · rw [if_pos hc]; simp
    · rw [if_neg hc]; simp) fun i h1 h2 => ?_
  simp only [List.length_map, List.length_range] at h1
  rw [List.getElem_map, List.getElem_range, hr i h1]
  by_cases hc : (j : Int) = (if k = 1 then 1 else 0)
  · simp only [if_pos hc, List.getD_eq_getElem?_getD, List.getElem?_eq_getElem h1, Option.getD_some]
  · simp only [if_neg hc, List.getElem_replicate]
theorem grey_three {A B C : List Int} {f : Nat → List Int} (h0 : f 0 = A) (h1 : f 1 = B) (h2 : f 2 = C) : (List.range 3).map f = [A, B, C] := by
  subst h0 h1 h2
  rfl

section
variable {w w' : World}
theorem row_below {base : Nat} {e : TypeId} {s n : Nat} {v : Value} {xs : List Value} (h : w.ownsRow base e s v n xs) (hb : Below w.heap.size w w') : w'.ownsRow base e s v n xs :=
  World.ownsRow.kept h (row := none) ⟨hb.os, hb.tape, hb.output, hb.size, fun j hj _ => hb.block j hj⟩ (by cases v.ownBlock <;> simp)
theorem OwnI.cell1 {base : Nat} {e : TypeId} {k : IntKind} {v : Value} {l : List Int} (h : OwnI w base e k v l) : v.oneCell' = true := by
  rcases h.2 with ⟨rfl, _⟩ | ⟨g, cap, cur, rfl, _⟩ <;> rfl
theorem OwnI.offB {base g : Nat} {e t : TypeId} {k : IntKind} {A : Option Addr} {m c : Nat} {l : List Int} {cs : Array Value} (h : OwnI w base e k (.slice A m c) l) (hb : Blk w g t cs) (hne : e ≠ t) : ∀ ad, A = some ad → ad.block ≠ g := fun ad hA e9 => by
  subst hA
  rcases h.2 with ⟨hv, _⟩ | ⟨g', cap, cur, hv, _, hg, _⟩
  · simp at hv
  · simp only [Value.slice.injEq, Option.some.injEq] at hv
    obtain ⟨rfl, _⟩ := hv
    simp only at e9
    subst e9
    have := hg.symm.trans hb
    injection this with h9
    injection h9 with _ h9
    exact hne h9
/-- A cell set in a block of another type. -/
theorem OwnI.setAt {base g : Nat} {e t : TypeId} {k : IntKind} {v : Value} {l : List Int} {cs : Array Value} (h : OwnI w base e k v l) (hb : Blk w g t cs) (hne : e ≠ t) (j : Nat) (u : Value) : OwnI (w.setCell ⟨g, j, none⟩ u) base e k v l := by
  refine World.ownsRow.kept h (only_setCell (World.grownBy.refl w (some g)) (p := ⟨g, j, none⟩) (.inl rfl) u) ?_
  obtain ⟨A, c, rfl, _⟩ := h.form
  cases A with
  | none => exact .inl rfl
  | some ad => exact .inr (fun e9 => by
      have e8 : ad.block = g := by simpa [Value.ownBlock] using e9
      exact h.offB hb hne ad rfl e8)
theorem OwnI.cells3 {base : Nat} {e : TypeId} {v : Value} {l : List Int} (h : OwnI w base e .i64 v l) : ∃ A c, v = .slice A l.length c ∧ l.length ≤ c ∧ RdI w w.heap.size .i64 A l := by
  obtain ⟨A, c, h1, h2, h3, _⟩ := h.form
  exact ⟨A, c, h1, h2, h3⟩
/-- The three headers laid: the row that the box gB then holds. -/
theorem greyEnd {base base' base2 gB : Nat} {eS e t : TypeId} {v9 u0 va vb : Value} {q : List Int} {cs : Array Value} (hrow : w.ownsRow base eS 1 v9 3 [u0, va, vb]) (kB : Blk w gB t cs) (h0 : OwnI w base' e .i64 u0 q) (ha : OwnI w base2 e .i64 va q) (hb : OwnI w base2 e .i64 vb q) (hne : e ≠ t) (hneS : eS ≠ t) :
    ∃ g3 c3, v9 = .slice (some ⟨g3, 0, none⟩) 3 c3 ∧ Blk (w.setCell ⟨gB, 3, none⟩ v9) gB t (cs.setIfInBounds 3 v9) ∧ RdLL (w.setCell ⟨gB, 3, none⟩ v9) (w.setCell ⟨gB, 3, none⟩ v9).heap.size .i64 (some ⟨g3, 0, none⟩) [q, q, q] := by
  rcases hrow.2 with ⟨_, h9⟩ | ⟨g, cap, cur, hv, hbg, hg, hn, _⟩
  · omega
  · have hgl : g < w.heap.size := (Array.getElem?_eq_some_iff.1 hg).1
    refine ⟨g, cap, hv, kB.set_ 3 v9, fun j hj => ?_⟩
    have hgB : g ≠ gB := fun e9 => by
      subst e9
      have := hg.symm.trans kB
      injection this with h8
      injection h8 with _ h8
      exact hneS h8
    have hz : (w.setCell ⟨gB, 3, none⟩ v9).heap.size = w.heap.size := by simp
    have hj3 : j = 0 ∨ j = 1 ∨ j = 2 := by
      have : j < 3 := hj
      omega
    have key : ∀ (b : Nat) (u : Value), OwnI w b e .i64 u q → [u0, va, vb][j]? = some u → ∃ ad Aj cj, (some (⟨g, 0, none⟩ : Addr)) = some ad ∧ ad.block < (w.setCell ⟨gB, 3, none⟩ v9).heap.size ∧ (w.setCell ⟨gB, 3, none⟩ v9).cell? (ad.add j) = some (.slice Aj q.length cj) ∧ q.length ≤ cj ∧ RdI (w.setCell ⟨gB, 3, none⟩ v9) (w.setCell ⟨gB, 3, none⟩ v9).heap.size .i64 Aj q := fun b u ho hu => by
      obtain ⟨A, c, rfl, h2, h3⟩ := (ho.setAt kB hne 3 v9).cells3
      have hc := World.ownsRow.cells hrow (g := g) (by rw [hv]; rfl) j _ hu
      refine ⟨_, A, c, rfl, by rw [hz]; exact hgl, ?_, h2, h3⟩
      rw [World.cell?_setCell_far _ _ _ _ (by
        rw [add_block]
        exact fun e9 => hgB (by first | exact e9 | exact e9.symm))]
      exact hc
    rcases hj3 with rfl | rfl | rfl
    · exact key _ _ h0 rfl
    · exact key _ _ ha rfl
    · exact key _ _ hb rfl
end
end Go.Proofs.Yticjiodnolngcaa
