/- What a picture that may be is; slices of slices carried on. -/
import Derived.Test.YtbbflddhbamjbaaPicClone
set_option linter.unusedSimpArgs false
set_option linter.unusedVariables false
namespace Go.Proofs.Ytbbflddhbamjbaa
open Go.RowKit

/-- What a slice of slices is, by its lists: bounds of lengths. -/
def Len63 (ls : List (List Int)) : Prop := ls.length ≤ 9223372036854775807 ∧ ∀ l ∈ ls, l.length ≤ 9223372036854775807
theorem small_63 {p : List (List Int)} (h : Small p) : Len63 p := ⟨by have := h.1; omega, fun l hl => by have := h.2 l hl; omega⟩
theorem plane_len {W H d : Int} {p : List (List Int)} (hq : isB ⟨W, H, d, p⟩ = true) : ∀ l ∈ p, (l.length : Int) = W * H := fun l hl => by
  rw [isB, Bool.and_eq_true] at hq
  have h1 := List.all_eq_true.1 hq.2 l hl
  rw [okPl, Bool.and_eq_true, decide_eq_true_eq] at h1
  exact h1.1
theorem isB_small {q : Pc} (h : isB q = true) : Small q.p := by
  have hp : possB q.w q.h q.d q.p.length = true := by rw [isB, Bool.and_eq_true] at h; exact h.1
  simp only [possB, decide_eq_true_eq] at hp
  obtain ⟨w, h', d, p⟩ := q
  refine ⟨by simp only at hp ⊢; omega, fun l hl => ?_⟩
  have h1 := plane_len h l hl
  simp only at hp
  have := mul_64 (a := w) (b := h') (by omega) (by omega)
  omega

theorem isB_mk {W H : Nat} {d : Int} {p : List (List Int)} (w1 : 1 ≤ W) (w2 : W ≤ 64) (h1 : 1 ≤ H) (h2 : H ≤ 64) (d1 : 1 ≤ d) (d2 : d ≤ 16) (n1 : 1 ≤ p.length) (n2 : p.length ≤ 4) (hp : ∀ l ∈ p, l.length = W * H ∧ ∀ v ∈ l, okV d v = true) : isB ⟨W, H, d, p⟩ = true := by
  rw [isB, Bool.and_eq_true, List.all_eq_true]
  refine ⟨by simp only [possB, decide_eq_true_eq]; omega, fun l hl => ?_⟩
  rw [okPl, Bool.and_eq_true, decide_eq_true_eq, List.all_eq_true]
  exact ⟨by rw [(hp l hl).1]; simp, (hp l hl).2⟩
theorem isB_all {W H : Nat} {d : Int} {p : List (List Int)} (h : isB ⟨W, H, d, p⟩ = true) : 1 ≤ W ∧ W ≤ 64 ∧ 1 ≤ H ∧ H ≤ 64 ∧ 1 ≤ d ∧ d ≤ 16 ∧ 1 ≤ p.length ∧ p.length ≤ 4 ∧ ∀ l ∈ p, l.length = W * H ∧ ∀ v ∈ l, okV d v = true := by
  have hl := plane_len h
  rw [isB, Bool.and_eq_true, List.all_eq_true] at h
  have hp := h.1
  simp only [possB, decide_eq_true_eq] at hp
  refine ⟨by omega, by omega, by omega, by omega, by omega, by omega, by omega, by omega, fun l hm => ⟨?_, ?_⟩⟩
  · have := hl l hm
    rw [← Int.natCast_mul] at this
    omega
  · have := h.2 l hm
    rw [okPl, Bool.and_eq_true, List.all_eq_true] at this
    exact this.2
theorem mem_getD {p : List (List Int)} {i : Nat} (hi : i < p.length) : p.getD i [] ∈ p := by
  rw [List.getD_eq_getElem?_getD, List.getElem?_eq_getElem hi]
  exact List.getElem_mem hi
theorem rdOwn {w W' : World} {base : Nat} {A : Option Addr} {n c : Nat} {ls : List (List Int)} (h : OwnLL w base 22 3 .i64 (.slice A n c) ls) (hb : Below w.heap.size w W') : RdLL W' W'.heap.size .i64 A ls := by
  obtain ⟨A', c', hv, _, h, _⟩ := h.form
  simp only [Value.slice.injEq] at hv
  obtain ⟨rfl, _, _⟩ := hv
  exact fun j hj => by
    obtain ⟨ad, Aj, cj, e, h1, h2, h3, h4⟩ := RdLL.below h hb (Nat.le_refl _) j hj
    exact ⟨ad, Aj, cj, e, Nat.lt_of_lt_of_le h1 hb.size, h2, h3, h4.more hb.size⟩
theorem RdLL.grow {w : World} {B B' : Nat} {k : IntKind} {A : Option Addr} {ls : List (List Int)} (h : RdLL w B k A ls) (hB : B ≤ B') : RdLL w B' k A ls := fun j hj => by
  obtain ⟨ad, Aj, cj, e, h1, h2, h3, h4⟩ := h j hj
  exact ⟨ad, Aj, cj, e, by omega, h2, h3, h4.more hB⟩
theorem RdLL.to {w W' : World} {B : Nat} {k : IntKind} {A : Option Addr} {ls : List (List Int)} (h : RdLL w B k A ls) (hB : B ≤ w.heap.size) (hb : Below w.heap.size w W') : RdLL W' W'.heap.size k A ls :=
  RdLL.grow (RdLL.below h hb hB) (Nat.le_trans hB hb.size)
theorem isB_sum {q : Pc} (h : isB q = true) : (1 ≤ q.w ∧ q.w ≤ 64) ∧ (1 ≤ q.h ∧ q.h ≤ 64) ∧ (1 ≤ q.d ∧ q.d ≤ 16) ∧ (1 ≤ q.p.length ∧ q.p.length ≤ 4) ∧ (∀ l ∈ q.p, l.length ≤ 4096 ∧ (l.length : Int) = q.w * q.h ∧ ∀ v ∈ l, 0 ≤ v ∧ v < 65536) := by
  rw [isB, Bool.and_eq_true] at h
  obtain ⟨h1, h2⟩ := h
  simp only [possB, decide_eq_true_eq] at h1
  obtain ⟨b1, b2, b3, b4, b5, b6, b7, b8⟩ := h1
  have hm := mul_64 ⟨b1, b2⟩ ⟨b3, b4⟩
  refine ⟨by omega, by omega, by omega, by omega, fun l hl => ?_⟩
  rw [List.all_eq_true] at h2
  have h3 := h2 l hl
  rw [okPl, Bool.and_eq_true, decide_eq_true_eq, List.all_eq_true] at h3
  refine ⟨by omega, h3.1, fun v hv => ?_⟩
  have h4 := h3.2 v hv
  simp only [okV, decide_eq_true_eq] at h4
  have hp := (pow_16 (k := q.d.toNat) (by omega) (by omega)).2.1
  omega
theorem getD_set {L : List (List Int)} {j i : Nat} {x : List Int} (hi : i < L.length) : (L.set j x).getD i [] = if i = j then x else L.getD i [] := by
  by_cases h : i = j
  · subst h
    simp [List.getD, hi]
  · simp [List.getD, h, Ne.symm h]
end Go.Proofs.Ytbbflddhbamjbaa
