/- Guarded pages by their places; some left out (plain). -/
import Derived.Test.YtdnkdjaokmibjaaMdBM
set_option linter.unusedSimpArgs false
set_option linter.unusedVariables false
namespace Go.Proofs.Ytdnkdjaokmibjaa
open Go.RowKit

def keepL (g : List Pg) (L : Nat → Bool) (m : Nat) : List Pg := ((List.range m).filter (fun i => !L i)).map (fun i => g.getD i zg)
theorem keepL_out {g : List Pg} {L : Nat → Bool} {m : Nat} (h : L m = true) : keepL g L (m + 1) = keepL g L m := by
  simp [keepL, List.range_succ, List.filter_append, h]
theorem keepL_in {g : List Pg} {L : Nat → Bool} {m : Nat} (hm : m < g.length) (h : L m = false) : keepL g L (m + 1) = keepL g L m ++ [g[m]] := by
  simp [keepL, List.range_succ, List.filter_append, h, List.getElem?_eq_getElem hm]
theorem keepL_len (g : List Pg) (L : Nat → Bool) (m : Nat) : (keepL g L m).length ≤ m := by
  have := List.length_filter_le (fun i => !L i) (List.range m)
  simpa [keepL] using this
theorem keepL_mem {g : List Pg} {L : Nat → Bool} {x : Pg} : x ∈ keepL g L g.length ↔ ∃ i, ∃ hi : i < g.length, L i = false ∧ x = g[i] := by
  simp only [keepL, List.mem_map, List.mem_filter, List.mem_range]
  constructor
  · rintro ⟨i, ⟨hi, hL⟩, rfl⟩
    exact ⟨i, hi, by simpa using hL, gOk_at hi⟩
  · rintro ⟨i, hi, hL, rfl⟩
    exact ⟨i, ⟨hi, by simp [hL]⟩, gOk_at hi⟩

section
variable {l : List Pg}
theorem gTo_full {k : Nat} (h : 8 * k ≤ l.length) : (gTo l k).length = 9 * k := by
  induction k with
  | zero => rfl
  | succ k ih =>
    rw [gTo_succ, List.length_append, List.length_append, ih (by omega), grp_len]
    simp; omega
theorem gTo_split {k m : Nat} (h : k < m) : ∃ r, gTo l m = gTo l k ++ ((grp l k ++ [guardG (grp l k)]) ++ r) := by
  obtain ⟨d, rfl⟩ : ∃ d, m = k + (d + 1) := ⟨m - k - 1, by omega⟩
  refine ⟨((List.range d).map Nat.succ).flatMap fun j => grp l (k + j) ++ [guardG (grp l (k + j))], ?_⟩
  unfold gTo
  rw [List.range_add, List.flatMap_append, List.range_succ_eq_map]
  simp [List.flatMap_map]
theorem guarded_split {k : Nat} (hk : k < nGrp l) : ∃ r, guarded l = gTo l k ++ ((grp l k ++ [guardG (grp l k)]) ++ r) := gTo_split hk
theorem guarded_len : (guarded l).length = l.length + nGrp l := by
  by_cases h0 : l.length = 0
  · have : nGrp l = 0 := by unfold nGrp; omega
    show (gTo l (nGrp l)).length = _
    rw [this, h0]; rfl
  · have hn : nGrp l = (nGrp l - 1) + 1 := by unfold nGrp; omega
    show (gTo l (nGrp l)).length = _
    rw [hn, gTo_succ, List.length_append, List.length_append, gTo_full (by unfold nGrp; omega), grp_len]
    simp only [List.length_singleton]
    unfold nGrp; omega
theorem guarded_pg {k j : Nat} (hk : k < nGrp l) (hj : j < (grp l k).length) : ∃ h : 9 * k + j < (guarded l).length, (guarded l)[9 * k + j] = (grp l k)[j] := by
  obtain ⟨r, hr⟩ := guarded_split hk
  have hf : (gTo l k).length = 9 * k := gTo_full (by unfold nGrp at hk; omega)
  have hlen : 9 * k + j < (guarded l).length := by rw [hr]; simp; omega
  refine ⟨hlen, ?_⟩
  have : (guarded l)[9 * k + j] = (gTo l k ++ ((grp l k ++ [guardG (grp l k)]) ++ r))[9 * k + j]'(by rw [← hr]; exact hlen) := by congr 1
  rw [this, List.getElem_append_right (by omega), List.getElem_append_left (by simp; omega), List.getElem_append_left (by omega)]
  congr 1; omega
theorem guarded_gd {k : Nat} (hk : k < nGrp l) : ∃ h : 9 * k + (grp l k).length < (guarded l).length, (guarded l)[9 * k + (grp l k).length] = guardG (grp l k) := by
  obtain ⟨r, hr⟩ := guarded_split hk
  have hf : (gTo l k).length = 9 * k := gTo_full (by unfold nGrp at hk; omega)
  have hlen : 9 * k + (grp l k).length < (guarded l).length := by rw [hr]; simp; omega
  refine ⟨hlen, ?_⟩
  have : (guarded l)[9 * k + (grp l k).length] = (gTo l k ++ ((grp l k ++ [guardG (grp l k)]) ++ r))[9 * k + (grp l k).length]'(by rw [← hr]; exact hlen) := by congr 1
  rw [this, List.getElem_append_right (by omega), List.getElem_append_left (by simp; omega), List.getElem_append_right (by omega)]
  simp [hf]
/-- what lies at a place -/
theorem guarded_at {i : Nat} (hi : i < (guarded l).length) : i / 9 < nGrp l ∧ ((∃ hj : i % 9 < (grp l (i / 9)).length, (guarded l)[i] = (grp l (i / 9))[i % 9]) ∨ (i % 9 = (grp l (i / 9)).length ∧ (guarded l)[i] = guardG (grp l (i / 9)))) := by
  have hlen := guarded_len (l := l)
  have hk : i / 9 < nGrp l := by unfold nGrp at *; omega
  have hg := grp_len l (i / 9)
  have hd : 9 * (i / 9) + i % 9 = i := Nat.div_add_mod i 9
  refine ⟨hk, ?_⟩
  have hm : i % 9 ≤ (grp l (i / 9)).length := by unfold nGrp at *; omega
  rcases Nat.lt_or_eq_of_le hm with h | h
  · obtain ⟨h1, h2⟩ := guarded_pg hk h
    refine .inl ⟨h, ?_⟩
    rw [← h2]; congr 1; omega
  · obtain ⟨h1, h2⟩ := guarded_gd hk
    refine .inr ⟨h, ?_⟩
    rw [← h2]; congr 1; omega
theorem left_keep (h : Num l) (L : Nat → Bool) {s : List Pg} (hs : ∀ x, x ∈ s ↔ x ∈ keepL (guarded l) L (guarded l).length) : Left l s := by
  constructor
  · intro x hx hg
    obtain ⟨i, hi, _, rfl⟩ := keepL_mem.1 ((hs x).1 hx)
    obtain ⟨hk, ⟨hj, he⟩ | ⟨_, he⟩⟩ := guarded_at hi
    · rw [he]; exact grp_mem (List.getElem_mem hj)
    · rw [he] at hg; cases hg
  · intro x hx hg
    obtain ⟨i, hi, _, rfl⟩ := keepL_mem.1 ((hs x).1 hx)
    obtain ⟨hk, ⟨hj, he⟩ | ⟨_, he⟩⟩ := guarded_at hi
    · rw [he, (h.grpOk _).g _ (List.getElem_mem hj)] at hg; cases hg
    · exact ⟨_, hk, he⟩
/-- One of each group is out. -/
theorem left_one (h : Num l) {L : Nat → Bool} (hL : ∀ i j, i / 9 = j / 9 → L i = true → L j = true → i = j) {s : List Pg} (hs : ∀ x, x ∈ s ↔ x ∈ keepL (guarded l) L (guarded l).length) :
    ∀ p ∈ l, p ∈ s ∨ ∃ k, k < nGrp l ∧ guardG (grp l k) ∈ s ∧ p ∈ grp l k ∧ ∀ q ∈ grp l k, q ≠ p → q ∈ s := by
  intro p hp
  obtain ⟨i, hi, rfl, _⟩ := h.inj hp
  have hk : i / 8 < nGrp l := by unfold nGrp; omega
  have hg := grp_len l (i / 8)
  have hj : i % 8 < (grp l (i / 8)).length := by omega
  have hpe : (grp l (i / 8))[i % 8] = l[i] := by
    obtain ⟨h1, h2⟩ := grp_get hj
    rw [h2]; congr 1; omega
  obtain ⟨a1, a2⟩ := guarded_pg hk hj
  by_cases hlost : L (9 * (i / 8) + i % 8) = true
  · refine .inr ⟨i / 8, hk, ?_, by rw [← hpe]; exact List.getElem_mem hj, fun q hq hqp => ?_⟩
    · obtain ⟨b1, b2⟩ := guarded_gd hk
      rw [hs]
      refine keepL_mem.2 ⟨_, b1, ?_, b2.symm⟩
      cases hh : L (9 * (i / 8) + (grp l (i / 8)).length) with
      | false => rfl
      | true => have := hL _ _ (by omega) hlost hh; omega
    · obtain ⟨j, hj', rfl⟩ := List.getElem_of_mem hq
      have hne : j ≠ i % 8 := fun e => hqp (by subst e; exact hpe)
      obtain ⟨b1, b2⟩ := guarded_pg hk hj'
      rw [hs]
      refine keepL_mem.2 ⟨_, b1, ?_, b2.symm⟩
      cases hh : L (9 * (i / 8) + j) with
      | false => rfl
      | true => have := hL _ _ (by omega) hlost hh; omega
  · refine .inl ((hs _).2 (keepL_mem.2 ⟨_, a1, by simpa using hlost, ?_⟩))
    rw [a2, hpe]
end
end Go.Proofs.Ytdnkdjaokmibjaa
