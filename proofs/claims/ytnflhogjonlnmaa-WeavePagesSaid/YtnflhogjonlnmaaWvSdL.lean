/- What All's row is: each stream's packets in their order (plain). -/
import Derived.Test.YtnflhogjonlnmaaWvSrtM
set_option linter.unusedSimpArgs false
set_option linter.unusedVariables false
namespace Go.Proofs.Ytnflhogjonlnmaa
open Go.RowKit

def ofS (s : Nat) (p : Pk) : Bool := decide (p.st = (s : Int))
theorem merge_by : ∀ (n : Nat) (rs : List (List Pk)), total rs = n → okAll rs → ∀ s, s < rs.length → (merge n rs).filter (ofS s) = rs.getD s []
  | 0, rs, hn, _, s, hs => by
    have h : rs.flatten = [] := List.eq_nil_of_length_eq_zero (by rw [total_flat]; exact hn)
    have h2 : rs.getD s [] = [] := by
      cases h3 : rs.getD s [] with
      | nil => rfl
      | cons a t =>
        have : a ∈ rs.flatten := mem_rs.2 ⟨s, hs, by rw [h3]; exact List.mem_cons_self ..⟩
        rw [h] at this; cases this
    rw [merge, h2]; rfl
  | n + 1, rs, hn, ho, s, hs => by
    by_cases h0 : firstQ rs < 0
    · have := total_zero h0; omega
    · obtain ⟨m, hf⟩ := Int.eq_ofNat_of_zero_le (show 0 ≤ firstQ rs by omega)
      obtain ⟨hm, p, l, hr⟩ := first_at hf
      have ht := total_set hm hr
      have hst := merge_step hf hm hr
      rw [hn] at hst
      rw [show total (rs.set m l) = n by omega] at hst
      have ih := merge_by n (rs.set m l) (by omega) (okAll_tail hm hr ho) s (by rw [List.length_set]; exact hs)
      rw [getD_set_l hm] at ih
      have hp := ho m hm p (by rw [getD_rs hm, hr]; exact List.mem_cons_self ..)
      rw [hst]
      by_cases hms : m = s
      · subst hms
        rw [if_pos rfl] at ih
        rw [List.filter_cons_of_pos (by simp [ofS, hp]), ih, getD_rs hm, hr]
      · rw [if_neg hms] at ih
        rw [List.filter_cons_of_neg (by simp [ofS, hp]; omega), ih]
theorem merge_mem : ∀ (n : Nat) (rs : List (List Pk)) (q : Pk), q ∈ merge n rs → q ∈ rs.flatten
  | 0, rs, q, h => by rw [merge] at h; cases h
  | n + 1, rs, q, h => by
    rw [merge] at h
    split at h
    · cases h
    · obtain ⟨m, hf⟩ := Int.eq_ofNat_of_zero_le (show 0 ≤ firstQ rs by omega)
      obtain ⟨hm, p, l, hr⟩ := first_at hf
      rw [hf, Int.toNat_natCast, getD_rs hm, hr] at h
      rcases List.mem_cons.1 h with h | h
      · subst h
        exact mem_rs.2 ⟨m, hm, by rw [getD_rs hm, hr]; exact List.mem_cons_self ..⟩
      · have h2 := merge_mem n (rs.set m l) q h
        obtain ⟨j, hj, hq⟩ := mem_rs.1 h2
        rw [List.length_set] at hj
        rw [getD_set_l hm] at hq
        by_cases hmj : m = j
        · subst hmj
          rw [if_pos rfl] at hq
          exact mem_rs.2 ⟨m, hm, by rw [getD_rs hm, hr]; exact List.mem_cons_of_mem _ hq⟩
        · rw [if_neg hmj] at hq
          exact mem_rs.2 ⟨j, hj, hq⟩
/-- All's row. -/
structure RowOf (M : List Pk) (ls : List (List Pk)) : Prop where
  st : ∀ p ∈ M, ∃ s : Nat, s < ls.length ∧ p.st = (s : Int)
  by_ : ∀ s, s < ls.length → M.filter (ofS s) = ls.getD s []
  srd : SrdP M
  len : M.length = total ls
theorem row_of {ls : List (List Pk)} (hE : weaveE ls = 0) : RowOf (weaveP ls) ls := by
  have hok : weaveOk ls ∧ weaveAsc ls := by
    unfold weaveE at hE
    split at hE
    · omega
    · rename_i h
      split at hE
      · omega
      · rename_i h'
        exact ⟨Classical.not_not.1 (fun h9 => h (.inr (.inr h9))), Classical.not_not.1 h'⟩
  rw [weaveP, if_pos hE]
  have h3 := merge_srt (total ls) ls rfl (weaveOk_all hok.1) (weaveAsc_all hok.2)
  refine ⟨fun p hp => ?_, merge_by (total ls) ls rfl (weaveOk_all hok.1), h3.1, ?_⟩
  · obtain ⟨j, hj, hq⟩ := mem_rs.1 (merge_mem _ _ _ hp)
    exact ⟨j, hj, weaveOk_all hok.1 j hj p hq⟩
  · have key : ∀ (n : Nat) (rs : List (List Pk)), total rs = n → (merge n rs).length = n := fun n => by
      induction n with
      | zero => intro rs _; rfl
      | succ n ih =>
        intro rs hn
        by_cases h0 : firstQ rs < 0
        · have := total_zero h0; omega
        · obtain ⟨m, hf⟩ := Int.eq_ofNat_of_zero_le (show 0 ≤ firstQ rs by omega)
          obtain ⟨hm, p, l, hr⟩ := first_at hf
          have ht := total_set hm hr
          have hst := merge_step hf hm hr
          rw [hn] at hst
          rw [hst, List.length_cons]
          rw [show total (rs.set m l) = n by omega]
          rw [ih _ (by omega)]
    exact key _ _ rfl
def cntS (M : List Pk) (i s : Nat) : Nat := (M.take i).countP (ofS s)
def atl (M : List Pk) (n i : Nat) : List Int := (List.range n).map fun s => ((cntS M i s : Nat) : Int)
theorem atl_len (M : List Pk) (n i : Nat) : (atl M n i).length = n := by simp [atl]
theorem atl_zero (M : List Pk) (n : Nat) : atl M n 0 = List.replicate n 0 := by
  apply List.ext_getElem
  · simp [atl]
  · intro j h1 h2
    simp [atl, cntS]
theorem atl_at (M : List Pk) {n i s : Nat} (h : s < n) : (atl M n i).getD s 0 = ((cntS M i s : Nat) : Int) := by
  rw [List.getD_eq_getElem?_getD, List.getElem?_eq_getElem (by rw [atl_len]; exact h)]
  simp [atl]
theorem cnt_step (M : List Pk) {i : Nat} (hi : i < M.length) (s : Nat) : cntS M (i + 1) s = cntS M i s + if M[i].st = (s : Int) then 1 else 0 := by
  rw [cntS, List.take_succ_eq_append_getElem hi, List.countP_append, cntS]
  simp [ofS]
theorem atl_step (M : List Pk) {n i s : Nat} (hi : i < M.length) (hs : M[i].st = (s : Int)) : (atl M n i).set s ((cntS M i s : Nat) + 1 : Int) = atl M n (i + 1) := by
  apply List.ext_getElem
  · simp [atl]
  · intro j h1 h2
    rw [List.getElem_set]
    have hj : j < n := by rw [atl_len] at h2; exact h2
    simp only [atl, List.getElem_map, List.getElem_range]
    rw [cnt_step M hi j]
    by_cases hsj : s = j
    · subst hsj; rw [if_pos rfl, if_pos hs]; omega
    · rw [if_neg hsj, if_neg (by omega)]; omega
/-- The next one of its stream. -/
theorem RowOf.at_ {M : List Pk} {ls : List (List Pk)} (h : RowOf M ls) {i s : Nat} (hi : i < M.length) (hs : M[i].st = (s : Int)) : ∃ (h1 : s < ls.length) (h2 : cntS M i s < ls[s].length), ls[s][cntS M i s] = M[i] := by
  obtain ⟨s', hs', e⟩ := h.st _ (List.getElem_mem hi)
  have : s = s' := by omega
  subst this
  have hb := h.by_ s hs'
  rw [getD_rs hs'] at hb
  have hM : M = M.take i ++ M[i] :: M.drop (i + 1) := by rw [← List.drop_eq_getElem_cons hi, List.take_append_drop]
  have hf : M.filter (ofS s) = (M.take i).filter (ofS s) ++ M[i] :: (M.drop (i + 1)).filter (ofS s) := by
    conv => lhs; rw [hM]
    rw [List.filter_append, List.filter_cons_of_pos (by simp [ofS, hs])]
  have hc : cntS M i s = ((M.take i).filter (ofS s)).length := by rw [cntS, List.countP_eq_length_filter]
  rw [hf] at hb
  refine ⟨hs', by rw [← hb, hc]; simp, ?_⟩
  have h9 : ls[s][cntS M i s]? = some M[i] := by
    rw [← hb, hc, List.getElem?_append_right (Nat.le_refl _), Nat.sub_self]; rfl
  have h2 : cntS M i s < ls[s].length := by rw [← hb, hc]; simp
  rw [List.getElem?_eq_getElem h2] at h9
  injection h9
theorem RowOf.all {M : List Pk} {ls : List (List Pk)} (h : RowOf M ls) {s : Nat} (hs : s < ls.length) : cntS M M.length s = ls[s].length := by
  rw [cntS, List.take_length, List.countP_eq_length_filter, h.by_ s hs, getD_rs hs]
theorem RowOf.asc {M : List Pk} {ls : List (List Pk)} (h : RowOf M ls) {i : Nat} (hi : i + 1 < M.length) : ¬ (M[i + 1].at_ < M[i].at_) ∧ ¬ (M[i + 1].at_ = M[i].at_ ∧ M[i + 1].st < M[i].st) := by
  have h1 := List.pairwise_iff_getElem.1 h.srd i (i + 1) (by omega) hi (by omega)
  simp only [ltP, decide_eq_false_iff_not] at h1
  omega
end Go.Proofs.Ytnflhogjonlnmaa
