/- A palette ranked holds the same colours (plain). -/
import Derived.Test.YtbbflddhbamjbaaPlLaws
import Derived.Test.YtbbflddhbamjbaaPlRank
set_option linter.unusedSimpArgs false
set_option linter.unusedVariables false
namespace Go.Proofs.Ytbbflddhbamjbaa
open Go.RowKit
theorem srt_perm {N : Nat} {lt : SI N → SI N → Bool} (h : LeO lt) {l l' : List (SI N)} (hs : Srt lt l l') : l'.Perm l := by
  rw [List.perm_iff_count]
  intro x
  have h1 := hs x
  have key : ∀ m : List (SI N), (m.filter (eqv lt x)).count x = m.count x := fun m => by
    rw [List.count_filter (eqv_self h x)]
  rw [← key l', ← key l, h1]
theorem map_fin (c : List (List Int)) (N : Nat) (h : c.length = N + 1) : (List.finRange (N + 1)).map (fun i => c.getD i.val []) = c := by
  refine List.ext_getElem (by simp [h]) fun i h1 h2 => ?_
  rw [List.getElem_map, List.getElem_finRange]
  exact getDL h2
/-- the same palette in another order -/
theorem palB_perm {P Q : Pal} (h : palB P = true) (hd : Q.d = P.d) (hn : Q.n = P.n) (hp : Q.c.Perm P.c) : palB Q = true := by
  have h1 := rows_of h
  rw [palB_iff] at h
  have h2 := h.1
  simp only [headB, decide_eq_true_eq] at h2
  refine palB_mk ?_ (fun r hr => ?_) (hp.nodup_iff.2 h1.2)
  · simp only [headB, decide_eq_true_eq]
    rw [hd, hn, hp.length_eq]
    exact h2
  · rw [hd, hn]
    exact h1.1 r (hp.mem_iff.1 hr)
theorem rank_perm {q : Pc} {P Q : Pal} {b : Bool} (h : RankIs q P Q b) (hi : idxB q P = true) : b = true ∧ Q.d = P.d ∧ Q.n = P.n ∧ Q.c.Perm P.c := by
  obtain ⟨h1, h2⟩ := h
  rw [if_pos hi] at h2
  obtain ⟨e1, e2, N, os, hN, hs, _, e3⟩ := h2
  refine ⟨h1.trans hi, e1, e2, ?_⟩
  rw [e3]
  have h4 := (srt_perm (ltC_leO _) hs).map (fun i : SI N => P.c.getD i.val [])
  rwa [map_fin P.c N hN] at h4
theorem rank_idx {q : Pc} {P Q : Pal} {b : Bool} (h : RankIs q P Q b) (hi : idxB q P = true) : idxB q Q = true := by
  obtain ⟨_, e1, e2, e3⟩ := rank_perm h hi
  rw [idxB, Bool.and_eq_true, List.all_eq_true] at hi
  obtain ⟨h1, h2⟩ := hi
  simp only [idxOk, Bool.and_eq_true, decide_eq_true_eq] at h1
  obtain ⟨⟨⟨hP, hq⟩, hd⟩, hn⟩ := h1
  exact (idx_of (palB_perm hP e1 e2 e3) hq (e1.trans hd) (e2.trans hn) fun j hj => e3.mem_iff.2 (of_decide_eq_true (h2 j (List.mem_range.2 hj)))).1
theorem join_idx {q : Pc} {a b : Pal} (hj : joinB a b = true) (hi : idxB q a = true) : idxB q (joinP a b) = true := by
  have hM := join_may a b
  rw [hj] at hM
  have hP : joinP a b = ⟨a.d, a.n, joinC a b⟩ := by rw [joinP, if_pos hj]
  rw [idxB, Bool.and_eq_true, List.all_eq_true] at hi
  obtain ⟨h1, h2⟩ := hi
  simp only [idxOk, Bool.and_eq_true, decide_eq_true_eq] at h1
  obtain ⟨⟨⟨_, hq⟩, hd⟩, hn⟩ := h1
  refine (idx_of hM hq ?_ ?_ fun j hj' => ?_).1
  · rw [hP]; exact hd
  · rw [hP]; exact hn
  · rw [hP]; exact joinC_left (of_decide_eq_true (h2 j (List.mem_range.2 hj')))
end Go.Proofs.Ytbbflddhbamjbaa
