/- A Weaver with the largest bound: what it returns is All's row, and none is late (plain). -/
import Derived.Test.YtnflhogjonlnmaaWvL
import Derived.Test.YtnflhogjonlnmaaWvSrtM
set_option linter.unusedSimpArgs false
set_option linter.unusedVariables false
namespace Go.Proofs.Ytnflhogjonlnmaa
open Go.RowKit

theorem quAt_set_ {qs : List Qu} {i j : Nat} {x : Qu} (h : i < qs.length) : quAt (qs.set i x) j = if i = j then x else quAt qs j := by
  simp only [quAt, List.getD_eq_getElem?_getD, List.getElem?_set]
  by_cases hij : i = j
  · subst hij; simp [h]
  · simp [hij]
theorem waits_at {qs : List Qu} {j : Nat} (h : j < qs.length) : (qs.map Qu.wait).getD j [] = (quAt qs j).wait := by
  rw [List.getD_eq_getElem?_getD, List.getElem?_map, List.getElem?_eq_getElem h, quAt_get h]; rfl
theorem nextUp_all {qs : List Qu} {a st : Int} : ∀ n, nextUp qs a st n = true → ∀ k, k < n → nextQ (quAt qs k) k a st = true
  | 0, _, k, hk => absurd hk (by omega)
  | n + 1, h, k, hk => by
    rw [nextUp, Bool.and_eq_true] at h
    by_cases hkn : k = n
    · subst hkn; exact h.2
    · exact nextUp_all n h.1 k (by omega)
theorem nextUp_of {qs : List Qu} {a st : Int} : ∀ n, (∀ k, k < n → nextQ (quAt qs k) k a st = true) → nextUp qs a st n = true
  | 0, _ => rfl
  | n + 1, h => by rw [nextUp, nextUp_of n (fun k hk => h k (by omega)), h n (by omega)]; rfl
theorem overUp_of {qs : List Qu} {a most : Int} : ∀ n, (∀ k, k < n → overQ (quAt qs k) a most = false) → overUp qs a most n = false
  | 0, _ => rfl
  | n + 1, h => by rw [overUp, overUp_of n (fun k hk => h k (by omega)), h n (by omega)]; rfl
/-- Which one comes first is told by what lies before what. -/
theorem firstQ_is {rs : List (List Pk)} {m : Nat} (hm : m < rs.length) {p : Pk} {l : List Pk} (hr : rs[m] = p :: l) (h : ∀ j, j < rs.length → rs.getD j [] ≠ [] → p.at_ ≤ headAt (rs.getD j []) ∧ (j < m → p.at_ < headAt (rs.getD j []))) : firstQ rs = (m : Int) := by
  have hb := firstUp_bd rs rs.length
  have hne : rs.getD m [] ≠ [] := by rw [getD_rs hm, hr]; simp
  have hh : headAt (rs.getD m []) = p.at_ := by rw [getD_rs hm, hr]; rfl
  by_cases h0 : 0 ≤ firstUp rs rs.length
  · have h1 := firstUp_ne rs rs.length h0
    have h2 := firstUp_least rs rs.length h0 m hm hne
    have h3 := h (firstUp rs rs.length).toNat (by omega) h1
    rw [hh] at h2
    show firstUp rs rs.length = (m : Int)
    generalize firstUp rs rs.length = k at *
    omega
  · exact absurd (firstUp_none rs rs.length (by omega) m hm) hne

structure LiI (M : List Pk) (fs rs : List (List Pk)) (s : Wv) (got : List Pk) (E : Nat) : Prop where
  most : s.most = 1125899906842624
  late : s.late = 0
  top : ∀ q ∈ rs.flatten, s.top ≤ q.at_
  lenS : s.qs.length = rs.length
  lenF : fs.length = rs.length
  q : ∀ i, i < rs.length → rs.getD i [] = (quAt s.qs i).wait ++ fs.getD i []
  last : ∀ i, i < rs.length → ∀ p ∈ fs.getD i [], (quAt s.qs i).last ≤ p.at_
  endd : ∀ i, i < rs.length → (quAt s.qs i).ended = decide (i < E)
  endf : ∀ i, i < rs.length → i < E → fs.getD i [] = []
  lay : ∀ q ∈ rs.flatten, layE q = 0
  st : okAll rs
  asc : ascAll rs
  short : ∀ i, i < rs.length → (rs.getD i []).length ≤ 9
  row : got ++ merge (total rs) rs = M
section
variable {M : List Pk} {fs rs : List (List Pk)} {s : Wv} {got : List Pk} {E : Nat}
theorem LiI.mem (h : LiI M fs rs s got E) {i : Nat} (hi : i < rs.length) {p : Pk} (hp : p ∈ (quAt s.qs i).wait ∨ p ∈ fs.getD i []) : p ∈ rs.flatten ∧ p.st = (i : Int) ∧ layE p = 0 := by
  have h1 : p ∈ rs.getD i [] := by rw [h.q i hi]; exact List.mem_append.2 hp
  have h2 : p ∈ rs.flatten := mem_rs.2 ⟨i, hi, h1⟩
  exact ⟨h2, h.st i hi p h1, h.lay p h2⟩
theorem li_put (h : LiI M fs rs s got E) {i : Nat} (hi : i < rs.length) {p : Pk} {f : List Pk} (hf : fs.getD i [] = p :: f) (hE : E ≤ i) : s.putE p = 0 ∧ LiI M (fs.set i f) rs (s.put p) got E := by
  obtain ⟨_, hst, hlay⟩ := h.mem hi (p := p) (.inr (by rw [hf]; exact List.mem_cons_self ..))
  have hto : p.st.toNat = i := by omega
  have hq := h.q i hi
  have hsh := h.short i hi
  rw [hq, List.length_append] at hsh
  have hla := h.last i hi p (by rw [hf]; exact List.mem_cons_self ..)
  have hen := h.endd i hi
  rw [decide_eq_false (by omega)] at hen
  have hls := h.lenS
  have hlf := h.lenF
  have hput : s.putE p = 0 := by
    rw [Wv.putE, if_neg (by omega), if_neg (by omega), hto, hen, if_neg (by simp), if_neg (by omega), if_neg (by omega)]
  refine ⟨hput, ?_⟩
  rw [Wv.put, if_pos hput, hto]
  have hil : i < s.qs.length := by omega
  have hif : i < fs.length := by omega
  have hasc := h.asc i hi
  rw [hq, hf] at hasc
  have hf2 := (List.pairwise_cons.1 (List.pairwise_append.1 hasc).2.1).1
  refine ⟨h.most, h.late, h.top, by rw [List.length_set]; exact hls, by rw [List.length_set]; exact hlf, fun j hj => ?_, fun j hj q hqm => ?_, fun j hj => ?_, fun j hj hjE => ?_, h.lay, h.st, h.asc, h.short, h.row⟩
  · rw [quAt_set_ hil, getD_set_l hif]
    by_cases hij : i = j
    · subst hij; rw [if_pos rfl, if_pos rfl, hq, hf]; simp
    · rw [if_neg hij, if_neg hij]; exact h.q j hj
  · rw [getD_set_l hif] at hqm
    rw [quAt_set_ hil]
    by_cases hij : i = j
    · subst hij; rw [if_pos rfl] at hqm ⊢; exact hf2 q hqm
    · rw [if_neg hij] at hqm ⊢; exact h.last j hj q hqm
  · rw [quAt_set_ hil]
    by_cases hij : i = j
    · subst hij; rw [if_pos rfl]; exact h.endd i hi
    · rw [if_neg hij]; exact h.endd j hj
  · rw [getD_set_l hif, if_neg (by omega)]
    exact h.endf j hj hjE
theorem li_stop (h : LiI M fs rs s got E) (hE : E < rs.length) (hf : fs.getD E [] = []) : LiI M fs rs (s.stop (E : Int)) got (E + 1) := by
  have hls := h.lenS
  have hil : E < s.qs.length := by omega
  rw [Wv.stop, if_pos (by simp only [inB, decide_eq_true_eq]; omega), Int.toNat_natCast]
  refine ⟨h.most, h.late, h.top, by rw [List.length_set]; exact hls, h.lenF, fun j hj => ?_, fun j hj q hqm => ?_, fun j hj => ?_, fun j hj hjE => ?_, h.lay, h.st, h.asc, h.short, h.row⟩
  · rw [quAt_set_ hil]
    by_cases hij : E = j
    · subst hij; rw [if_pos rfl]; exact h.q E hj
    · rw [if_neg hij]; exact h.q j hj
  · rw [quAt_set_ hil]
    by_cases hij : E = j
    · subst hij; rw [if_pos rfl]; exact h.last E hj q hqm
    · rw [if_neg hij]; exact h.last j hj q hqm
  · rw [quAt_set_ hil]
    by_cases hij : E = j
    · subst hij; rw [if_pos rfl, decide_eq_true (by omega)]
    · rw [if_neg hij, h.endd j hj]
      rw [Bool.eq_iff_iff, decide_eq_true_eq, decide_eq_true_eq]; omega
  · by_cases hij : j = E
    · subst hij; exact hf
    · exact h.endf j hj (by omega)
theorem LiI.none_ (h : LiI M fs rs s got E) (hE : E = rs.length) (h0 : firstQ (s.qs.map Qu.wait) < 0) : got = M := by
  have hz : rs.flatten = [] := by
    cases hr : rs.flatten with
    | nil => rfl
    | cons q t =>
      have hq : q ∈ rs.flatten := by rw [hr]; exact List.mem_cons_self ..
      obtain ⟨j, hj, hq⟩ := mem_rs.1 hq
      rw [h.q j hj, h.endf j hj (by omega), List.append_nil] at hq
      have hls := h.lenS
      have hb := firstUp_bd (s.qs.map Qu.wait) (s.qs.map Qu.wait).length
      have h1 := firstUp_none (s.qs.map Qu.wait) (s.qs.map Qu.wait).length (by unfold firstQ at h0; omega) j (by rw [List.length_map]; omega)
      rw [waits_at (by omega)] at h1
      rw [h1] at hq
      cases hq
  have hr := h.row
  rw [← total_flat, hz] at hr
  simpa [merge] using hr
theorem li_take (h : LiI M fs rs s got E) :
    (∃ (i : Nat) (p : Pk) (l : List Pk), i < rs.length ∧ s.take.1 = some p ∧ LiI M fs (rs.set i l) s.take.2 (got ++ [p]) E ∧ total (s.take.2.qs.map Qu.wait) + 1 = total (s.qs.map Qu.wait)) ∨ (s.take = (none, s) ∧ (E = rs.length → got = M)) := by
  have hls := h.lenS
  by_cases h0 : firstQ (s.qs.map Qu.wait) < 0
  · exact .inr ⟨take_none h0, fun hE => h.none_ hE h0⟩
  · obtain ⟨i, hf⟩ := Int.eq_ofNat_of_zero_le (show 0 ≤ firstQ (s.qs.map Qu.wait) by omega)
    obtain ⟨hil, p, l, hw⟩ := firstQ_at hf
    have hi : i < rs.length := by omega
    have hwi : (quAt s.qs i).wait = p :: l := by rw [quAt_get hil]; exact hw
    cases hg : goB s.qs s.most p.at_ i with
    | false =>
      refine .inr ⟨take_wait hf hil hw hg, fun hE => ?_⟩
      exfalso
      have : nextUp s.qs p.at_ (i : Int) s.qs.length = true := nextUp_of _ fun k hk => by
        have he := h.endd k (by omega)
        rw [decide_eq_true (by omega)] at he
        rw [nextQ, he]; rfl
      rw [goB, this] at hg
      simp at hg
    | true =>
      obtain ⟨hpm, hpst, hpl⟩ := h.mem hi (p := p) (.inl (by rw [hwi]; exact List.mem_cons_self ..))
      have hpt := lay_time hpl
      have hov : overUp s.qs p.at_ s.most s.qs.length = false := overUp_of _ fun k hk => by
        by_cases hwk : (quAt s.qs k).wait = []
        · rw [overQ, hwk]; rfl
        · have hmem : (quAt s.qs k).wait.getD ((quAt s.qs k).wait.length - 1) pz ∈ (quAt s.qs k).wait := by
            have hlp : 0 < (quAt s.qs k).wait.length := List.length_pos_iff.2 hwk
            rw [List.getD_eq_getElem?_getD, List.getElem?_eq_getElem (by omega)]
            exact List.getElem_mem _
          have ht := lay_time (h.mem (i := k) (by omega) (.inl hmem)).2.2
          have hd : decide (s.most < lastAt (quAt s.qs k).wait - p.at_) = false := decide_eq_false (by
            rw [h.most]
            unfold lastAt
            omega)
          rw [overQ, hd, Bool.and_false]
      have hnx : nextUp s.qs p.at_ (i : Int) s.qs.length = true := by
        rw [goB, hov, Bool.or_false] at hg; exact hg
      have hrs : rs[i] = p :: (l ++ fs.getD i []) := by
        rw [← getD_rs hi, h.q i hi, hwi]; rfl
      have hfr : firstQ rs = (i : Int) := by
        refine firstQ_is hi hrs fun j hj hne => ?_
        have hle := firstUp_least (s.qs.map Qu.wait) (s.qs.map Qu.wait).length (by show 0 ≤ firstQ (s.qs.map Qu.wait); omega) j (by rw [List.length_map]; omega)
        rw [waits_at (by omega)] at hle
        have hf' : firstUp (s.qs.map Qu.wait) (s.qs.map Qu.wait).length = (i : Int) := hf
        rw [hf', Int.toNat_natCast, waits_at hil, hwi] at hle
        have hhp : headAt (p :: l) = p.at_ := rfl
        rw [hhp] at hle
        rw [h.q j hj] at hne ⊢
        by_cases hwj : (quAt s.qs j).wait = []
        · have hnj := nextUp_all _ hnx j (by omega)
          rw [hwj, List.nil_append] at hne ⊢
          have hlj := h.last j hj
          have hed := h.endd j hj
          have hef := h.endf j hj
          cases hfj : fs.getD j [] with
          | nil => exact absurd hfj hne
          | cons q t =>
            have hql := hlj q (by rw [hfj]; exact List.mem_cons_self ..)
            have hhq : headAt (q :: t) = q.at_ := rfl
            rw [hhq]
            by_cases hjE : j < E
            · rw [hef hjE] at hfj; cases hfj
            · rw [decide_eq_false hjE] at hed
              rw [nextQ, hed, hwj] at hnj
              simp at hnj
              omega
        · have hx := hle hwj
          have hha : headAt ((quAt s.qs j).wait ++ fs.getD j []) = headAt (quAt s.qs j).wait := by
            cases hq : (quAt s.qs j).wait with
            | nil => exact absurd hq hwj
            | cons a t => rfl
          rw [hha]
          exact ⟨hx.1, fun hji => hx.2 (by omega)⟩
      have hlst := first_le hfr hi hrs h.st h.asc
      have htake := take_some hf hil hw hg
      rw [htake]
      have htp := h.top p hpm
      have hsub : ∀ q ∈ (rs.set i (l ++ fs.getD i [])).flatten, q ∈ rs.flatten := fun q hq => by
        obtain ⟨j, hj, hq⟩ := mem_rs.1 hq
        rw [List.length_set] at hj
        rw [getD_set_l hi] at hq
        by_cases hij : i = j
        · subst hij
          rw [if_pos rfl] at hq
          exact mem_rs.2 ⟨i, hi, by rw [getD_rs hi, hrs]; exact List.mem_cons_of_mem _ hq⟩
        · rw [if_neg hij] at hq
          exact mem_rs.2 ⟨j, hj, hq⟩
      refine .inl ⟨i, p, l ++ fs.getD i [], hi, rfl, ⟨h.most, ?_, fun q hq => ?_, by rw [List.length_set, List.length_set]; exact hls, by rw [List.length_set]; exact h.lenF, fun j hj => ?_, fun j hj q hqm => ?_, fun j hj => ?_, fun j hj hjE => h.endf j (by rw [List.length_set] at hj; exact hj) hjE,
        fun q hq => h.lay q (hsub q hq), okAll_tail hi hrs h.st, ascAll_tail hi hrs h.asc, fun j hj => ?_, ?_⟩, ?_⟩
      · simp only; rw [if_neg (by omega)]; exact h.late
      · have h1 := h.top q (hsub q hq)
        have h2 := hlst q (hsub q hq)
        simp only [ltP, decide_eq_false_iff_not] at h2
        simp only; omega
      · rw [List.length_set] at hj
        rw [getD_set_l hi, quAt_set_ hil]
        by_cases hij : i = j
        · subst hij; rw [if_pos rfl, if_pos rfl]
        · rw [if_neg hij, if_neg hij]; exact h.q j hj
      · rw [List.length_set] at hj
        rw [quAt_set_ hil]
        by_cases hij : i = j
        · subst hij; rw [if_pos rfl]; have := h.last i hj q hqm; rwa [quAt_get hil] at this
        · rw [if_neg hij]; exact h.last j hj q hqm
      · rw [List.length_set] at hj
        rw [quAt_set_ hil]
        by_cases hij : i = j
        · subst hij; rw [if_pos rfl]; have := h.endd i hj; rwa [quAt_get hil] at this
        · rw [if_neg hij]; exact h.endd j hj
      · rw [List.length_set] at hj
        rw [getD_set_l hi]
        by_cases hij : i = j
        · subst hij
          rw [if_pos rfl]
          have := h.short i hi
          rw [getD_rs hi, hrs] at this
          simp only [List.length_cons] at this; omega
        · rw [if_neg hij]; exact h.short j hj
      · rw [List.append_assoc, List.singleton_append, ← merge_step hfr hi hrs]; exact h.row
      · have hmw : (s.qs.map Qu.wait)[i]'(by rw [List.length_map]; exact hil) = p :: l := by rw [List.getElem_map]; exact hw
        have := total_set (rs := s.qs.map Qu.wait) (by rw [List.length_map]; exact hil) hmw
        rw [← this]
        simp only [List.map_set]
theorem LiI.short_ (h : LiI M fs rs s got E) : got.length ≤ M.length := by rw [← h.row, List.length_append]; omega
end
theorem li_start {ls : List (List Pk)} (hE : weaveE ls = 0) (h9 : ∀ i, i < ls.length → (ls.getD i []).length ≤ 9) : LiI (weaveP ls) ls ls ⟨1125899906842624, List.replicate ls.length ⟨[], 0, false⟩, 0, 0⟩ [] 0 := by
  have hok : weaveOk ls ∧ weaveAsc ls := by
    unfold weaveE at hE
    split at hE
    · omega
    · rename_i h
      split at hE
      · omega
      · rename_i h'
        exact ⟨Classical.not_not.1 (fun h9 => h (.inr (.inr h9))), Classical.not_not.1 h'⟩
  have hqa : ∀ i, i < ls.length → quAt (List.replicate ls.length ⟨[], 0, false⟩) i = ⟨[], 0, false⟩ := fun i hi => by
    rw [quAt_get (by rw [List.length_replicate]; exact hi), List.getElem_replicate]
  have hlay : ∀ q ∈ ls.flatten, layE q = 0 := fun q hq => by
    obtain ⟨j, hj, hq⟩ := mem_rs.1 hq
    obtain ⟨k, hk, e⟩ := List.mem_iff_getElem.1 hq
    have := (hok.1 j hj k hk).1
    rw [List.getD_eq_getElem?_getD, List.getElem?_eq_getElem hk, Option.getD_some, e] at this
    exact this
  refine ⟨rfl, rfl, fun q hq => (lay_time (hlay q hq)).2.2.1, by simp, rfl, fun i hi => by rw [hqa i hi]; rfl, fun i hi p hp => ?_, fun i hi => by rw [hqa i hi]; rfl, fun i _ h => absurd h (by omega), hlay, weaveOk_all hok.1, weaveAsc_all hok.2, h9, by rw [weaveP, if_pos hE]; rfl⟩
  rw [hqa i hi]
  exact (lay_time (hlay p (mem_rs.2 ⟨i, hi, hp⟩))).2.2.1
/-- What is still to be put. -/
def fsOf (ls : List (List Pk)) (ks : List Nat) : List (List Pk) := (List.range ls.length).map fun i => (ls.getD i []).drop (ks.getD i 0)
theorem fsOf_len (ls : List (List Pk)) (ks : List Nat) : (fsOf ls ks).length = ls.length := by simp [fsOf]
theorem fsOf_at {ls : List (List Pk)} {ks : List Nat} {i : Nat} (h : i < ls.length) : (fsOf ls ks).getD i [] = (ls.getD i []).drop (ks.getD i 0) := by
  rw [getD_rs (by rw [fsOf_len]; exact h)]
  simp [fsOf]
theorem fsOf_zero (ls : List (List Pk)) : fsOf ls (List.replicate ls.length 0) = ls := by
  apply List.ext_getElem
  · simp [fsOf]
  · intro j h1 h2
    simp [fsOf, h2]
theorem fsOf_set {ls : List (List Pk)} {ks : List Nat} {i k : Nat} (h : i < ls.length) (ha : i < ks.length) : fsOf ls (ks.set i k) = (fsOf ls ks).set i ((ls.getD i []).drop k) := by
  apply List.ext_getElem
  · simp [fsOf]
  · intro j h1 h2
    have hj : j < ls.length := by rw [fsOf_len] at h1; exact h1
    rw [List.getElem_set]
    simp only [fsOf, List.getElem_map, List.getElem_range]
    rw [List.getD_eq_getElem?_getD (l := ks.set i k), List.getElem?_set]
    by_cases hij : i = j
    · subst hij; simp [ha]
    · simp [hij, List.getD_eq_getElem?_getD]
end Go.Proofs.Ytnflhogjonlnmaa
