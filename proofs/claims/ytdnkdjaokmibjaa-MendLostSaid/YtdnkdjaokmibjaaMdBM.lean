/- Guarded pages of which some are left: what Mend makes of them (plain). -/
import Derived.Test.YtdnkdjaokmibjaaMdBL
import Derived.Test.YtdnkdjaokmibjaaMdHo
set_option linter.unusedSimpArgs false
set_option linter.unusedVariables false
namespace Go.Proofs.Ytdnkdjaokmibjaa
open Go.RowKit

/-- what is left of guarded pages -/
structure Left (l s : List Pg) : Prop where
  pg : ∀ x ∈ s, x.guard = false → x ∈ l
  gd : ∀ x ∈ s, x.guard = true → ∃ k, k < nGrp l ∧ x = guardG (grp l k)
section
variable {l : List Pg}
theorem Num.inj (h : Num l) {p : Pg} (hp : p ∈ l) : ∃ i, ∃ hi : i < l.length, p = l[i] ∧ p.seq = (i : Int) := by
  obtain ⟨i, hi, rfl⟩ := List.getElem_of_mem hp
  exact ⟨i, hi, rfl, h.seq hi⟩
theorem guardG_good (h : Num l) (hl : l.length ≤ 100000) {k : Nat} (hk : k < nGrp l) : pgOk (guardG (grp l k)) = true ∧ isG (guardG (grp l k)) = true := by
  have h0 := nGrp_pos hk
  have hg := h.grpOk k
  have h1 : 1 ≤ longest (grp l k) := Nat.le_trans (hg.short (List.getElem_mem h0)).1 (longest_le (List.getElem_mem h0))
  have h2 : longest (grp l k) ≤ 252 := longest_bd fun p hp => (hg.short hp).2
  have h3 := guardG_len (grp l k)
  have h4 := grp_len l k
  have h5 := h.guard_seq hk
  have h6 : mostB true = 255 := rfl
  have h7 : k < nGrp l := hk
  unfold nGrp at h7
  constructor
  · refine decide_eq_true ?_
    rw [h5, h3, show (guardG (grp l k)).guard = true from rfl, h6]
    omega
  · refine decide_eq_true ⟨rfl, by omega, ?_⟩
    rw [guardG_0]; omega
theorem mendA_mem (h : Num l) (hl : l.length ≤ 100000) {s : List Pg} (hs : Left l s) :
    (∀ p, p ∈ (mendA s).1 ↔ p ∈ s ∧ p.guard = false) ∧ (∀ p, p ∈ (mendA s).2.1 ↔ p ∈ s ∧ p.guard = true) ∧ (mendA s).2.2 ≤ (l.length : Int) - 1 := by
  have key : ∀ (s : List Pg) (st : List Pg × List Pg × Int), Left l s → (∀ p ∈ st.1, p ∈ l) → st.2.2 ≤ (l.length : Int) - 1 →
      (∀ p, p ∈ (s.foldl mendF st).1 ↔ p ∈ st.1 ∨ (p ∈ s ∧ p.guard = false)) ∧ (∀ p, p ∈ (s.foldl mendF st).2.1 ↔ p ∈ st.2.1 ∨ (p ∈ s ∧ p.guard = true)) ∧ (s.foldl mendF st).2.2 ≤ (l.length : Int) - 1 := by
    intro s
    induction s with
    | nil => intro st _ _ ht; simp [ht]
    | cons x s ih =>
      intro st hs hO ht
      have hs' : Left l s := ⟨fun y hy => hs.pg y (List.mem_cons_of_mem _ hy), fun y hy => hs.gd y (List.mem_cons_of_mem _ hy)⟩
      rw [List.foldl_cons]
      by_cases hx : x.guard = true
      · obtain ⟨k, hk, rfl⟩ := hs.gd x (List.mem_cons_self ..) hx
        obtain ⟨g1, g2⟩ := guardG_good h hl hk
        have he : mendF st (guardG (grp l k)) = (st.1, st.2.1 ++ [guardG (grp l k)], max st.2.2 ((guardG (grp l k)).seq + (guardG (grp l k)).body.getD 0 0 - 1)) := by
          rw [mendF, if_neg (by rw [g1]; simp), if_pos hx, if_pos g2]
        rw [he]
        have h4 := grp_len l k
        have h5 := h.guard_seq hk
        have h0 := nGrp_pos hk
        obtain ⟨i1, i2, i3⟩ := ih (st.1, st.2.1 ++ [guardG (grp l k)], max st.2.2 ((guardG (grp l k)).seq + (guardG (grp l k)).body.getD 0 0 - 1)) hs' hO (by
          show max st.2.2 ((guardG (grp l k)).seq + (guardG (grp l k)).body.getD 0 0 - 1) ≤ (l.length : Int) - 1
          rw [h5, guardG_0]; omega)
        refine ⟨fun p => ?_, fun p => ?_, i3⟩
        · rw [i1]
          constructor
          · rintro (h1 | ⟨h1, h2⟩)
            · exact .inl h1
            · exact .inr ⟨List.mem_cons_of_mem _ h1, h2⟩
          · rintro (h1 | ⟨h1, h2⟩)
            · exact .inl h1
            · rcases List.mem_cons.1 h1 with rfl | h1
              · rw [hx] at h2; cases h2
              · exact .inr ⟨h1, h2⟩
        · rw [i2, List.mem_append, List.mem_singleton]
          constructor
          · rintro ((h1 | rfl) | ⟨h1, h2⟩)
            · exact .inl h1
            · exact .inr ⟨List.mem_cons_self .., hx⟩
            · exact .inr ⟨List.mem_cons_of_mem _ h1, h2⟩
          · rintro (h1 | ⟨h1, h2⟩)
            · exact .inl (.inl h1)
            · rcases List.mem_cons.1 h1 with rfl | h1
              · exact .inl (.inr rfl)
              · exact .inr ⟨h1, h2⟩
      · have hx0 : x.guard = false := by simpa using hx
        have hxl := hs.pg x (List.mem_cons_self ..) hx0
        obtain ⟨i, hi, hxi, hsq⟩ := h.inj hxl
        have hok : pgOk x = true := by rw [hxi]; exact (h i hi).ok
        by_cases hxO : x ∈ st.1
        · have he : mendF st x = st := by
            rw [mendF, if_neg (by rw [hok]; simp), if_neg hx, if_pos (by rw [h.has hO hxO]; rfl)]
          rw [he]
          obtain ⟨i1, i2, i3⟩ := ih st hs' hO ht
          refine ⟨fun p => ?_, fun p => ?_, i3⟩
          · rw [i1]
            constructor
            · rintro (h1 | ⟨h1, h2⟩)
              · exact .inl h1
              · exact .inr ⟨List.mem_cons_of_mem _ h1, h2⟩
            · rintro (h1 | ⟨h1, h2⟩)
              · exact .inl h1
              · rcases List.mem_cons.1 h1 with rfl | h1
                · exact .inl hxO
                · exact .inr ⟨h1, h2⟩
          · rw [i2]
            constructor
            · rintro (h1 | ⟨h1, h2⟩)
              · exact .inl h1
              · exact .inr ⟨List.mem_cons_of_mem _ h1, h2⟩
            · rintro (h1 | ⟨h1, h2⟩)
              · exact .inl h1
              · rcases List.mem_cons.1 h1 with rfl | h1
                · exact absurd h2 hx
                · exact .inr ⟨h1, h2⟩
        · have he : mendF st x = (st.1 ++ [x], st.2.1, max st.2.2 x.seq) := by
            rw [mendF, if_neg (by rw [hok]; simp), if_neg hx, if_neg (by rw [h.hasNot hO hxl hxO]; simp)]
          rw [he]
          obtain ⟨i1, i2, i3⟩ := ih (st.1 ++ [x], st.2.1, max st.2.2 x.seq) hs' (fun p hp => by
            rcases List.mem_append.1 hp with hp | hp
            · exact hO p hp
            · rw [List.mem_singleton] at hp; subst hp; exact hxl) (by
            show max st.2.2 x.seq ≤ _
            omega)
          refine ⟨fun p => ?_, fun p => ?_, i3⟩
          · rw [i1, List.mem_append, List.mem_singleton]
            constructor
            · rintro ((h1 | rfl) | ⟨h1, h2⟩)
              · exact .inl h1
              · exact .inr ⟨List.mem_cons_self .., hx0⟩
              · exact .inr ⟨List.mem_cons_of_mem _ h1, h2⟩
            · rintro (h1 | ⟨h1, h2⟩)
              · exact .inl (.inl h1)
              · rcases List.mem_cons.1 h1 with rfl | h1
                · exact .inl (.inr rfl)
                · exact .inr ⟨h1, h2⟩
          · rw [i2]
            constructor
            · rintro (h1 | ⟨h1, h2⟩)
              · exact .inl h1
              · exact .inr ⟨List.mem_cons_of_mem _ h1, h2⟩
            · rintro (h1 | ⟨h1, h2⟩)
              · exact .inl h1
              · rcases List.mem_cons.1 h1 with rfl | h1
                · exact absurd h2 hx
                · exact .inr ⟨h1, h2⟩
  obtain ⟨k1, k2, k3⟩ := key s ([], [], -1) hs (fun p hp => by cases hp) (by show (-1 : Int) ≤ _; omega)
  refine ⟨fun p => ?_, fun p => ?_, k3⟩
  · rw [show mendA s = s.foldl mendF ([], [], -1) from rfl, k1]; simp
  · rw [show mendA s = s.foldl mendF ([], [], -1) from rfl, k2]; simp
theorem mend_mem (h : Num l) (hl : l.length ≤ 100000) {s : List Pg} (hs : Left l s) :
    (∀ p, p ∈ mendO s ↔ (p ∈ s ∧ p.guard = false) ∨ ∃ k, k < nGrp l ∧ guardG (grp l k) ∈ s ∧ p ∈ grp l k ∧ ∀ q ∈ grp l k, q ≠ p → q ∈ s) ∧ (∀ p ∈ mendO s, p ∈ l) ∧ Kept (mendO s) ∧ mendT s ≤ (l.length : Int) - 1 := by
  obtain ⟨m1, m2, m3⟩ := mendA_mem h hl hs
  have hO : ∀ p ∈ (mendA s).1, p ∈ l := fun p hp => by
    obtain ⟨h1, h2⟩ := (m1 p).1 hp
    exact hs.pg p h1 h2
  have hG : ∀ g ∈ (mendA s).2.1, ∃ k, k < nGrp l ∧ g = guardG (grp l k) := fun g hg => by
    obtain ⟨h1, h2⟩ := (m2 g).1 hg
    exact hs.gd g h1 h2
  have hmem : ∀ p, p ∈ mendO s ↔ (p ∈ s ∧ p.guard = false) ∨ ∃ k, k < nGrp l ∧ guardG (grp l k) ∈ s ∧ p ∈ grp l k ∧ ∀ q ∈ grp l k, q ≠ p → q ∈ s := fun p => by
    unfold mendO
    rw [backs_mem h (mendA s).2.1 hO hG p, m1]
    constructor
    · rintro (h1 | ⟨k, hk, h1, h2, h3⟩)
      · exact .inl h1
      · exact .inr ⟨k, hk, ((m2 _).1 h1).1, h2, fun q hq hqp => ((m1 q).1 (h3 q hq hqp)).1⟩
    · rintro (h1 | ⟨k, hk, h1, h2, h3⟩)
      · exact .inl h1
      · exact .inr ⟨k, hk, (m2 _).2 ⟨h1, rfl⟩, h2, fun q hq hqp => (m1 q).2 ⟨h3 q hq hqp, (h.grpOk k).g q hq⟩⟩
  refine ⟨hmem, fun p hp => ?_, back_kept _ (mendA_kept s), m3⟩
  rcases (hmem p).1 hp with ⟨h1, h2⟩ | ⟨k, _, _, h1, _⟩
  · exact hs.pg p h1 h2
  · exact grp_mem h1
end

/-- A row by number is known by what it holds. -/
theorem sorted_mem : ∀ {xs ys : List Pg}, xs.Pairwise (fun a b => a.seq < b.seq) → ys.Pairwise (fun a b => a.seq ≤ b.seq) → difS ys → (∀ p, p ∈ ys ↔ p ∈ xs) → ys = xs
  | [], [], _, _, _, _ => rfl
  | [], y :: ys, _, _, _, hm => by have := (hm y).1 (List.mem_cons_self ..); cases this
  | x :: xs, [], _, _, _, hm => by have := (hm x).2 (List.mem_cons_self ..); cases this
  | x :: xs, y :: ys, hx, hy, hd, hm => by
    obtain ⟨hx1, hx2⟩ := List.pairwise_cons.1 hx
    obtain ⟨hy1, hy2⟩ := List.pairwise_cons.1 hy
    obtain ⟨hd1, hd2⟩ := List.pairwise_cons.1 hd
    have h1 : y ∈ x :: xs := (hm y).1 (List.mem_cons_self ..)
    have h2 : x ∈ y :: ys := (hm x).2 (List.mem_cons_self ..)
    have he : y = x := by
      rcases List.mem_cons.1 h1 with h | h
      · exact h
      · rcases List.mem_cons.1 h2 with h' | h'
        · exact h'.symm
        · have a := hx1 y h
          have b := hy1 x h'
          omega
    subst he
    rw [sorted_mem hx2 hy2 hd2 fun p => ?_]
    constructor
    · intro hp
      rcases List.mem_cons.1 ((hm p).1 (List.mem_cons_of_mem _ hp)) with rfl | h
      · exact absurd rfl (hd1 p hp)
      · exact h
    · intro hp
      rcases List.mem_cons.1 ((hm p).2 (List.mem_cons_of_mem _ hp)) with rfl | h
      · have := hx1 p hp; omega
      · exact h
theorem difS_perm {a b : List Pg} (h : difS a) (hp : b.Perm a) : difS b := by
  have := List.Perm.pairwise_iff (R := fun (x y : Pg) => x.seq ≠ y.seq) (fun {x y} (h : x.seq ≠ y.seq) => h.symm) hp
  exact this.2 h
theorem Num.sorted {l : List Pg} (h : Num l) : l.Pairwise (fun a b => a.seq < b.seq) := by
  rw [List.pairwise_iff_getElem]
  intro i j hi hj hij
  rw [h.seq hi, h.seq hj]; omega
/-- consecutive pages leave no hole -/
theorem holes_run : ∀ (l : List Pg) (hs : List Ho) (nx : Nat), (∀ i (hi : i < l.length), l[i].seq = ((nx + i : Nat) : Int)) → l.foldl holesF (hs, (nx : Int)) = (hs, ((nx + l.length : Nat) : Int))
  | [], hs, nx, _ => rfl
  | p :: l, hs, nx, h => by
    have h0 := h 0 (by simp)
    simp only [List.getElem_cons_zero, Nat.add_zero] at h0
    rw [List.foldl_cons]
    have e : holesF (hs, (nx : Int)) p = (hs, ((nx + 1 : Nat) : Int)) := by
      simp only [holesF, h0]
      rw [if_neg (by omega)]
      rfl
    rw [e, holes_run l hs (nx + 1) fun i hi => by
      have := h (i + 1) (by simp; omega)
      rw [List.getElem_cons_succ] at this
      rw [this]; omega]
    rw [show nx + 1 + l.length = nx + (p :: l).length by simp; omega]
theorem Num.noHoles {l : List Pg} (h : Num l) {t : Int} (ht : t ≤ (l.length : Int) - 1) : holesP l t = [] := by
  have := holes_run l [] 0 (fun i hi => by rw [h.seq hi]; omega)
  unfold holesP
  rw [show holesS l = l.foldl holesF ([], 0) from rfl, show ((0 : Int)) = ((0 : Nat) : Int) from rfl, this]
  rw [if_neg (by show ¬ ((0 + l.length : Nat) : Int) ≤ t; omega)]
/-- All of it is there again. -/
theorem mend_whole {l s ys : List Pg} (h : Num l) (hl : l.length ≤ 100000) (hs : Left l s) (hall : ∀ p ∈ l, p ∈ s ∨ ∃ k, k < nGrp l ∧ guardG (grp l k) ∈ s ∧ p ∈ grp l k ∧ ∀ q ∈ grp l k, q ≠ p → q ∈ s) (hp : ys.Perm (mendO s)) (ho : ys.Pairwise (fun a b => a.seq ≤ b.seq)) : ys = l ∧ holesP ys (mendT s) = [] := by
  obtain ⟨m1, m2, m3, m4⟩ := mend_mem h hl hs
  have he : ys = l := by
    refine sorted_mem h.sorted ho (difS_perm m3.dif hp) fun p => ?_
    rw [hp.mem_iff]
    refine ⟨m2 p, fun hpl => (m1 p).2 ?_⟩
    rcases hall p hpl with h1 | h1
    · obtain ⟨i, hi, rfl, _⟩ := h.inj hpl
      exact .inl ⟨h1, (h i hi).g⟩
    · exact .inr h1
  refine ⟨he, ?_⟩
  rw [he]
  exact h.noHoles m4
end Go.Proofs.Ytdnkdjaokmibjaa
