/- WeaveBound, plain: what waits, and how far apart. -/
import Derived.Test.YtnflhogjonlnmaaWvL
set_option linter.unusedSimpArgs false
set_option linter.unusedVariables false
namespace Go.Proofs.Ytnflhogjonlnmaa
open Go.RowKit

def wsOf (qs : List Qu) : List (List Int) := qs.map fun q => q.wait.map Pk.at_
def lsOf (qs : List Qu) : List Int := qs.map Qu.last
def tot3 (qs : List Qu) : Nat := (quAt qs 0).wait.length + (quAt qs 1).wait.length + (quAt qs 2).wait.length
structure BdQ (i j : Nat) (q : Qu) : Prop where
  open_ : q.ended = false
  last0 : 0 ≤ q.last
  last1 : q.last ≤ 60 * (i : Int)
  pk : ∀ p ∈ q.wait, p.st = (j : Int) ∧ 0 ≤ p.at_ ∧ p.at_ ≤ q.last
  asc : q.wait.Pairwise fun a b => a.at_ ≤ b.at_
structure BdI (m : Int) (i : Nat) (s : Wv) : Prop where
  len : s.qs.length = 3
  most : s.most = m
  q : ∀ j, j < 3 → BdQ i j (quAt s.qs j)
  late : 0 ≤ s.late ∧ s.late + (tot3 s.qs : Int) ≤ (i : Int)
theorem quAt_set {qs : List Qu} {i j : Nat} {q : Qu} (h : i < qs.length) : quAt (qs.set i q) j = if i = j then q else quAt qs j := by
  unfold quAt
  rw [List.getD_eq_getElem?_getD, List.getElem?_set, List.getD_eq_getElem?_getD]
  by_cases hij : i = j
  · subst hij; simp [h]
  · simp [hij]
theorem tot3_set {qs : List Qu} {j : Nat} {q : Qu} (hl : qs.length = 3) (hj : j < 3) : tot3 (qs.set j q) + (quAt qs j).wait.length = tot3 qs + q.wait.length := by
  unfold tot3
  rw [quAt_set (by omega), quAt_set (by omega), quAt_set (by omega)]
  match j, hj with
  | 0, _ => simp; omega
  | 1, _ => simp; omega
  | 2, _ => simp; omega
theorem ws_at {qs : List Qu} {j : Nat} (h : j < qs.length) : (wsOf qs).getD j [] = (quAt qs j).wait.map Pk.at_ := by
  rw [quAt_get h, wsOf, List.getD_eq_getElem?_getD, List.getElem?_map, List.getElem?_eq_getElem h]; rfl
theorem ls_at {qs : List Qu} {j : Nat} (h : j < qs.length) : (lsOf qs).getD j 0 = (quAt qs j).last := by
  rw [quAt_get h, lsOf, List.getD_eq_getElem?_getD, List.getElem?_map, List.getElem?_eq_getElem h]; rfl
theorem ws_set (qs : List Qu) (j : Nat) (q : Qu) : wsOf (qs.set j q) = (wsOf qs).set j (q.wait.map Pk.at_) := by simp [wsOf, List.map_set]
theorem ls_set (qs : List Qu) (j : Nat) (q : Qu) : lsOf (qs.set j q) = (lsOf qs).set j q.last := by simp [lsOf, List.map_set]
theorem set_self {α : Type} (l : List α) (j : Nat) (d : α) (h : j < l.length) : l.set j (l.getD j d) = l := by
  rw [List.getD_eq_getElem?_getD, List.getElem?_eq_getElem h, Option.getD_some, List.set_getElem_self]
theorem bd_zero (m : Int) : BdI m 0 ⟨m, List.replicate 3 ⟨[], 0, false⟩, 0, 0⟩ := by
  refine ⟨rfl, rfl, fun j hj => ?_, by simp [tot3, quAt, List.replicate]⟩
  have hq : quAt (List.replicate 3 (⟨[], 0, false⟩ : Qu)) j = ⟨[], 0, false⟩ := by rw [quAt_get (by simp; exact hj), List.getElem_replicate]
  simp only [hq]
  exact ⟨rfl, by simp, by simp, fun p hp => (by cases hp), List.Pairwise.nil⟩
theorem wait_le {m : Int} {i : Nat} {s : Wv} (h : BdI m i s) {j : Nat} (hj : j < 3) : (quAt s.qs j).wait.length ≤ tot3 s.qs := by
  unfold tot3
  match j, hj with
  | 0, _ => omega
  | 1, _ => omega
  | 2, _ => omega
/-- A packet as the law puts it. -/
def bp (j : Nat) (a : Int) : Pk := ⟨(j : Int), a, 0, false, false, []⟩
theorem bd_put {m : Int} {i : Nat} {s : Wv} (h : BdI m i s) (hi : i < 60) {j r : Nat} (hj : j < 3) (hr : r < 60) :
    s.putE (bp j ((lsOf s.qs).getD j 0 + r)) = 0 ∧ BdI m (i + 1) (s.put (bp j ((lsOf s.qs).getD j 0 + r))) ∧
      wsOf (s.put (bp j ((lsOf s.qs).getD j 0 + r))).qs = (wsOf s.qs).set j ((wsOf s.qs).getD j [] ++ [(lsOf s.qs).getD j 0 + r]) ∧
      lsOf (s.put (bp j ((lsOf s.qs).getD j 0 + r))).qs = (lsOf s.qs).set j ((lsOf s.qs).getD j 0 + r) := by
  have hl := h.len
  have hq := h.q j hj
  have hw := wait_le h hj
  have hla := h.late
  have hq0 := hq.last0
  have hq1 := hq.last1
  rw [ls_at (by omega), ws_at (by omega)]
  have hE : s.putE (bp j ((quAt s.qs j).last + r)) = 0 := by
    have h1 : layE (bp j ((quAt s.qs j).last + r)) = 0 := by
      rw [layE, if_pos (by simp [Pk.head, bp]; omega), if_neg (by simp [bp])]
    have he : (bp j ((quAt s.qs j).last + r)).st.toNat = j := by simp [bp]
    have ha : (bp j ((quAt s.qs j).last + r)).at_ = (quAt s.qs j).last + r := rfl
    have hst : (bp j ((quAt s.qs j).last + r)).st = (j : Int) := rfl
    rw [Wv.putE, if_neg (by rw [h1]; simp), he, ha, hst, if_neg (by omega), hq.open_, if_neg (by simp), if_neg (by omega), if_neg (by omega)]
  refine ⟨hE, ?_, ?_, ?_⟩
  · rw [Wv.put, if_pos hE]
    simp only [bp, Int.toNat_natCast]
    refine ⟨by simp only [List.length_set]; exact hl, h.most, fun k hk => ?_, hla.1, ?_⟩
    · simp only
      rw [quAt_set (by omega)]
      have hk0 := h.q k hk
      split
      · rename_i hjk
        subst hjk
        refine ⟨hq.open_, by simp only; omega, by simp only; omega, fun p hp => ?_, ?_⟩
        · rcases List.mem_append.1 hp with hp | hp
          · have := hq.pk p hp
            refine ⟨this.1, this.2.1, by simp only; omega⟩
          · simp only [List.mem_singleton] at hp
            subst hp
            exact ⟨rfl, by simp only; omega, Int.le_refl _⟩
        · refine List.pairwise_append.2 ⟨hq.asc, List.pairwise_singleton .., fun a ha b hb => ?_⟩
          simp only [List.mem_singleton] at hb
          subst hb
          have := (hq.pk a ha).2.2
          simp only; omega
      · have := hk0.last1
        exact ⟨hk0.open_, hk0.last0, by omega, hk0.pk, hk0.asc⟩
    · simp only
      have := tot3_set (q := ⟨(quAt s.qs j).wait ++ [⟨(j : Int), (quAt s.qs j).last + r, 0, false, false, []⟩], (quAt s.qs j).last + r, (quAt s.qs j).ended⟩) hl hj
      simp only [List.length_append, List.length_singleton] at this
      omega
  · rw [Wv.put, if_pos hE]
    simp only [bp, Int.toNat_natCast, ws_set, List.map_append, List.map_cons, List.map_nil]
  · rw [Wv.put, if_pos hE]
    simp only [bp, Int.toNat_natCast, ls_set]
theorem map_get_wait {qs : List Qu} {k : Nat} (hk : k < qs.length) : (qs.map Qu.wait).getD k [] = (quAt qs k).wait := by
  rw [quAt_get hk, List.getD_eq_getElem?_getD, List.getElem?_map, List.getElem?_eq_getElem hk]; rfl
theorem lastAt_ge {l : List Pk} (h : l.Pairwise fun a b => a.at_ ≤ b.at_) {p : Pk} (hp : p ∈ l) : p.at_ ≤ lastAt l := by
  obtain ⟨k, hk, rfl⟩ := List.mem_iff_getElem.1 hp
  rw [lastAt, List.getD_eq_getElem?_getD, List.getElem?_eq_getElem (by omega), Option.getD_some]
  by_cases e : k = l.length - 1
  · subst e; exact Int.le_refl _
  · exact List.pairwise_iff_getElem.1 h k (l.length - 1) hk (by omega) (by omega)
theorem head_le {l : List Pk} (h : l.Pairwise fun a b => a.at_ ≤ b.at_) {p : Pk} (hp : p ∈ l) : headAt l ≤ p.at_ := by
  cases l with
  | nil => cases hp
  | cons q l =>
    rcases List.mem_cons.1 hp with rfl | hp
    · exact Int.le_refl _
    · exact (List.pairwise_cons.1 h).1 p hp
/-- What Take does: it hands out the first one of a stream, or leaves none further apart than the bound. -/
theorem bd_take {m : Int} {i : Nat} {s : Wv} (h : BdI m i s) (hm : 0 ≤ m) :
    (∃ (j : Nat) (p : Pk) (l : List Int), j < 3 ∧ s.take.1 = some p ∧ p.st = (j : Int) ∧ (wsOf s.qs).getD j [] = p.at_ :: l ∧ BdI m i s.take.2 ∧ wsOf s.take.2.qs = (wsOf s.qs).set j l ∧ lsOf s.take.2.qs = lsOf s.qs ∧ tot3 s.take.2.qs < tot3 s.qs) ∨
    (s.take = (none, s) ∧ ∀ j k : Nat, j < 3 → k < 3 → ∀ x ∈ (wsOf s.qs).getD j [], ∀ y ∈ (wsOf s.qs).getD k [], y - x ≤ m) := by
  have hl := h.len
  by_cases h0 : firstQ (s.qs.map Qu.wait) < 0
  · refine .inr ⟨take_none h0, fun j k hj hk x hx => ?_⟩
    have hb := firstUp_bd (s.qs.map Qu.wait) (s.qs.map Qu.wait).length
    have hn := firstUp_none (s.qs.map Qu.wait) (s.qs.map Qu.wait).length (by rw [firstQ] at h0; omega) j (by rw [List.length_map]; omega)
    rw [map_get_wait (by omega)] at hn
    rw [ws_at (by omega), hn] at hx
    cases hx
  · obtain ⟨n, hn⟩ := Int.eq_ofNat_of_zero_le (show 0 ≤ firstQ (s.qs.map Qu.wait) by omega)
    obtain ⟨hnl, p, l, hw⟩ := firstQ_at hn
    have hwq : (quAt s.qs n).wait = p :: l := by rw [quAt_get hnl]; exact hw
    have hq := h.q n (by omega)
    cases hg : goB s.qs s.most p.at_ n with
    | true =>
      rw [take_some hn hnl hw hg]
      refine .inl ⟨n, p, l.map Pk.at_, by omega, rfl, (hq.pk p (by rw [hwq]; exact List.mem_cons_self ..)).1, by rw [ws_at hnl, hwq]; rfl, ⟨by simp only [List.length_set]; exact hl, h.most, fun k hk => ?_, ?_⟩, by simp only [ws_set], ?_, ?_⟩
      · simp only
        rw [quAt_set hnl]
        split
        · rename_i hnk
          subst hnk
          have hasc := hq.asc
          rw [hwq] at hasc
          rw [← quAt_get hnl]
          exact ⟨hq.open_, hq.last0, hq.last1, fun y hy => hq.pk y (by rw [hwq]; exact List.mem_cons_of_mem _ hy), (List.pairwise_cons.1 hasc).2⟩
        · exact h.q k hk
      · have ht := tot3_set (q := ⟨l, s.qs[n].last, s.qs[n].ended⟩) hl (show n < 3 by omega)
        rw [hwq] at ht
        simp only [List.length_cons] at ht
        have := h.late
        simp only
        split <;> omega
      · simp only [ls_set]
        have := set_self (lsOf s.qs) n 0 (by simp [lsOf]; exact hnl)
        rw [ls_at hnl, quAt_get hnl] at this
        exact this
      · have ht := tot3_set (q := ⟨l, s.qs[n].last, s.qs[n].ended⟩) hl (show n < 3 by omega)
        rw [hwq] at ht
        simp only [List.length_cons] at ht
        simp only
        omega
    | false =>
      refine .inr ⟨take_wait hn hnl hw hg, fun j k hj hk x hx y hy => ?_⟩
      rw [ws_at (by omega)] at hx hy
      obtain ⟨px, hpx, rfl⟩ := List.mem_map.1 hx
      obtain ⟨py, hpy, rfl⟩ := List.mem_map.1 hy
      have h1 := firstUp_least (s.qs.map Qu.wait) (s.qs.map Qu.wait).length (by rw [firstQ] at hn; omega) j (by rw [List.length_map]; omega) (by rw [map_get_wait (by omega)]; intro e; rw [e] at hpx; cases hpx)
      rw [firstQ] at hn
      rw [hn, Int.toNat_natCast, map_get_wait hnl, map_get_wait (by omega), hwq] at h1
      have e1 : headAt (p :: l) = p.at_ := rfl
      have h2 := head_le (h.q j hj).asc hpx
      have h3 := lastAt_ge (h.q k hk).asc hpy
      have h4 : overQ (quAt s.qs k) p.at_ s.most = false := by
        cases ho : overQ (quAt s.qs k) p.at_ s.most with
        | false => rfl
        | true =>
          have := overUp_true ho s.qs.length (by omega)
          rw [goB, this, Bool.or_true] at hg
          cases hg
      have h5 : decide ((quAt s.qs k).wait ≠ []) = true := by rw [decide_eq_true_eq]; intro e; rw [e] at hpy; cases hpy
      rw [overQ, h5, Bool.true_and, decide_eq_false_iff_not, h.most] at h4
      have := h1.1
      omega
end Go.Proofs.Ytnflhogjonlnmaa
