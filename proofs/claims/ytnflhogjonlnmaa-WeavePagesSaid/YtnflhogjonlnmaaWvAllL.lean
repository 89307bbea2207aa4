/- What WeaveAll answers (plain). -/
import Derived.Test.YtnflhogjonlnmaaQu
import Derived.Test.YtnflhogjonlnmaaPkLayL
set_option linter.unusedSimpArgs false
set_option linter.unusedVariables false
namespace Go.Proofs.Ytnflhogjonlnmaa
open Go.RowKit

def LpR : Rel (List Pk) := fun w S cs l => ∃ A c, cs = [.slice A l.length c] ∧ l.length ≤ c ∧ RdPk w S A l ∧ l.length ≤ 1000000000
theorem LpR.good : Rel.Good LpR 1 where
  pos := by omega
  len := by rintro w S cs x ⟨A, c, rfl, _⟩; rfl
  one := by
    rintro w S cs x ⟨A, c, rfl, _⟩ u hu
    simp only [List.mem_cons, List.not_mem_nil, or_false] at hu
    rcases hu with rfl; rfl
  keep := by
    rintro w w' M S cs x ⟨A, c, h1, h2, h3, h4⟩ hm hs
    exact ⟨A, c, h1, h2, h3.keep PkR.good hm hs, h4⟩
  weak := by
    rintro w S S' cs x ⟨A, c, h1, h2, h3, h4⟩ hs
    exact ⟨A, c, h1, h2, h3.weak PkR.good hs, h4⟩
theorem RdLp.at_ {w : World} {S : Nat → Prop} {A : Option Addr} {xs : List (List Pk)} (h : RdG LpR 1 w S A xs) {j : Nat} (hj : j < xs.length) : ∃ ad Aj cj, A = some ad ∧ S ad.block ∧ w.cell? (ad.add j) = some (.slice Aj xs[j].length cj) ∧ xs[j].length ≤ cj ∧ RdPk w S Aj xs[j] ∧ xs[j].length ≤ 1000000000 := by
  obtain ⟨ad, cs, e, hb, ⟨Aj, cj, rfl, h1, h2, h3⟩, hc⟩ := h j hj
  have := hc 0 _ rfl
  simp only [Nat.mul_one, Nat.add_zero] at this
  exact ⟨ad, Aj, cj, e, hb, this, h1, h2, h3⟩

def zp : Pk := ⟨0, 0, 0, false, false, []⟩
/-- The first k of a stream's packets may be, and are of that stream. -/
def okTo (l : List Pk) (i k : Nat) : Prop := ∀ j, j < k → layE (l.getD j zp) = 0 ∧ (l.getD j zp).st = (i : Int)
/-- The first k are in order. -/
def ascTo (l : List Pk) (k : Nat) : Prop := ∀ j, j < k - 1 → (l.getD j zp).at_ ≤ (l.getD (j + 1) zp).at_
def weaveOk (ls : List (List Pk)) : Prop := ∀ i, i < ls.length → okTo (ls.getD i []) i (ls.getD i []).length
def weaveAsc (ls : List (List Pk)) : Prop := ∀ i, i < ls.length → ascTo (ls.getD i []) (ls.getD i []).length
instance okTo.dec (l : List Pk) (i k : Nat) : Decidable (okTo l i k) := Nat.decidableBallLT k (fun j _ => layE (l.getD j zp) = 0 ∧ (l.getD j zp).st = (i : Int))
instance ascTo.dec (l : List Pk) (k : Nat) : Decidable (ascTo l k) := Nat.decidableBallLT (k - 1) (fun j _ => (l.getD j zp).at_ ≤ (l.getD (j + 1) zp).at_)
instance weaveOk.dec (ls : List (List Pk)) : Decidable (weaveOk ls) := Nat.decidableBallLT ls.length (fun i _ => okTo (ls.getD i []) i (ls.getD i []).length)
instance weaveAsc.dec (ls : List (List Pk)) : Decidable (weaveAsc ls) := Nat.decidableBallLT ls.length (fun i _ => ascTo (ls.getD i []) (ls.getD i []).length)
def weaveE (ls : List (List Pk)) : Int := if ls.length < 1 ∨ 4 < ls.length ∨ ¬ weaveOk ls then 1 else if ¬ weaveAsc ls then 12 else 0
/-- What is left: the earliest first. -/
def merge : Nat → List (List Pk) → List Pk
  | 0, _ => []
  | n + 1, rs => if firstQ rs < 0 then [] else (rs.getD (firstQ rs).toNat []).headD zp :: merge n (rs.set (firstQ rs).toNat (rs.getD (firstQ rs).toNat []).tail)
def total (rs : List (List Pk)) : Nat := (rs.map List.length).sum
def weaveP (ls : List (List Pk)) : List Pk := if weaveE ls = 0 then merge (total ls) ls else []
theorem total_set {rs : List (List Pk)} {i : Nat} (hi : i < rs.length) {p : Pk} {l : List Pk} (h : rs[i] = p :: l) : total (rs.set i l) + 1 = total rs := by
  induction rs generalizing i with
  | nil => simp at hi
  | cons x rs ih =>
    cases i with
    | zero => simp only [List.getElem_cons_zero] at h; subst h; simp [total]; omega
    | succ i =>
      have := ih (i := i) (by simpa using hi) (by simpa using h)
      simp only [total, List.set_cons_succ, List.map_cons, List.sum_cons] at this ⊢
      omega
theorem total_zero {rs : List (List Pk)} (h : firstQ rs < 0) : total rs = 0 := by
  have hb := firstUp_bd rs rs.length
  have h1 := firstUp_none rs rs.length (by unfold firstQ at h; omega)
  have : ∀ x ∈ rs, x = [] := fun x hx => by
    obtain ⟨j, hj, rfl⟩ := List.mem_iff_getElem.1 hx
    have := h1 j hj
    rwa [List.getD_eq_getElem?_getD, List.getElem?_eq_getElem hj] at this
  induction rs with
  | nil => rfl
  | cons x rs ih =>
    have hx := this x (List.mem_cons_self ..)
    subst hx
    have h2 : ∀ y ∈ rs, y = [] := fun y hy => this y (List.mem_cons_of_mem _ hy)
    simp only [total, List.map_cons, List.sum_cons, List.length_nil, Nat.zero_add]
    clear ih h h1 hb this
    induction rs with
    | nil => rfl
    | cons y rs ih2 =>
      rw [h2 y (List.mem_cons_self ..)]
      simp only [List.map_cons, List.sum_cons, List.length_nil, Nat.zero_add]
      exact ih2 (fun z hz => h2 z (List.mem_cons_of_mem _ hz))
/-- Where there is a first one. -/
theorem first_at {rs : List (List Pk)} {m : Nat} (h : firstQ rs = (m : Int)) : ∃ (hm : m < rs.length) (p : Pk) (l : List Pk), rs[m] = p :: l := by
  have hb := firstUp_bd rs rs.length
  have hf : firstUp rs rs.length = (m : Int) := h
  have h1 := firstUp_ne rs rs.length (by omega)
  rw [hf, Int.toNat_natCast] at h1
  have hm : m < rs.length := by omega
  rw [List.getD_eq_getElem?_getD, List.getElem?_eq_getElem hm] at h1
  refine ⟨hm, ?_⟩
  cases hr : rs[m] with
  | nil => exact absurd hr h1
  | cons p l => exact ⟨p, l, rfl⟩
theorem merge_step {rs : List (List Pk)} {m : Nat} (h : firstQ rs = (m : Int)) (hm : m < rs.length) {p : Pk} {l : List Pk} (hr : rs[m] = p :: l) : merge (total rs) rs = p :: merge (total (rs.set m l)) (rs.set m l) := by
  have ht := total_set hm hr
  rw [← ht, merge, if_neg (by omega), h, Int.toNat_natCast]
  have hg : rs.getD m [] = p :: l := by rw [List.getD_eq_getElem?_getD, List.getElem?_eq_getElem hm, hr]; rfl
  rw [hg]; rfl
theorem merge_done {rs : List (List Pk)} (h : firstQ rs < 0) : merge (total rs) rs = [] := by rw [total_zero h]; rfl
theorem merge_len : ∀ (n : Nat) (rs : List (List Pk)), (merge n rs).length ≤ n
  | 0, _ => by simp [merge]
  | n + 1, rs => by
    rw [merge]
    split
    · simp
    · have := merge_len n (rs.set (firstQ rs).toNat (rs.getD (firstQ rs).toNat []).tail)
      simp only [List.length_cons]; omega
theorem okTo_snoc {l : List Pk} {i k : Nat} (hk : k < l.length) (h : okTo l i k) (h1 : layE l[k] = 0) (h2 : l[k].st = (i : Int)) : okTo l i (k + 1) := fun j hj => by
  by_cases hjk : j = k
  · subst hjk
    rw [List.getD_eq_getElem?_getD, List.getElem?_eq_getElem hk]
    exact ⟨h1, h2⟩
  · exact h j (by omega)
theorem okTo_not {l : List Pk} {i k : Nat} (hk : k < l.length) (h1 : ¬ (layE l[k] = 0 ∧ l[k].st = (i : Int))) : ¬ okTo l i l.length := fun h => h1 (by
  have := h k hk
  rwa [List.getD_eq_getElem?_getD, List.getElem?_eq_getElem hk] at this)
theorem ascTo_snoc {l : List Pk} {k : Nat} (hk : k + 1 < l.length) (h : ascTo l (k + 1)) (h1 : l[k].at_ ≤ l[k + 1].at_) : ascTo l (k + 2) := fun j hj => by
  by_cases hjk : j = k
  · subst hjk
    rw [List.getD_eq_getElem?_getD, List.getElem?_eq_getElem (by omega), List.getD_eq_getElem?_getD, List.getElem?_eq_getElem hk]
    exact h1
  · exact h j (by omega)
theorem ascTo_not {l : List Pk} {k : Nat} (hk : k + 1 < l.length) (h1 : ¬ l[k].at_ ≤ l[k + 1].at_) : ¬ ascTo l l.length := fun h => h1 (by
  have := h k (by omega)
  rwa [List.getD_eq_getElem?_getD, List.getElem?_eq_getElem (by omega), List.getD_eq_getElem?_getD, List.getElem?_eq_getElem hk] at this)
def q0 (l : List Pk) : Qu := ⟨l, 0, false⟩
def lanesUp (ls : List (List Pk)) (i : Nat) : List Qu := (ls.take i).map q0 ++ List.replicate (ls.length - i) (q0 [])
theorem lanesUp_len (ls : List (List Pk)) {i : Nat} (h : i ≤ ls.length) : (lanesUp ls i).length = ls.length := by simp [lanesUp]; omega
theorem lanesUp_zero (ls : List (List Pk)) : lanesUp ls 0 = List.replicate ls.length (q0 []) := by simp [lanesUp]
theorem lanesUp_all (ls : List (List Pk)) : lanesUp ls ls.length = ls.map q0 := by simp [lanesUp]
theorem lanesUp_set {ls : List (List Pk)} {i : Nat} (h : i < ls.length) : (lanesUp ls i).set i (q0 ls[i]) = lanesUp ls (i + 1) := by
  have h1 : ((ls.take i).map q0).length = i := by simp; omega
  rw [lanesUp, List.set_append_right _ _ (by omega), h1, Nat.sub_self, show ls.length - i = (ls.length - (i + 1)) + 1 by omega, List.replicate_succ, List.set_cons_zero, lanesUp, List.take_succ_eq_append_getElem h, List.map_append]
  simp
theorem lanesUp_at {ls : List (List Pk)} {i : Nat} (h : i < ls.length) (h' : i < (lanesUp ls i).length) : (lanesUp ls i)[i] = q0 [] := by
  have h1 : ((ls.take i).map q0).length = i := by simp; omega
  simp only [lanesUp]
  rw [List.getElem_append_right (by omega)]
  simp
end Go.Proofs.Ytnflhogjonlnmaa
