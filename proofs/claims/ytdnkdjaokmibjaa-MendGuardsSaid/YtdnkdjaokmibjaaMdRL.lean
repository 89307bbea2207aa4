/- What comes back (plain). -/
import Derived.Test.YtdnkdjaokmibjaaMdL
set_option linter.unusedSimpArgs false
set_option linter.unusedVariables false
namespace Go.Proofs.Ytdnkdjaokmibjaa
open Go.RowKit

/-- the pages of a guard's group that are there, and the places of those that are not -/
def hasS (l : List Pg) (s : Int) : Option Pg := l.find? fun p => decide (p.seq = s)
def lackO (g : Pg) (l : List Pg) (n : Nat) : List Pg := (List.range n).filterMap fun i : Nat => hasS l (g.seq + (i : Int))
def lackM (g : Pg) (l : List Pg) (n : Nat) : Nat := ((List.range n).filter fun i : Nat => (hasS l (g.seq + (i : Int))).isNone).length
def lackS (g : Pg) (l : List Pg) (n : Nat) : Int := match ((List.range n).filter fun i : Nat => (hasS l (g.seq + (i : Int))).isNone).getLast? with
  | none => 0
  | some i => g.seq + i
theorem hasS_some {l : List Pg} {s : Int} {p : Pg} (h : hasS l s = some p) : p ∈ l ∧ p.seq = s :=
  ⟨List.mem_of_find?_eq_some h, by have := List.find?_some h; exact of_decide_eq_true this⟩
theorem hasS_none {l : List Pg} {s : Int} : hasS l s = none ↔ ∀ p ∈ l, p.seq ≠ s := by
  simp [hasS, List.find?_eq_none]
/-- Of pages of different numbers just that one bears the number. -/
def difS (l : List Pg) : Prop := l.Pairwise fun a b => a.seq ≠ b.seq
theorem difS.one {l : List Pg} (h : difS l) {i j : Nat} (hi : i < l.length) (hj : j < l.length) (he : l[i].seq = l[j].seq) : i = j := by
  have := List.pairwise_iff_getElem.1 h
  rcases Nat.lt_trichotomy i j with hij | hij | hij
  · exact absurd he (this i j hi hj hij)
  · exact hij
  · exact absurd he.symm (this j i hj hi hij)
theorem difS.has {l : List Pg} (h : difS l) {i : Nat} (hi : i < l.length) : hasS l l[i].seq = some l[i] := by
  cases hf : hasS l l[i].seq with
  | none => exact absurd rfl (hasS_none.1 hf l[i] (List.getElem_mem hi))
  | some p =>
    obtain ⟨h1, h2⟩ := hasS_some hf
    obtain ⟨j, hj, rfl⟩ := List.getElem_of_mem h1
    have := h.one hj hi h2
    subst this; rfl
theorem difS.snoc {l : List Pg} {p : Pg} (h : difS l) (hn : ∀ q ∈ l, q.seq ≠ p.seq) : difS (l ++ [p]) := by
  rw [difS, List.pairwise_append]
  exact ⟨h, List.pairwise_singleton _ _, fun a ha b hb => by rw [List.mem_singleton] at hb; subst hb; exact hn a ha⟩
theorem lackO_some {g : Pg} {l : List Pg} {n : Nat} {p : Pg} (h : hasS l (g.seq + n) = some p) : lackO g l (n + 1) = lackO g l n ++ [p] ∧ lackM g l (n + 1) = lackM g l n ∧ lackS g l (n + 1) = lackS g l n := by
  simp [lackO, lackM, lackS, List.range_succ, List.filterMap_append, List.filter_append, h]
theorem lackO_none {g : Pg} {l : List Pg} {n : Nat} (h : hasS l (g.seq + n) = none) : lackO g l (n + 1) = lackO g l n ∧ lackM g l (n + 1) = lackM g l n + 1 ∧ lackS g l (n + 1) = g.seq + n := by
  simp [lackO, lackM, lackS, List.range_succ, List.filterMap_append, List.filter_append, h]
theorem lackO_len (g : Pg) (l : List Pg) (n : Nat) : (lackO g l n).length ≤ n := by
  have := List.length_filterMap_le (fun i : Nat => hasS l (g.seq + i)) (List.range n)
  simpa [lackO] using this
theorem lackM_le (g : Pg) (l : List Pg) (n : Nat) : lackM g l n ≤ n := by
  have := List.length_filter_le (fun i : Nat => (hasS l (g.seq + i)).isNone) (List.range n)
  simpa [lackM] using this
theorem lackO_mem {g : Pg} {l : List Pg} {n : Nat} {p : Pg} (h : p ∈ lackO g l n) : p ∈ l := by
  obtain ⟨i, _, h2⟩ := List.mem_filterMap.1 h
  exact (hasS_some h2).1
theorem lackS_bd {g : Pg} {l : List Pg} {n : Nat} (h0 : 0 ≤ g.seq) (h1 : g.seq ≤ 2147483647) : 0 ≤ lackS g l n ∧ lackS g l n ≤ 2147483647 + n := by
  unfold lackS
  split
  · omega
  · rename_i i h
    have := List.mem_of_getLast? h
    simp at this
    omega

/-- the page that a guard and the others give -/
def backP (g : Pg) (o : List Pg) (s : Int) : Pg :=
  ⟨s, decide (flagX (g.body.getD 1 0) o % 2 = 1), decide (flagX (g.body.getD 1 0) o / 2 % 2 = 1), false, (sumX (g.body.drop 3) o).take (sizeX (g.body.getD 2 0) o).toNat⟩
def backOk (g : Pg) (o : List Pg) (s : Int) : Bool :=
  decide (flagX (g.body.getD 1 0) o ≤ 3) && decide (1 ≤ sizeX (g.body.getD 2 0) o ∧ sizeX (g.body.getD 2 0) o ≤ 252 ∧ sizeX (g.body.getD 2 0) o ≤ (sumX (g.body.drop 3) o).length) &&
    ((sumX (g.body.drop 3) o).drop (sizeX (g.body.getD 2 0) o).toNat).all (fun c => decide (c = 0)) && pgOk (backP g o s)
end Go.Proofs.Ytdnkdjaokmibjaa
