/- A stream's packets that wait (queue, lane) in memory; which comes first. -/
import Derived.Test.YtnflhogjonlnmaaPk
import Derived.Test.YtnflhogjonlnmaaPkVal
set_option linter.unusedSimpArgs false
set_option linter.unusedVariables false
namespace Go.Proofs.Ytnflhogjonlnmaa
open Go.RowKit

structure Qu where
  wait : List Pk
  last : Int
  ended : Bool
deriving DecidableEq
def QuR : Rel Qu := fun w S cs q => ∃ A c, cs = [.slice A q.wait.length c, .int .i64 q.last, .bool q.ended] ∧ q.wait.length ≤ c ∧ RdPk w S A q.wait
theorem QuR.good : Rel.Good QuR 3 where
  pos := by omega
  len := by rintro w S cs x ⟨A, c, rfl, _⟩; rfl
  one := by
    rintro w S cs x ⟨A, c, rfl, _⟩ u hu
    simp only [List.mem_cons, List.not_mem_nil, or_false] at hu
    rcases hu with rfl | rfl | rfl <;> rfl
  keep := by
    rintro w w' M S cs x ⟨A, c, h1, h2, h3⟩ hm hs
    exact ⟨A, c, h1, h2, h3.keep PkR.good hm hs⟩
  weak := by
    rintro w S S' cs x ⟨A, c, h1, h2, h3⟩ hs
    exact ⟨A, c, h1, h2, h3.weak PkR.good hs⟩
abbrev RdQu := RdG QuR 3
theorem RdQu.at_ {w : World} {S : Nat → Prop} {A : Option Addr} {xs : List Qu} (h : RdQu w S A xs) {j : Nat} (hj : j < xs.length) : ∃ ad p Aj cj, A = some ad ∧ S p.block ∧ ad.add (j * 3) = p ∧ w.cell? p = some (.slice Aj xs[j].wait.length cj) ∧ w.cell? ⟨p.block, p.off + 1, none⟩ = some (.int .i64 xs[j].last) ∧
    w.cell? ⟨p.block, p.off + 2, none⟩ = some (.bool xs[j].ended) ∧ xs[j].wait.length ≤ cj ∧ RdPk w S Aj xs[j].wait := by
  obtain ⟨ad, cs, e, hb, ⟨Aj, cj, rfl, h1, h2⟩, hc⟩ := h j hj
  exact ⟨ad, _, Aj, cj, e, by rw [add_block]; exact hb, rfl, hc 0 _ rfl, (add_next ad _ 1 (by omega)) ▸ hc 1 _ rfl, (add_next ad _ 2 (by omega)) ▸ hc 2 _ rfl, h1, h2⟩
theorem RdPk.head_ {w : World} {S : Nat → Prop} {A : Option Addr} {p : Pk} {l : List Pk} (h : RdPk w S A (p :: l)) : ∃ ad Aj cj, A = some ad ∧ S ad.block ∧ w.cell? ad = some (.int .i64 p.st) ∧ w.cell? ⟨ad.block, ad.off + 1, none⟩ = some (.int .i64 p.at_) ∧
    w.cell? ⟨ad.block, ad.off + 2, none⟩ = some (.int .i64 p.ln) ∧ w.cell? ⟨ad.block, ad.off + 3, none⟩ = some (.bool p.key) ∧ w.cell? ⟨ad.block, ad.off + 4, none⟩ = some (.bool p.hid) ∧ w.cell? ⟨ad.block, ad.off + 5, none⟩ = some (.slice Aj p.data.length cj) ∧
    p.data.length ≤ cj ∧ RdS w S .u8 Aj p.data ∧ p.wf := by
  obtain ⟨ad, q, Aj, cj, rfl, hS, hp, y⟩ := RdPk.at_ h (j := 0) (by simp)
  have : q = ad := by rw [← hp]; simp [Addr.add]
  subst this
  exact ⟨q, Aj, cj, rfl, hS, y⟩

/-- the time of the first that waits -/
def headAt (l : List Pk) : Int := (l.headD ⟨0, 0, 0, false, false, []⟩).at_
/-- Among the first k streams the one whose first packet comes first; -1: none waits. -/
def firstUp (qs : List (List Pk)) : Nat → Int
  | 0 => -1
  | k + 1 => if qs.getD k [] ≠ [] ∧ (firstUp qs k < 0 ∨ headAt (qs.getD k []) < headAt (qs.getD (firstUp qs k).toNat [])) then k else firstUp qs k
def firstQ (qs : List (List Pk)) : Int := firstUp qs qs.length
theorem firstUp_bd (qs : List (List Pk)) : ∀ k : Nat, -1 ≤ firstUp qs k ∧ firstUp qs k < k
  | 0 => by simp [firstUp]
  | k + 1 => by
    have := firstUp_bd qs k
    rw [firstUp]
    split <;> omega
theorem firstUp_ne (qs : List (List Pk)) : ∀ k : Nat, 0 ≤ firstUp qs k → qs.getD (firstUp qs k).toNat [] ≠ []
  | 0, h => by simp [firstUp] at h
  | k + 1, h => by
    rw [firstUp] at h ⊢
    split
    · rename_i h1
      rw [Int.toNat_natCast]
      exact h1.1
    · rename_i h1
      rw [if_neg h1] at h
      exact firstUp_ne qs k h
theorem firstUp_none (qs : List (List Pk)) : ∀ k : Nat, firstUp qs k = -1 → ∀ j, j < k → qs.getD j [] = []
  | 0, _, j, hj => by omega
  | k + 1, h, j, hj => by
    rw [firstUp] at h
    split at h
    · omega
    · rename_i h1
      have hq : qs.getD k [] = [] := by
        by_cases h2 : qs.getD k [] = []
        · exact h2
        · exact absurd ⟨h2, .inl (by omega)⟩ h1
      by_cases hjk : j = k
      · subst hjk; exact hq
      · exact firstUp_none qs k h j (by omega)
/-- What comes first: no other stream's first packet is earlier, and none of a smaller stream is as early. -/
theorem firstUp_least (qs : List (List Pk)) : ∀ k : Nat, 0 ≤ firstUp qs k → ∀ j : Nat, j < k → qs.getD j [] ≠ [] → headAt (qs.getD (firstUp qs k).toNat []) ≤ headAt (qs.getD j []) ∧ ((j : Int) < firstUp qs k → headAt (qs.getD (firstUp qs k).toNat []) < headAt (qs.getD j []))
  | 0, h, _, _, _ => by simp [firstUp] at h
  | k + 1, h, j, hj, hne => by
    rw [firstUp] at h ⊢
    split
    · rename_i h1
      rw [Int.toNat_natCast]
      by_cases hjk : j = k
      · subst hjk; exact ⟨Int.le_refl _, fun h => absurd h (by omega)⟩
      · rcases h1.2 with h2 | h2
        · have := firstUp_bd qs k
          exact absurd (firstUp_none qs k (by omega) j (by omega)) hne
        · by_cases h0 : 0 ≤ firstUp qs k
          · have := (firstUp_least qs k h0 j (by omega) hne).1
            exact ⟨by omega, fun _ => by omega⟩
          · have := firstUp_bd qs k
            exact absurd (firstUp_none qs k (by omega) j (by omega)) hne
    · rename_i h1
      rw [if_neg h1] at h
      by_cases hjk : j = k
      · subst hjk
        have h2 : ¬ (firstUp qs j < 0 ∨ headAt (qs.getD j []) < headAt (qs.getD (firstUp qs j).toNat [])) := fun h3 => h1 ⟨hne, h3⟩
        have := firstUp_bd qs j
        exact ⟨by omega, fun h3 => by omega⟩
      · exact firstUp_least qs k h j (by omega) hne
end Go.Proofs.Ytnflhogjonlnmaa
