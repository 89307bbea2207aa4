/- What a Weaver does (plain). -/
import Derived.Test.YtnflhogjonlnmaaQu
import Derived.Test.YtnflhogjonlnmaaPkLayL
set_option linter.unusedSimpArgs false
set_option linter.unusedVariables false
namespace Go.Proofs.Ytnflhogjonlnmaa
open Go.RowKit

structure Wv where
  most : Int
  qs : List Qu
  top : Int
  late : Int
deriving DecidableEq
def qz : Qu := ⟨[], 0, false⟩
def pz : Pk := ⟨0, 0, 0, false, false, []⟩
def quAt (qs : List Qu) (i : Nat) : Qu := qs.getD i qz
def lastAt (l : List Pk) : Int := (l.getD (l.length - 1) pz).at_
structure quOk (q : Qu) : Prop where
  l0 : 0 ≤ q.last
  l1 : q.last ≤ 1125899906842624
  len : q.wait.length ≤ 256
  at_ : ∀ p ∈ q.wait, 0 ≤ p.at_ ∧ p.at_ ≤ 1125899906842624
structure Wv.ok (s : Wv) (lo : Int) : Prop where
  m0 : 0 ≤ s.most
  m1 : s.most ≤ 1125899906842624
  n1 : s.qs.length ≤ 4
  qs : ∀ q ∈ s.qs, quOk q
  t0 : lo ≤ s.top
  t1 : s.top ≤ 1125899906842624
def Wv.putE (s : Wv) (p : Pk) : Int :=
  if layE p ≠ 0 then 1 else if (s.qs.length : Int) ≤ p.st then 1
  else if (quAt s.qs p.st.toNat).ended = true then 11 else if p.at_ < (quAt s.qs p.st.toNat).last then 12 else if 256 ≤ (quAt s.qs p.st.toNat).wait.length then 9 else 0
def Wv.put (s : Wv) (p : Pk) : Wv :=
  if s.putE p = 0 then ⟨s.most, s.qs.set p.st.toNat ⟨(quAt s.qs p.st.toNat).wait ++ [p], p.at_, (quAt s.qs p.st.toNat).ended⟩, s.top, s.late⟩ else s
def inB (n : Int) (l : Nat) : Bool := decide (0 ≤ n ∧ n < (l : Int))
def Wv.stop (s : Wv) (n : Int) : Wv := if inB n s.qs.length = true then ⟨s.most, s.qs.set n.toNat ⟨(quAt s.qs n.toNat).wait, (quAt s.qs n.toNat).last, true⟩, s.top, s.late⟩ else s
def Wv.waits (s : Wv) (n : Int) : Int := if inB n s.qs.length = true then ((quAt s.qs n.toNat).wait.length : Int) else 0
def nextQ (q : Qu) (i : Nat) (a st : Int) : Bool := q.ended || decide (q.wait ≠ []) || !(decide (q.last < a) || (decide (q.last = a) && decide ((i : Int) < st)))
def overQ (q : Qu) (a most : Int) : Bool := decide (q.wait ≠ []) && decide (most < lastAt q.wait - a)
def nextUp (qs : List Qu) (a st : Int) : Nat → Bool
  | 0 => true
  | k + 1 => nextUp qs a st k && nextQ (quAt qs k) k a st
def overUp (qs : List Qu) (a most : Int) : Nat → Bool
  | 0 => false
  | k + 1 => overUp qs a most k || overQ (quAt qs k) a most
def goB (qs : List Qu) (most a : Int) (i : Nat) : Bool := nextUp qs a i qs.length || overUp qs a most qs.length
def Wv.take (s : Wv) : Option Pk × Wv :=
  if firstQ (s.qs.map Qu.wait) < 0 then (none, s)
  else if goB s.qs s.most (headAt (quAt s.qs (firstQ (s.qs.map Qu.wait)).toNat).wait) (firstQ (s.qs.map Qu.wait)).toNat = true then
    (some ((quAt s.qs (firstQ (s.qs.map Qu.wait)).toNat).wait.headD pz),
      ⟨s.most, s.qs.set (firstQ (s.qs.map Qu.wait)).toNat ⟨(quAt s.qs (firstQ (s.qs.map Qu.wait)).toNat).wait.tail, (quAt s.qs (firstQ (s.qs.map Qu.wait)).toNat).last, (quAt s.qs (firstQ (s.qs.map Qu.wait)).toNat).ended⟩,
        max s.top (headAt (quAt s.qs (firstQ (s.qs.map Qu.wait)).toNat).wait), if headAt (quAt s.qs (firstQ (s.qs.map Qu.wait)).toNat).wait < s.top then s.late + 1 else s.late⟩)
  else (none, s)
theorem quAt_get {qs : List Qu} {i : Nat} (h : i < qs.length) : quAt qs i = qs[i] := by rw [quAt, List.getD_eq_getElem?_getD, List.getElem?_eq_getElem h]; rfl
theorem Wv.ok.qAt {s : Wv} {lo : Int} (h : s.ok lo) {i : Nat} (hi : i < s.qs.length) : quOk s.qs[i] := h.qs _ (List.getElem_mem hi)
theorem set_all {α : Type} {P : α → Prop} {l : List α} {i : Nat} {x : α} (h : ∀ y ∈ l, P y) (hx : P x) : ∀ y ∈ l.set i x, P y := fun y hy => by
  rcases List.mem_or_eq_of_mem_set hy with hy | hy
  · exact h y hy
  · rw [hy]; exact hx
theorem lay_time {p : Pk} (h : layE p = 0) : 0 ≤ p.st ∧ p.st < 4 ∧ 0 ≤ p.at_ ∧ p.at_ ≤ 1125899906842624 ∧ p.data.length ≤ 65536 := by
  by_cases hh : p.head = true
  · rw [layE, if_pos hh] at h
    simp only [Pk.head, decide_eq_true_eq] at hh
    split at h <;> omega
  · rw [layE, if_neg hh] at h; omega
theorem put_ok_ {s : Wv} {lo : Int} {p : Pk} (h : s.ok lo) : (s.put p).ok lo := by
  rw [Wv.put]
  split
  · rename_i hE
    rw [Wv.putE] at hE
    split at hE
    · omega
    · rename_i hl
      have hl' : layE p = 0 := by omega
      have ht := lay_time hl'
      split at hE
      · omega
      · split at hE
        · omega
        · split at hE
          · omega
          · split at hE
            · omega
            · rename_i h1 h2 h3 h4
              have hi : p.st.toNat < s.qs.length := by omega
              rw [quAt_get hi] at *
              have hq := h.qAt hi
              refine ⟨h.m0, h.m1, by rw [List.length_set]; exact h.n1, set_all h.qs ⟨by simp only; omega, by simp only; omega, by simp; omega, fun y hy => ?_⟩, h.t0, h.t1⟩
              rcases List.mem_append.1 hy with hy | hy
              · exact hq.at_ y hy
              · rw [List.mem_singleton] at hy; subst hy; omega
  · exact h
theorem stop_ok {s : Wv} {lo n : Int} (h : s.ok lo) : (s.stop n).ok lo := by
  rw [Wv.stop]
  split
  · rename_i hn
    simp only [inB, decide_eq_true_eq] at hn
    have hi : n.toNat < s.qs.length := by omega
    rw [quAt_get hi]
    have hq := h.qAt hi
    exact ⟨h.m0, h.m1, by rw [List.length_set]; exact h.n1, set_all h.qs ⟨hq.l0, hq.l1, hq.len, hq.at_⟩, h.t0, h.t1⟩
  · exact h
/-- The stream whose packet comes first. -/
theorem firstQ_at {qs : List Qu} {i : Nat} (h : firstQ (qs.map Qu.wait) = (i : Int)) : ∃ (hi : i < qs.length) (p : Pk) (l : List Pk), qs[i].wait = p :: l := by
  have hb := firstUp_bd (qs.map Qu.wait) (qs.map Qu.wait).length
  have hf : firstUp (qs.map Qu.wait) (qs.map Qu.wait).length = (i : Int) := h
  have h1 := firstUp_ne (qs.map Qu.wait) (qs.map Qu.wait).length (by omega)
  rw [hf, Int.toNat_natCast] at h1
  rw [List.length_map] at hb hf
  have hi : i < qs.length := by omega
  rw [List.getD_eq_getElem?_getD, List.getElem?_map, List.getElem?_eq_getElem hi] at h1
  refine ⟨hi, ?_⟩
  simp only [Option.map_some, Option.getD_some] at h1
  cases hr : qs[i].wait with
  | nil => exact absurd hr h1
  | cons p l => exact ⟨p, l, rfl⟩
theorem take_none {s : Wv} (h : firstQ (s.qs.map Qu.wait) < 0) : s.take = (none, s) := by rw [Wv.take, if_pos h]
theorem take_wait {s : Wv} {i : Nat} (h : firstQ (s.qs.map Qu.wait) = (i : Int)) (hi : i < s.qs.length) {p : Pk} {l : List Pk} (hw : s.qs[i].wait = p :: l) (hg : goB s.qs s.most p.at_ i = false) : s.take = (none, s) := by
  rw [Wv.take, if_neg (by omega), h, Int.toNat_natCast, quAt_get hi, hw]
  have e : headAt (p :: l) = p.at_ := rfl
  rw [e, if_neg (by rw [hg]; simp)]
theorem take_some {s : Wv} {i : Nat} (h : firstQ (s.qs.map Qu.wait) = (i : Int)) (hi : i < s.qs.length) {p : Pk} {l : List Pk} (hw : s.qs[i].wait = p :: l) (hg : goB s.qs s.most p.at_ i = true) :
    s.take = (some p, ⟨s.most, s.qs.set i ⟨l, s.qs[i].last, s.qs[i].ended⟩, max s.top p.at_, if p.at_ < s.top then s.late + 1 else s.late⟩) := by
  rw [Wv.take, if_neg (by omega), h, Int.toNat_natCast, quAt_get hi, hw]
  have e : headAt (p :: l) = p.at_ := rfl
  rw [e, if_pos hg]
  rfl
theorem take_ok_ {s : Wv} {lo : Int} (h : s.ok lo) : s.take.2.ok lo := by
  by_cases h0 : firstQ (s.qs.map Qu.wait) < 0
  · rw [take_none h0]; exact h
  · obtain ⟨i, hi⟩ := Int.eq_ofNat_of_zero_le (show 0 ≤ firstQ (s.qs.map Qu.wait) by omega)
    obtain ⟨hil, p, l, hw⟩ := firstQ_at hi
    cases hg : goB s.qs s.most p.at_ i with
    | false => rw [take_wait hi hil hw hg]; exact h
    | true =>
      rw [take_some hi hil hw hg]
      have hq := h.qAt hil
      have hp := hq.at_ p (by rw [hw]; exact List.mem_cons_self ..)
      have hln := hq.len
      rw [hw] at hln
      have ht0 := h.t0
      have ht1 := h.t1
      refine ⟨h.m0, h.m1, by rw [List.length_set]; exact h.n1, set_all h.qs ⟨hq.l0, hq.l1, by simp at hln ⊢; omega, fun y hy => hq.at_ y (by rw [hw]; exact List.mem_cons_of_mem _ hy)⟩, by simp only; omega, by simp only; omega⟩
theorem nextUp_false {qs : List Qu} {a st : Int} {k : Nat} (h : nextQ (quAt qs k) k a st = false) : ∀ n, k < n → nextUp qs a st n = false
  | 0, hn => absurd hn (by omega)
  | n + 1, hn => by
    rw [nextUp]
    by_cases hk : k = n
    · subst hk; rw [h, Bool.and_false]
    · rw [nextUp_false h n (by omega), Bool.false_and]
theorem overUp_true {qs : List Qu} {a most : Int} {k : Nat} (h : overQ (quAt qs k) a most = true) : ∀ n, k < n → overUp qs a most n = true
  | 0, hn => absurd hn (by omega)
  | n + 1, hn => by
    rw [overUp]
    by_cases hk : k = n
    · subst hk; rw [h, Bool.or_true]
    · rw [overUp_true h n (by omega), Bool.true_or]
/-- The reference's words for the same. -/
def freeUp (qs : List Qu) (a n : Int) : Nat → Bool
  | 0 => true
  | k + 1 => if (quAt qs k).wait = [] then freeUp qs a n k && ((quAt qs k).ended || (decide (a < (quAt qs k).last) || (decide ((quAt qs k).last = a) && decide (n < (k : Int))))) else freeUp qs a n k
theorem freeUp_next {qs : List Qu} {a : Int} {n : Nat} (hn : (quAt qs n).wait ≠ []) : ∀ k, freeUp qs a n k = nextUp qs a n k
  | 0 => rfl
  | k + 1 => by
    have ih := freeUp_next hn (a := a) k
    rw [freeUp, nextUp, ih]
    split
    · rename_i hw
      have hkn : k ≠ n := fun e => hn (by rw [← e]; exact hw)
      congr 1
      rw [nextQ, hw]
      generalize (quAt qs k).ended = b
      generalize (quAt qs k).last = c
      rw [Bool.eq_iff_iff]
      cases b <;> simp <;> omega
    · rename_i hw
      rw [nextQ]
      simp [hw]
end Go.Proofs.Ytnflhogjonlnmaa
