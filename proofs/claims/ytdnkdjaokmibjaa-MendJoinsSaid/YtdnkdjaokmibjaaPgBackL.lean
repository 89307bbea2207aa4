/- Packets come back out of their pages, whichever of these are lost (plain). -/
import Derived.Test.YtdnkdjaokmibjaaPgLaws
import Derived.Test.YtdnkdjaokmibjaaJn
set_option linter.unusedSimpArgs false
set_option linter.unusedVariables false
namespace Go.Proofs.Ytdnkdjaokmibjaa
open Go.RowKit

def off (bs : List (List Int)) (n : Nat) : Nat := (pagesAll 0 (bs.take n)).length
theorem off_zero (bs : List (List Int)) : off bs 0 = 0 := by simp [off, pagesAll]
theorem off_succ {bs : List (List Int)} {n : Nat} (h : n < bs.length) : off bs (n + 1) = off bs n + nPages bs[n] := by
  unfold off
  rw [List.take_succ_eq_append_getElem h, pagesAll_snoc, List.length_append, pagesOf_len]
theorem off_all (bs : List (List Int)) : off bs bs.length = (pagesAll 0 bs).length := by rw [off, List.take_length]
theorem pagesAll_pre (f : Int) (a b : List (List Int)) : ∃ r, pagesAll f (a ++ b) = pagesAll f a ++ r := by
  have key : ∀ (b : List (List Int)) (acc : List Pg), ∃ r, b.foldl (fun acc b => acc ++ pagesOf b (f + acc.length)) acc = acc ++ r := fun b => by
    induction b with
    | nil => exact fun acc => ⟨[], by simp⟩
    | cons x b ih =>
      intro acc
      obtain ⟨r, hr⟩ := ih (acc ++ pagesOf x (f + acc.length))
      exact ⟨pagesOf x (f + acc.length) ++ r, by rw [List.foldl_cons, hr, List.append_assoc]⟩
  obtain ⟨r, hr⟩ := key b (pagesAll f a)
  exact ⟨r, by rw [pagesAll, List.foldl_append]; exact hr⟩
theorem off_le {bs : List (List Int)} {n : Nat} : off bs n ≤ (pagesAll 0 bs).length := by
  obtain ⟨r, hr⟩ := pagesAll_pre 0 (bs.take n) (bs.drop n)
  rw [List.take_append_drop] at hr
  rw [hr, List.length_append, off]; omega
theorem page_at {bs : List (List Int)} {n j : Nat} (h : n < bs.length) (hj : j < nPages bs[n]) : ∃ h9 : off bs n + j < (pagesAll 0 bs).length, (pagesAll 0 bs)[off bs n + j] = pageAt bs[n] (off bs n) j := by
  obtain ⟨r, hr⟩ := pagesAll_pre 0 (bs.take (n + 1)) (bs.drop (n + 1))
  rw [List.take_append_drop] at hr
  rw [List.take_succ_eq_append_getElem h, pagesAll_snoc] at hr
  have hl : (pagesAll 0 (bs.take n)).length = off bs n := rfl
  have h9 : off bs n + j < (pagesAll 0 bs).length := by rw [hr, List.length_append, List.length_append, pagesOf_len, hl]; omega
  refine ⟨h9, ?_⟩
  have e : (pagesAll 0 bs)[off bs n + j]? = some (pageAt bs[n] (off bs n) j) := by
    rw [hr, List.append_assoc, List.getElem?_append_right (by omega), hl, Nat.add_sub_cancel_left, List.getElem?_append_left (by rw [pagesOf_len]; exact hj), Int.zero_add]
    simp [pagesOf, hj]
  rw [List.getElem?_eq_getElem h9] at e
  injection e

/-- What the law's loop keeps. -/
structure Bk where
  n : Int
  whole : Bool
  want : List Pk
  got : List Pk
  holes : List Ho
  gps : List Ho
  s : Jn
def lastHi (l : List Ho) : Int := (l.getLastD ⟨0, 0⟩).hi
def addHole (l : List Ho) (i : Int) : List Ho := if l ≠ [] ∧ lastHi l = i - 1 then l.dropLast ++ [⟨(l.getLastD ⟨0, 0⟩).lo, i⟩] else l ++ [⟨i, i⟩]

structure BkI (l : List Pk) (N i : Nat) (t : Bk) : Prop where
  pos : ∃ n0 j : Nat, i = off (l.map Pk.bytes) n0 + j ∧ n0 ≤ l.length ∧ (∀ h : n0 < l.length, j < nPages (l[n0]).bytes) ∧ (n0 = l.length → j = 0) ∧ t.n = (if j = 0 then (n0 : Int) - 1 else n0) ∧
    (j = 0 → t.s.next = i → t.s.begun = false) ∧
    (∀ h : n0 < l.length, 0 < j → t.s.next = i → if t.whole = true then t.s.begun = true ∧ t.s.body = (l[n0]).bytes.take (252 * j) else t.s.begun = false) ∧
    (0 < j → t.s.next < i → t.whole = false)
  n0 : 0 ≤ t.s.next
  n1 : t.s.next ≤ i
  same : t.s.next = i → t.holes = t.gps
  pend : t.s.next < i → t.holes = t.gps ++ [⟨t.s.next, (i : Int) - 1⟩] ∧ i < N
  far : ∀ h ∈ t.gps, h.hi + 2 ≤ t.s.next
  got : t.got = t.want
  bare : t.s.begun = false → t.s.body = []
  k0 : 0 ≤ t.s.broken
  k1 : t.s.broken ≤ 2 * i
  len : t.s.body.length ≤ 65554
  lw : t.want.length ≤ i
  lh : t.holes.length ≤ i
  lg : t.gps.length ≤ i

def bk0 : Bk := ⟨-1, false, [], [], [], [], ⟨0, false, [], 0⟩⟩
theorem bk0_I {l : List Pk} (hl : ∀ p ∈ l, layE p = 0) : BkI l (pagesAll 0 (l.map Pk.bytes)).length 0 bk0 where
  pos := ⟨0, 0, by rw [off_zero], Nat.zero_le _, fun h => by rw [nPages, bytes_len]; omega, fun _ => rfl, by simp [bk0], fun _ _ => rfl, fun _ h => absurd h (by omega), fun h => absurd h (by omega)⟩
  n0 := by simp [bk0]
  n1 := by simp [bk0]
  same := fun _ => rfl
  pend := fun h => by simp [bk0] at h
  far := by simp [bk0]
  got := rfl
  bare := fun _ => rfl
  k0 := by simp [bk0]
  k1 := by simp [bk0]
  len := by simp [bk0]
  lw := by simp [bk0]
  lh := by simp [bk0]
  lg := by simp [bk0]

theorem lastHi_snoc (l : List Ho) (h : Ho) : lastHi (l ++ [h]) = h.hi := by simp [lastHi]
theorem far_last {l : List Ho} {m : Int} (h : ∀ x ∈ l, x.hi + 2 ≤ m) (hl : l ≠ []) : lastHi l + 2 ≤ m := by
  unfold lastHi
  rw [List.getLastD_eq_getLast?, List.getLast?_eq_some_getLast hl]
  exact h _ (List.getLast_mem hl)
/-- A page that is lost. -/
def Bk.lose (t : Bk) (n0 : Int) (i : Int) : Bk := ⟨n0, false, t.want, t.got, addHole t.holes i, t.gps, t.s⟩
theorem addHole_len (l : List Ho) (i : Int) : (addHole l i).length ≤ l.length + 1 := by
  unfold addHole; split <;> simp <;> omega

theorem BkI.place {l : List Pk} {N i : Nat} {t : Bk} (hl : ∀ p ∈ l, layE p = 0) (h : BkI l N i t) (hN : N = (pagesAll 0 (l.map Pk.bytes)).length) (hi : i < N) :
    ∃ (n0 j : Nat) (hn : n0 < l.length), i = off (l.map Pk.bytes) n0 + j ∧ j < nPages (l[n0]).bytes ∧ t.n = (if j = 0 then (n0 : Int) - 1 else n0) ∧ (j = 0 → t.s.next = i → t.s.begun = false) ∧
    (0 < j → t.s.next = i → if t.whole = true then t.s.begun = true ∧ t.s.body = (l[n0]).bytes.take (252 * j) else t.s.begun = false) ∧ (0 < j → t.s.next < i → t.whole = false) := by
  obtain ⟨n0, j, h1, h2, h3, h4, h5, h6, h7, h8⟩ := h.pos
  have hn : n0 < l.length := by
    rcases Nat.lt_or_ge n0 l.length with h9 | h9
    · exact h9
    · exfalso
      have e : n0 = l.length := by omega
      have := h4 e
      have e2 := off_all (l.map Pk.bytes)
      rw [List.length_map, ← e] at e2
      omega
  exact ⟨n0, j, hn, h1, h3 hn, h5, h6, h7 hn, h8⟩

theorem nPages_pos (p : Pk) : 0 < nPages p.bytes := by rw [nPages, bytes_len]; omega
theorem map_get {l : List Pk} {n : Nat} (h : n < l.length) : (l.map Pk.bytes)[n]'(by simpa using h) = (l[n]).bytes := by simp
theorem off_next {l : List Pk} {n : Nat} (h : n < l.length) : off (l.map Pk.bytes) (n + 1) = off (l.map Pk.bytes) n + nPages (l[n]).bytes := by rw [off_succ (by simpa using h), map_get h]

theorem BkI.lose {l : List Pk} {N i n0 j : Nat} {t : Bk} (h : BkI l N i t) (hn : n0 < l.length) (hp : i = off (l.map Pk.bytes) n0 + j) (hj : j < nPages (l[n0]).bytes) (hi : i + 1 < N) : BkI l N (i + 1) (t.lose n0 i) where
  pos := by
    by_cases hl : j + 1 < nPages (l[n0]).bytes
    · exact ⟨n0, j + 1, by omega, by omega, fun _ => hl, fun h9 => by omega, by simp [Bk.lose], fun h9 => by omega, fun _ _ h9 => by have := h.n1; simp only [Bk.lose] at h9; omega, fun _ _ => rfl⟩
    · refine ⟨n0 + 1, 0, by rw [off_next hn]; omega, by omega, fun h9 => nPages_pos _, fun _ => rfl, by simp [Bk.lose], fun _ h9 => by have := h.n1; simp only [Bk.lose] at h9; omega, fun _ h9 => by omega, fun h9 => by omega⟩
  n0 := h.n0
  n1 := by have := h.n1; simp only [Bk.lose]; omega
  same := fun h9 => by have := h.n1; simp only [Bk.lose] at h9; omega
  pend := fun _ => by
    refine ⟨?_, hi⟩
    simp only [Bk.lose]
    have hn1 := h.n1
    rcases Int.lt_or_eq_of_le hn1 with h9 | h9
    · obtain ⟨e, _⟩ := h.pend h9
      rw [e, addHole, if_pos ⟨by simp, by rw [lastHi_snoc]⟩]
      simp
    · have e := h.same h9
      have hf : ¬ (t.gps ≠ [] ∧ lastHi t.gps = (i : Int) - 1) := fun h8 => by
        have := far_last h.far h8.1
        omega
      rw [e, addHole, if_neg hf, h9]
      simp
  far := h.far
  got := h.got
  bare := h.bare
  k0 := h.k0
  k1 := by have := h.k1; simp only [Bk.lose]; omega
  len := h.len
  lw := by have := h.lw; simp only [Bk.lose]; omega
  lh := by have := h.lh; have := addHole_len t.holes i; simp only [Bk.lose]; omega
  lg := by have := h.lg; simp only [Bk.lose]; omega

/-- A page that is put. -/
def Bk.keep (t : Bk) (n0 : Int) (w1 : Bool) (q : Pk) (p : Pg) : Bk :=
  ⟨n0, w1, if p.last = true ∧ w1 = true then t.want ++ [q] else t.want, t.got ++ (t.s.put p).2.1, t.holes, t.gps ++ (t.s.put p).2.2, (t.s.put p).1⟩

theorem spoil_bare (s : Jn) : s.spoil.begun = false := by unfold Jn.spoil; cases h : s.begun <;> simp [h]
theorem spoil_body (s : Jn) (h : s.begun = false → s.body = []) : s.spoil.body = [] := by
  unfold Jn.spoil; cases hb : s.begun
  · simpa using h hb
  · rfl
theorem spoil_next (s : Jn) : s.spoil.next = s.next := by unfold Jn.spoil; split <;> rfl

theorem ite_len {α : Type} (c : Prop) [Decidable c] {a b : List α} {n : Nat} (ha : a.length ≤ n) (hb : b.length ≤ n) : (if c then a else b).length ≤ n := by split <;> assumption
theorem BkI.keep {l : List Pk} {N i n0 j : Nat} {t : Bk} (hl : ∀ p ∈ l, layE p = 0) (h : BkI l N i t) (hn : n0 < l.length) (hp : i = off (l.map Pk.bytes) n0 + j) (hj : j < nPages (l[n0]).bytes) (hN : N ≤ 1000000)
    (hi : i < N) (c1 : j = 0 → t.s.next = i → t.s.begun = false) (c2 : 0 < j → t.s.next = i → if t.whole = true then t.s.begun = true ∧ t.s.body = (l[n0]).bytes.take (252 * j) else t.s.begun = false) (c3 : 0 < j → t.s.next < i → t.whole = false) :
    BkI l N (i + 1) (t.keep n0 (if j = 0 then true else t.whole) l[n0] (pageAt (l[n0]).bytes (off (l.map Pk.bytes) n0) j)) := by
  have hE := hl _ (List.getElem_mem hn)
  have hbl : (l[n0]).bytes.length ≤ 65554 := by have := layOk_len hE; rw [bytes_len]; omega
  obtain ⟨ho, hoP⟩ := open_back hE
  have hseq : ((off (l.map Pk.bytes) n0 : Nat) : Int) + (j : Int) = i := by omega
  have hnx := off_next hn
  have hjb := nPages_lt.1 hj
  have hlast : ((l[n0]).bytes.length ≤ 252 * j + 252) ↔ ¬ (j + 1 < nPages (l[n0]).bytes) := by rw [nPages_lt]; omega
  generalize hq : l[n0] = q at *
  generalize hbe : q.bytes = b at *
  obtain ⟨p, hpe⟩ : ∃ p, p = pageAt b (off (l.map Pk.bytes) n0) j := ⟨_, rfl⟩
  have p1 : p.seq = i := by rw [hpe, pageAt]; exact hseq
  have p2 : p.first = decide (j = 0) := by rw [hpe]; rfl
  have p3 : p.last = decide (b.length ≤ 252 * j + 252) := by rw [hpe]; rfl
  have p4 : p.guard = false := by rw [hpe]; rfl
  have p5 : p.body = (b.drop (252 * j)).take 252 := by rw [hpe]; rfl
  have hpl : 1 ≤ p.body.length ∧ p.body.length ≤ 252 := by rw [p5, List.length_take, List.length_drop]; omega
  rw [← hpe]
  clear hpe
  have hn0 := h.n0
  have hn1 := h.n1
  have hd : t.s.deaf p = false := by
    have hk : pgOk p = true := by simp [pgOk, p1, p4, mostB]; omega
    have : pgE p = 0 := by rw [pgE, if_pos hk]
    simp [Jn.deaf, this, p4, p1]; omega
  have hgap : gaps t.s p = if t.s.next < i then [⟨t.s.next, (i : Int) - 1⟩] else [] := by rw [gaps, p1]
  have hgh : t.gps ++ gaps t.s p = t.holes := by
    rw [hgap]
    rcases Int.lt_or_eq_of_le hn1 with h9 | h9
    · rw [if_pos h9, (h.pend h9).1]
    · rw [if_neg (by omega), List.append_nil, h.same h9]
  have hfar : ∀ x ∈ t.holes, x.hi + 2 ≤ (i : Int) + 1 := fun x hx => by
    rcases Int.lt_or_eq_of_le hn1 with h9 | h9
    · rw [(h.pend h9).1] at hx
      rcases List.mem_append.1 hx with hx | hx
      · have := h.far x hx; omega
      · rw [List.mem_singleton] at hx; subst hx; simp only; omega
    · rw [h.same h9] at hx
      have := h.far x hx; omega
  have hk := start_k t.s p
  have hsn : (t.s.start p).next = (i : Int) + 1 := by
    unfold Jn.start
    split
    · simp only [spoil_next, Jn.turn, p1]
    · simp only [Jn.turn, p1]
  have hgb : t.s.next < i → (t.s.gap p).begun = false := fun h9 => by rw [Jn.gap, p1, if_pos h9]; exact spoil_bare _
  have hgbody : (t.s.gap p).begun = false → (t.s.gap p).body = [] := fun h9 => by
    unfold Jn.gap at h9 ⊢
    split
    · exact spoil_body _ h.bare
    · rename_i h8
      rw [if_neg h8] at h9
      exact h.bare h9
  have hk0 := h.k0
  have hk1 := h.k1
  have hlw := h.lw
  have hlh := h.lh
  -- what is left to be shown of the way that the page goes
  have fin : ∀ (s' : Jn) (x : List Pk), t.s.put p = (s', x, gaps t.s p) → s'.next = (i : Int) + 1 → s'.broken = (t.s.start p).broken → s'.body.length ≤ 65554 → (s'.begun = false → s'.body = []) →
      t.got ++ x = (if p.last = true ∧ (if j = 0 then true else t.whole) = true then t.want ++ [q] else t.want) →
      (if j + 1 < nPages b then (if (if j = 0 then true else t.whole) = true then s'.begun = true ∧ s'.body = b.take (252 * (j + 1)) else s'.begun = false) else s'.begun = false) →
      BkI l N (i + 1) (t.keep n0 (if j = 0 then true else t.whole) q p) := fun s' x e1 e2 e3 e4 e5 e6 e7 => by
    have ek : t.keep n0 (if j = 0 then true else t.whole) q p = ⟨n0, if j = 0 then true else t.whole, if p.last = true ∧ (if j = 0 then true else t.whole) = true then t.want ++ [q] else t.want, t.got ++ x, t.holes, t.holes, s'⟩ := by
      rw [Bk.keep, e1]
      simp only
      rw [hgh]
    rw [ek]
    constructor
    · by_cases hl9 : j + 1 < nPages b
      · rw [if_pos hl9] at e7
        refine ⟨n0, j + 1, by omega, by omega, fun h9 => by rw [hq, hbe]; exact hl9, fun h9 => by omega, by simp, fun h9 => by omega, fun h9 _ _ => ?_, fun _ h9 => by simp only at h9; omega⟩
        simp only
        rw [hq, hbe]
        exact e7
      · rw [if_neg hl9] at e7
        exact ⟨n0 + 1, 0, by rw [hnx]; omega, by omega, fun h9 => nPages_pos _, fun _ => rfl, by simp, fun _ _ => e7, fun _ h9 => by omega, fun h9 => by omega⟩
    · simp only; omega
    · simp only; omega
    · intro _; rfl
    · intro h9; simp only at h9; omega
    · intro y hy; simp only at hy ⊢; have := hfar y hy; omega
    · exact e6
    · exact e5
    · simp only; omega
    · simp only; omega
    · exact e4
    · exact ite_len _ (by rw [List.length_append, List.length_singleton]; omega) (by omega)
    · simp only; omega
    · simp only; omega
  by_cases hb : (t.s.start p).begun = true
  · -- what was begun goes on
    have hw1 : (if j = 0 then true else t.whole) = true ∧ (t.s.start p).body = b.take (252 * j) := by
      by_cases hj0 : j = 0
      · refine ⟨by rw [if_pos hj0], ?_⟩
        have : (t.s.start p).body = ((t.s.turn p).spoil).body := by rw [Jn.start, p2, if_pos (by simp [hj0])]
        rw [this, hj0, spoil_body (t.s.turn p) (fun h9 => hgbody h9)]
        simp
      · have hs : t.s.start p = t.s.turn p := by rw [Jn.start, p2, if_neg (by simp [hj0])]
        rw [hs] at hb ⊢
        have hne : ¬ t.s.next < i := fun h9 => by
          have := hgb h9
          simp only [Jn.turn] at hb
          rw [this] at hb
          cases hb
        have hg : t.s.gap p = t.s := by rw [Jn.gap, p1, if_neg hne]
        have hbt : t.s.begun = true := by simpa [Jn.turn, hg] using hb
        have := c2 (by omega) (by omega)
        rw [if_neg hj0]
        cases hw : t.whole
        · rw [hw, if_neg (by simp)] at this; rw [this] at hbt; cases hbt
        · rw [hw, if_pos rfl] at this
          exact ⟨rfl, by simpa [Jn.turn, hg] using this.2⟩
    obtain ⟨hw, hbody⟩ := hw1
    have hcat : (t.s.start p).body ++ p.body = b.take (252 * (j + 1)) := by
      rw [hbody, p5, show 252 * (j + 1) = 252 * j + 252 by omega, List.take_add]
    have hlen : ¬ 65554 < ((t.s.start p).body ++ p.body).length := by rw [hcat, List.length_take]; omega
    by_cases hl9 : j + 1 < nPages b
    · have h3 : p.last = false := by rw [p3, decide_eq_false_iff_not, hlast]; simpa using hl9
      refine fin _ _ (put_more hd hb hlen h3) (by simp only [Jn.full]; exact hsn) rfl (by simp only [Jn.full]; omega) (fun h9 => by simp only [Jn.full] at h9; rw [h9] at hb; cases hb) ?_ ?_
      · rw [if_neg (by simp [h3]), List.append_nil]; exact h.got
      · rw [if_pos hl9, hw, if_pos rfl]
        exact ⟨hb, hcat⟩
    · have h3 : p.last = true := by rw [p3, decide_eq_true_eq, hlast]; exact hl9
      have hall : (t.s.start p).body ++ p.body = b := by rw [hcat, List.take_of_length_le]; rw [nPages_lt] at hl9; omega
      refine fin _ _ (put_ok hd hb hlen h3 (by rw [hall]; exact ho)) (by simp only [Jn.full]; exact hsn) rfl (by simp) (fun _ => rfl) ?_ ?_
      · rw [if_pos ⟨h3, hw⟩, hall, hoP, h.got]
      · rw [if_neg hl9]
  · have hb : (t.s.start p).begun = false := by simpa using hb
    have hj0 : j ≠ 0 := fun hj0 => by
      rw [Jn.start, p2, if_pos (by simp [hj0])] at hb
      cases hb
    have hs : t.s.start p = t.s.turn p := by rw [Jn.start, p2, if_neg (by simp [hj0])]
    have hwf : t.whole = false := by
      rcases Int.lt_or_eq_of_le hn1 with h9 | h9
      · exact c3 (by omega) h9
      · have hg : t.s.gap p = t.s := by rw [Jn.gap, p1, if_neg (by omega)]
        have hbt : t.s.begun = false := by rw [hs] at hb; simpa [Jn.turn, hg] using hb
        have := c2 (by omega) h9
        cases hw : t.whole
        · rfl
        · rw [hw, if_pos rfl, hbt] at this; cases this.1
    have hbody : (t.s.start p).body = [] := by
      rw [hs] at hb ⊢
      simp only [Jn.turn] at hb ⊢
      exact hgbody hb
    have hw : (if j = 0 then true else t.whole) = false := by rw [if_neg hj0, hwf]
    refine fin _ _ (put_quiet hd hb) hsn rfl (by rw [hbody]; simp) (fun _ => hbody) ?_ ?_
    · rw [hw, if_neg (by simp), List.append_nil]; exact h.got
    · rw [hw]
      split
      · rw [if_neg (by simp)]; exact hb
      · exact hb

theorem BkI.done {l : List Pk} {N : Nat} {t : Bk} (h : BkI l N N t) : t.got = t.want ∧ t.gps = t.holes := by
  refine ⟨h.got, ?_⟩
  rcases Int.lt_or_eq_of_le h.n1 with h9 | h9
  · have := (h.pend h9).2; omega
  · exact (h.same h9).symm
end Go.Proofs.Ytdnkdjaokmibjaa
