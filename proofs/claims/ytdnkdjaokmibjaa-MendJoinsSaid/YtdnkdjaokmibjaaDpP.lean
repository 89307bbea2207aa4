/- Packets, their pages, and a Joiner from 0 on (plain). -/
import Derived.Test.YtdnkdjaokmibjaaPgBackL
import Derived.Test.YtdnkdjaokmibjaaTapePk
import Derived.Test.YtdnkdjaokmibjaaPgGood
set_option linter.unusedSimpArgs false
set_option linter.unusedVariables false
namespace Go.Proofs.Ytdnkdjaokmibjaa
open Go.RowKit

def offs (bs : List (List Int)) (n : Nat) : Nat := ((bs.take n).map nPages).sum
theorem offs_zero (bs : List (List Int)) : offs bs 0 = 0 := by simp [offs]
theorem offs_succ {bs : List (List Int)} {n : Nat} (h : n < bs.length) : offs bs (n + 1) = offs bs n + nPages bs[n] := by
  unfold offs
  rw [List.take_succ_eq_append_getElem h, List.map_append, List.sum_append]
  simp
theorem offs_all (f : Int) (bs : List (List Int)) : (pagesAll f bs).length = offs bs bs.length := by rw [pagesAll_len, offs, List.take_length]
theorem page_atf (f : Int) {bs : List (List Int)} {n j : Nat} (h : n < bs.length) (hj : j < nPages bs[n]) : ∃ h9 : offs bs n + j < (pagesAll f bs).length, (pagesAll f bs)[offs bs n + j] = pageAt bs[n] (f + offs bs n) j := by
  obtain ⟨r, hr⟩ := pagesAll_pre f (bs.take (n + 1)) (bs.drop (n + 1))
  rw [List.take_append_drop] at hr
  rw [List.take_succ_eq_append_getElem h, pagesAll_snoc] at hr
  have hl : (pagesAll f (bs.take n)).length = offs bs n := by rw [pagesAll_len]; rfl
  have h9 : offs bs n + j < (pagesAll f bs).length := by rw [hr, List.length_append, List.length_append, pagesOf_len, hl]; omega
  refine ⟨h9, ?_⟩
  have e : (pagesAll f bs)[offs bs n + j]? = some (pageAt bs[n] (f + offs bs n) j) := by
    rw [hr, List.append_assoc, List.getElem?_append_right (by omega), hl, Nat.add_sub_cancel_left, List.getElem?_append_left (by rw [pagesOf_len]; exact hj)]
    simp [pagesOf, hj]
  rw [List.getElem?_eq_getElem h9] at e
  injection e
/-- The Joiner ahead of page j of packet n. -/
def jsAt (f : Int) (bs : List (List Int)) (n j : Nat) : Jn := ⟨f + offs bs n + j, decide (0 < j), (bs.getD n []).take (252 * j), 0⟩
theorem jsAt_zero (f : Int) (bs : List (List Int)) (n : Nat) : jsAt f bs n 0 = ⟨f + offs bs n, false, [], 0⟩ := by simp [jsAt]
theorem put_at {l : List Pk} (hl : ∀ p ∈ l, layE p = 0) {f : Int} (f0 : 0 ≤ f) {n j : Nat} (hn : n < l.length) (hj : j < nPages (l[n]).bytes) (f1 : f + offs (l.map Pk.bytes) n + j ≤ 2147483647) :
    (jsAt f (l.map Pk.bytes) n j).put (pageAt (l[n]).bytes (f + offs (l.map Pk.bytes) n) j) =
      if j + 1 < nPages (l[n]).bytes then (jsAt f (l.map Pk.bytes) n (j + 1), [], []) else (jsAt f (l.map Pk.bytes) (n + 1) 0, [l[n]], []) := by
  have hE := hl _ (List.getElem_mem hn)
  have hbl : (l[n]).bytes.length ≤ 65554 := by have := layOk_len hE; rw [bytes_len]; omega
  obtain ⟨ho, hoP⟩ := open_back hE
  have hnx : offs (l.map Pk.bytes) (n + 1) = offs (l.map Pk.bytes) n + nPages (l[n]).bytes := by rw [offs_succ (by rw [List.length_map]; omega), map_get hn]
  have hgd : (l.map Pk.bytes).getD n [] = (l[n]).bytes := by rw [List.getD_eq_getElem?_getD, List.getElem?_map, List.getElem?_eq_getElem hn]; rfl
  have hjb := nPages_lt.1 hj
  have hlast : ((l[n]).bytes.length ≤ 252 * j + 252) ↔ ¬ (j + 1 < nPages (l[n]).bytes) := by rw [nPages_lt]; omega
  rw [jsAt_zero, hnx]
  simp only [jsAt, hgd]
  generalize offs (l.map Pk.bytes) n = o at *
  generalize hq : l[n] = q at *
  generalize hbe : q.bytes = b at *
  clear hnx hgd
  obtain ⟨p, hpe⟩ : ∃ p, p = pageAt b (f + o) j := ⟨_, rfl⟩
  have p1 : p.seq = f + o + j := by rw [hpe, pageAt]
  have p2 : p.first = decide (j = 0) := by rw [hpe]; rfl
  have p3 : p.last = decide (b.length ≤ 252 * j + 252) := by rw [hpe]; rfl
  have p4 : p.guard = false := by rw [hpe]; rfl
  have p5 : p.body = (b.drop (252 * j)).take 252 := by rw [hpe]; rfl
  have hpl : 1 ≤ p.body.length ∧ p.body.length ≤ 252 := by rw [p5, List.length_take, List.length_drop]; omega
  rw [← hpe]
  clear hpe
  generalize hs : (⟨f + o + j, decide (0 < j), b.take (252 * j), 0⟩ : Jn) = s
  have s1 : s.next = f + o + j := by rw [← hs]
  have s2 : s.begun = decide (0 < j) := by rw [← hs]
  have s3 : s.body = b.take (252 * j) := by rw [← hs]
  have s4 : s.broken = 0 := by rw [← hs]
  clear hs
  have hd : s.deaf p = false := by
    have hk : pgOk p = true := by simp [pgOk, p1, p4, mostB]; omega
    have : pgE p = 0 := by rw [pgE, if_pos hk]
    simp [Jn.deaf, this, p4, p1, s1]
  have hgap : gaps s p = [] := by rw [gaps, p1, if_neg (by omega)]
  have hg : s.gap p = s := by rw [Jn.gap, p1, if_neg (by omega)]
  have ht : s.turn p = ⟨f + o + j + 1, decide (0 < j), b.take (252 * j), 0⟩ := by rw [Jn.turn, hg, p1, s2, s3, s4]
  have hst : s.start p = ⟨f + o + j + 1, true, b.take (252 * j), 0⟩ := by
    by_cases hj0 : j = 0
    · subst hj0
      rw [Jn.start, p2, if_pos (by simp), ht]
      simp [Jn.spoil]
    · rw [Jn.start, p2, if_neg (by simp [hj0]), ht, decide_eq_true (by omega)]
  have hb : (s.start p).begun = true := by rw [hst]
  have hcat : (s.start p).body ++ p.body = b.take (252 * (j + 1)) := by
    rw [hst, p5, show 252 * (j + 1) = 252 * j + 252 by omega, List.take_add]
  have hfull : s.full p = ⟨f + o + j + 1, true, b.take (252 * (j + 1)), 0⟩ := by rw [Jn.full, hcat, hst]
  have hlen : ¬ 65554 < ((s.start p).body ++ p.body).length := by rw [hcat, List.length_take]; omega
  by_cases hl9 : j + 1 < nPages b
  · have h3 : p.last = false := by rw [p3, decide_eq_false_iff_not, hlast]; simpa using hl9
    rw [if_pos hl9, put_more hd hb hlen h3, hgap, hfull, decide_eq_true (by omega)]
    simp only [Prod.mk.injEq, Jn.mk.injEq, and_self, and_true]
    omega
  · have h3 : p.last = true := by rw [p3, decide_eq_true_eq, hlast]; exact hl9
    have hall : (s.start p).body ++ p.body = b := by rw [hcat, List.take_of_length_le]; rw [nPages_lt] at hl9; omega
    rw [if_neg hl9, put_ok hd hb hlen h3 (by rw [hall]; exact ho), hgap, hall, hoP, hfull]
    simp only [Prod.mk.injEq, Jn.mk.injEq, and_self, and_true]
    omega
theorem tape_lay {st : Int} {l : List Pk} (h0 : 0 ≤ st ∧ st < 4) (h : TapePks st l) : ∀ p ∈ l, layE p = 0 := fun p hp => by
  have h1 := h.st p hp
  have h2 := h.time p hp
  have h3 := h.data p hp
  rw [layE, if_pos (by simp [Pk.head]; omega), if_neg (by omega)]
theorem nPages4 {st : Int} {l : List Pk} (h : TapePks st l) {p : Pk} (hp : p ∈ l) : nPages p.bytes ≤ 4 := by
  have := (h.data p hp).1
  rw [nPages, bytes_len]; omega
theorem offs_le4 {st : Int} {l : List Pk} (h : TapePks st l) : ∀ n, n ≤ l.length → offs (l.map Pk.bytes) n ≤ 4 * n
  | 0, _ => by rw [offs_zero]; omega
  | n + 1, hn => by
    have ih := offs_le4 h n (by omega)
    have hp := nPages4 h (List.getElem_mem (show n < l.length by omega))
    rw [offs_succ (by rw [List.length_map]; omega), map_get (by omega)]
    omega
theorem split_ok {st : Int} {l : List Pk} (hT : TapePks st l) (h : ∀ p ∈ l, layE p = 0) (hn : l.length ≤ 1000) : splitE l 0 = 0 ∧ splitP l 0 = pagesAll 0 (l.map Pk.bytes) ∧ (pagesAll 0 (l.map Pk.bytes)).length = offs (l.map Pk.bytes) l.length := by
  have hlen : (pagesAll 0 (l.map Pk.bytes)).length = offs (l.map Pk.bytes) l.length := by rw [offs_all, List.length_map]
  have ho := offs_le4 hT l.length (Nat.le_refl _)
  have hE : splitE l 0 = 0 := by
    have hb := layBad_none h
    rw [splitE, if_neg (by omega), if_neg (by rw [hb]; simp), if_neg (by omega)]
  exact ⟨hE, by rw [splitP, if_pos hE], hlen⟩
/-- how many pages are the last ones of their packets -/
def nL (ps : List Pg) : Nat := (ps.filter (·.last)).length
theorem nL_snoc (ps : List Pg) (p : Pg) : nL (ps ++ [p]) = nL ps + (if p.last = true then 1 else 0) := by
  rw [nL, List.filter_append, List.length_append]
  by_cases h : p.last = true
  · rw [if_pos h]; simp [nL, h]
  · rw [if_neg h]; simp [nL, h]
/-- A place among the pages: page j of packet n. -/
structure Plc (l : List Pk) (n j : Nat) : Prop where
  le : n ≤ l.length
  lt : ∀ h : n < l.length, j < nPages (l[n]).bytes
  z : n = l.length → j = 0
theorem Plc.start (l : List Pk) : Plc l 0 0 := ⟨Nat.zero_le _, fun h => nPages_pos _, fun _ => rfl⟩
theorem put_step {l : List Pk} (hl : ∀ p ∈ l, layE p = 0) {n j : Nat} (hp : Plc l n j) (hn : n < l.length) (f1 : offs (l.map Pk.bytes) n + j ≤ 2147483647) :
    ∃ n' j' ys, (jsAt 0 (l.map Pk.bytes) n j).put (pageAt (l[n]).bytes (0 + offs (l.map Pk.bytes) n) j) = (jsAt 0 (l.map Pk.bytes) n' j', ys, []) ∧ Plc l n' j' ∧ l.take n' = l.take n ++ ys ∧ offs (l.map Pk.bytes) n' + j' = offs (l.map Pk.bytes) n + j + 1 ∧
      n' = n + (if (pageAt (l[n]).bytes (0 + offs (l.map Pk.bytes) n) j).last = true then 1 else 0) ∧ ys.length ≤ 1 := by
  have hj := hp.lt hn
  have h := put_at hl (f := 0) (by omega) hn hj (by omega)
  have hlast : (pageAt (l[n]).bytes (0 + offs (l.map Pk.bytes) n) j).last = decide ((l[n]).bytes.length ≤ 252 * j + 252) := rfl
  have hiff : ((l[n]).bytes.length ≤ 252 * j + 252) ↔ ¬ (j + 1 < nPages (l[n]).bytes) := by rw [nPages_lt]; omega
  by_cases h9 : j + 1 < nPages (l[n]).bytes
  · rw [if_pos h9] at h
    refine ⟨n, j + 1, [], h, ⟨hp.le, fun _ => h9, fun e => by omega⟩, by rw [List.append_nil], by omega, ?_, by simp⟩
    rw [hlast, if_neg (by rw [decide_eq_true_eq]; exact fun e => hiff.1 e h9)]
    rfl
  · rw [if_neg h9] at h
    refine ⟨n + 1, 0, [l[n]], h, ⟨by omega, fun _ => nPages_pos _, fun _ => rfl⟩, List.take_succ_eq_append_getElem hn, ?_, ?_, by simp⟩
    · rw [offs_succ (by rw [List.length_map]; omega), map_get hn]
      omega
    · rw [hlast, if_pos (by rw [decide_eq_true_eq]; exact hiff.2 h9)]
/-- Each page may be recorded. -/
theorem page_good {st : Int} {l : List Pk} (h : TapePks st l) (hl : ∀ p ∈ l, layE p = 0) (hw : ∀ p ∈ l, p.wf) {n j : Nat} (hn : n < l.length) (hj : j < nPages (l[n]).bytes) (hk : offs (l.map Pk.bytes) n + j ≤ 1000000) : PgGood (pageAt (l[n]).bytes (0 + offs (l.map Pk.bytes) n) j) (offs (l.map Pk.bytes) n + j) := by
  have hE := hl _ (List.getElem_mem hn)
  have hb := bytes_byte hE (hw _ (List.getElem_mem hn))
  have hjb := nPages_lt.1 hj
  have hbl : 1 ≤ (((l[n]).bytes.drop (252 * j)).take 252).length ∧ (((l[n]).bytes.drop (252 * j)).take 252).length ≤ 252 := by rw [List.length_take, List.length_drop]; omega
  have := pgGood_of (k := offs (l.map Pk.bytes) n + j) (f1 := decide (j = 0)) (f2 := decide ((l[n]).bytes.length ≤ 252 * j + 252)) (pb := ((l[n]).bytes.drop (252 * j)).take 252) hk hbl.1 hbl.2 (fun x hx => hb x (List.mem_of_mem_drop (List.mem_of_mem_take hx)))
  have e : ((offs (l.map Pk.bytes) n + j : Nat) : Int) = 0 + (offs (l.map Pk.bytes) n : Int) + (j : Int) := by omega
  rw [e] at this
  exact this
/-- Where page i lies. -/
theorem plc_at {l : List Pk} : ∀ i, i ≤ offs (l.map Pk.bytes) l.length → ∃ n j, Plc l n j ∧ offs (l.map Pk.bytes) n + j = i
  | 0, _ => ⟨0, 0, Plc.start l, by rw [offs_zero]⟩
  | i + 1, h => by
    obtain ⟨n, j, hp, e⟩ := plc_at (l := l) i (by omega)
    have hn : n < l.length := by
      rcases Nat.lt_or_ge n l.length with h9 | h9
      · exact h9
      · have h8 := hp.le
        have : n = l.length := by omega
        have h7 := hp.z this
        subst this
        omega
    have hj := hp.lt hn
    by_cases h9 : j + 1 < nPages (l[n]).bytes
    · exact ⟨n, j + 1, ⟨hp.le, fun _ => h9, fun e => by omega⟩, by omega⟩
    · refine ⟨n + 1, 0, ⟨by omega, fun _ => nPages_pos _, fun _ => rfl⟩, ?_⟩
      rw [offs_succ (by rw [List.length_map]; omega), map_get hn]
      omega
theorem pages_good {st : Int} {l : List Pk} (h : TapePks st l) (hl : ∀ p ∈ l, layE p = 0) (hw : ∀ p ∈ l, p.wf) (hk : offs (l.map Pk.bytes) l.length ≤ 1000000) : ∀ i (hi : i < (pagesAll 0 (l.map Pk.bytes)).length), PgGood (pagesAll 0 (l.map Pk.bytes))[i] i := fun i hi => by
  have hlen : (pagesAll 0 (l.map Pk.bytes)).length = offs (l.map Pk.bytes) l.length := by rw [offs_all, List.length_map]
  obtain ⟨n, j, hp, rfl⟩ := plc_at (l := l) i (by omega)
  have hn : n < l.length := by
    rcases Nat.lt_or_ge n l.length with h9 | h9
    · exact h9
    · have h8 := hp.le
      have : n = l.length := by omega
      have h7 := hp.z this
      subst this
      omega
  obtain ⟨h9, e⟩ := page_atf 0 (bs := l.map Pk.bytes) (n := n) (j := j) (by rw [List.length_map]; exact hn) (by rw [map_get hn]; exact hp.lt hn)
  rw [e, map_get hn]
  exact page_good h hl hw hn (hp.lt hn) (by omega)
end Go.Proofs.Ytdnkdjaokmibjaa
