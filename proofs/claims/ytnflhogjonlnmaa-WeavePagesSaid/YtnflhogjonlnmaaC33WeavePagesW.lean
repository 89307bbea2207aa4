/- WeavePages: the walk. -/
import Derived.Test.YtnflhogjonlnmaaPgBackL
import Derived.Test.YtnflhogjonlnmaaWvSdL
import Derived.Test.YtnflhogjonlnmaaJnPut
import Derived.Test.YtnflhogjonlnmaaWvM
import Derived.Test.YtnflhogjonlnmaaWvKnown
import Derived.Test.YtnflhogjonlnmaaWvAll
import Derived.Test.YtnflhogjonlnmaaWvTp
import Derived.Test.YtnflhogjonlnmaaPgSplit
import Derived.Test.YtnflhogjonlnmaaPkSames
import Derived.Test.YtnflhogjonlnmaaPkVal
set_option linter.unusedSimpArgs false
set_option linter.unusedVariables false
namespace Go.Proofs.Ytnflhogjonlnmaa
open Go.RowKit

def offs (bs : List (List Int)) (n : Nat) : Nat := ((bs.take n).map nPages).sum
theorem offs_zero (bs : List (List Int)) : offs bs 0 = 0 := by simp [offs]
theorem offs_succ {bs : List (List Int)} {n : Nat} (h : n < bs.length) : offs bs (n + 1) = offs bs n + nPages bs[n] := by
  unfold offs
  rw [List.take_succ_eq_append_getElem h, List.map_append, List.sum_append]
  simp
theorem offs_all (f : Int) (bs : List (List Int)) : (pagesAll f bs).length = offs bs bs.length := by rw [pagesAll_len, offs, List.take_length]
theorem page_atf (f : Int) {bs : List (List Int)} {n j : Nat} (h : n < bs.length) (hj : j < nPages bs[n]) : ∃ h9 : offs bs n + j < (pagesAll f bs).length, (pagesAll f bs)[offs bs n + j] = pageAt bs[n] (f + offs bs n) j := by
  obtain ⟨r, hr⟩ := pagesAll_pre f (bs.take (n + 1)) (bs.drop (n + 1))
  rw [List.take_append_drop] at hr
  rw [List.take_succ_eq_append_getElem h, pagesAll_snoc] at hr
  have hl : (pagesAll f (bs.take n)).length = offs bs n := by rw [pagesAll_len]; rfl
  have h9 : offs bs n + j < (pagesAll f bs).length := by rw [hr, List.length_append, List.length_append, pagesOf_len, hl]; omega
  refine ⟨h9, ?_⟩
  have e : (pagesAll f bs)[offs bs n + j]? = some (pageAt bs[n] (f + offs bs n) j) := by
    rw [hr, List.append_assoc, List.getElem?_append_right (by omega), hl, Nat.add_sub_cancel_left, List.getElem?_append_left (by rw [pagesOf_len]; exact hj)]
    simp [pagesOf, hj]
  rw [List.getElem?_eq_getElem h9] at e
  injection e
theorem nPages_le {p : Pk} (h : layE p = 0) : nPages p.bytes ≤ 261 := by
  have := layOk_len h
  rw [nPages, bytes_len]; omega
theorem offs_le {l : List Pk} (hl : ∀ p ∈ l, layE p = 0) : ∀ n, n ≤ l.length → offs (l.map Pk.bytes) n ≤ 261 * n
  | 0, _ => by rw [offs_zero]; omega
  | n + 1, h => by
    have ih := offs_le hl n (by omega)
    have hp := nPages_le (hl l[n] (List.getElem_mem (by omega)))
    rw [offs_succ (by rw [List.length_map]; omega), map_get (by omega)]
    omega
/-- The Joiner ahead of page j of packet n. -/
def jsAt (f : Int) (bs : List (List Int)) (n j : Nat) : Jn := ⟨f + offs bs n + j, decide (0 < j), (bs.getD n []).take (252 * j), 0⟩
theorem jsAt_zero (f : Int) (bs : List (List Int)) (n : Nat) : jsAt f bs n 0 = ⟨f + offs bs n, false, [], 0⟩ := by simp [jsAt]
theorem put_at {l : List Pk} (hl : ∀ p ∈ l, layE p = 0) {f : Int} (f0 : 0 ≤ f) {n j : Nat} (hn : n < l.length) (hj : j < nPages (l[n]).bytes) (f1 : f + offs (l.map Pk.bytes) n + j ≤ 2147483647) :
    (jsAt f (l.map Pk.bytes) n j).put (pageAt (l[n]).bytes (f + offs (l.map Pk.bytes) n) j) =
      if j + 1 < nPages (l[n]).bytes then (jsAt f (l.map Pk.bytes) n (j + 1), [], []) else (jsAt f (l.map Pk.bytes) (n + 1) 0, [l[n]], []) := by
  have hE := hl _ (List.getElem_mem hn)
  have hbl : (l[n]).bytes.length ≤ 65554 := by have := layOk_len hE; rw [bytes_len]; omega
  obtain ⟨ho, hoP⟩ := open_back hE
  have hnx : offs (l.map Pk.bytes) (n + 1) = offs (l.map Pk.bytes) n + nPages (l[n]).bytes := by rw [offs_succ (by rw [List.length_map]; omega), map_get hn]
  have hgd : (l.map Pk.bytes).getD n [] = (l[n]).bytes := by rw [List.getD_eq_getElem?_getD, List.getElem?_map, List.getElem?_eq_getElem hn]; rfl
  have hjb := nPages_lt.1 hj
  have hlast : ((l[n]).bytes.length ≤ 252 * j + 252) ↔ ¬ (j + 1 < nPages (l[n]).bytes) := by rw [nPages_lt]; omega
  rw [jsAt_zero, hnx]
  simp only [jsAt, hgd]
  generalize offs (l.map Pk.bytes) n = o at *
  generalize hq : l[n] = q at *
  generalize hbe : q.bytes = b at *
  clear hnx hgd
  obtain ⟨p, hpe⟩ : ∃ p, p = pageAt b (f + o) j := ⟨_, rfl⟩
  have p1 : p.seq = f + o + j := by rw [hpe, pageAt]
  have p2 : p.first = decide (j = 0) := by rw [hpe]; rfl
  have p3 : p.last = decide (b.length ≤ 252 * j + 252) := by rw [hpe]; rfl
  have p4 : p.guard = false := by rw [hpe]; rfl
  have p5 : p.body = (b.drop (252 * j)).take 252 := by rw [hpe]; rfl
  have hpl : 1 ≤ p.body.length ∧ p.body.length ≤ 252 := by rw [p5, List.length_take, List.length_drop]; omega
  rw [← hpe]
  clear hpe
  generalize hs : (⟨f + o + j, decide (0 < j), b.take (252 * j), 0⟩ : Jn) = s
  have s1 : s.next = f + o + j := by rw [← hs]
  have s2 : s.begun = decide (0 < j) := by rw [← hs]
  have s3 : s.body = b.take (252 * j) := by rw [← hs]
  have s4 : s.broken = 0 := by rw [← hs]
  clear hs
  have hd : s.deaf p = false := by
    have hk : pgOk p = true := by simp [pgOk, p1, p4, mostB]; omega
    have : pgE p = 0 := by rw [pgE, if_pos hk]
    simp [Jn.deaf, this, p4, p1, s1]
  have hgap : gaps s p = [] := by rw [gaps, p1, if_neg (by omega)]
  have hg : s.gap p = s := by rw [Jn.gap, p1, if_neg (by omega)]
  have ht : s.turn p = ⟨f + o + j + 1, decide (0 < j), b.take (252 * j), 0⟩ := by rw [Jn.turn, hg, p1, s2, s3, s4]
  have hst : s.start p = ⟨f + o + j + 1, true, b.take (252 * j), 0⟩ := by
    by_cases hj0 : j = 0
    · subst hj0
      rw [Jn.start, p2, if_pos (by simp), ht]
      simp [Jn.spoil]
    · rw [Jn.start, p2, if_neg (by simp [hj0]), ht, decide_eq_true (by omega)]
  have hb : (s.start p).begun = true := by rw [hst]
  have hcat : (s.start p).body ++ p.body = b.take (252 * (j + 1)) := by
    rw [hst, p5, show 252 * (j + 1) = 252 * j + 252 by omega, List.take_add]
  have hfull : s.full p = ⟨f + o + j + 1, true, b.take (252 * (j + 1)), 0⟩ := by rw [Jn.full, hcat, hst]
  have hlen : ¬ 65554 < ((s.start p).body ++ p.body).length := by rw [hcat, List.length_take]; omega
  by_cases hl9 : j + 1 < nPages b
  · have h3 : p.last = false := by rw [p3, decide_eq_false_iff_not, hlast]; simpa using hl9
    rw [if_pos hl9, put_more hd hb hlen h3, hgap, hfull, decide_eq_true (by omega)]
    simp only [Prod.mk.injEq, Jn.mk.injEq, and_self, and_true]
    omega
  · have h3 : p.last = true := by rw [p3, decide_eq_true_eq, hlast]; exact hl9
    have hall : (s.start p).body ++ p.body = b := by rw [hcat, List.take_of_length_le]; rw [nPages_lt] at hl9; omega
    rw [if_neg hl9, put_ok hd hb hlen h3 (by rw [hall]; exact ho), hgap, hall, hoP, hfull]
    simp only [Prod.mk.injEq, Jn.mk.injEq, and_self, and_true]
    omega
/-- Each stream's packets. -/
def outOf (n : Nat) (l : List Pk) : List (List Pk) := (List.range n).map fun s => l.filter (ofS s)
theorem outOf_len (n : Nat) (l : List Pk) : (outOf n l).length = n := by simp [outOf]
theorem outOf_nil (n : Nat) : outOf n [] = List.replicate n [] := by
  apply List.ext_getElem
  · simp [outOf]
  · intro j h1 h2; simp [outOf]
theorem outOf_at {n : Nat} {l : List Pk} {s : Nat} (h : s < n) : (outOf n l).getD s [] = l.filter (ofS s) := by
  rw [getD_rs (by rw [outOf_len]; exact h)]
  simp [outOf]
theorem outOf_step {n : Nat} {l : List Pk} {i s : Nat} (hi : i < l.length) (hs : l[i].st = (s : Int)) (h : s < n) : outOf n (l.take (i + 1)) = (outOf n (l.take i)).set s ((outOf n (l.take i)).getD s [] ++ [l[i]]) := by
  rw [outOf_at h]
  apply List.ext_getElem
  · simp [outOf]
  · intro j h1 h2
    rw [List.getElem_set]
    simp only [outOf, List.getElem_map, List.getElem_range]
    rw [List.take_succ_eq_append_getElem hi, List.filter_append]
    by_cases hsj : s = j
    · subst hsj
      rw [if_pos rfl]
      congr 1
      simp [ofS, hs]
    · rw [if_neg hsj]
      have : [l[i]].filter (ofS j) = [] := by simp [ofS, hs]; omega
      rw [this, List.append_nil]
theorem outOf_all {M : List Pk} {ls : List (List Pk)} (h : RowOf M ls) : outOf ls.length M = ls := by
  apply List.ext_getElem
  · simp [outOf]
  · intro j h1 h2
    have := h.by_ j h2
    simp only [outOf, List.getElem_map, List.getElem_range]
    rw [this, getD_rs h2]
end Go.Proofs.Ytnflhogjonlnmaa

namespace Go.Proofs.Ytnflhogjonlnmaa
open Go.RowKit

theorem info_lpw : (Try.prog.info? 49).map (fun i => (i.zero, i.size, i.bytes)) = some (some (.slice none 0 0), 1, 24) := by kernel_rfl
structure WpM (w : World) (B g gj : Nat) (ob : Option Nat) (s : Jn) (vs : List Value) (xss : List (List Pk)) (G : Nat → Prop) : Prop where
  jn : JnR w gj ob s
  vl : vs.length = xss.length
  blk : Blk w g 49 vs.toArray
  own : ∀ j, j < xss.length → OwnG PkR 6 40 w B G (vAt vs j) (xss.getD j [])
  ne : ∀ j, j < xss.length → ∀ b, (vAt vs j).ownBlock = some b → b ≠ g ∧ b ≠ gj ∧ ob ≠ some b ∧ ¬ G b
  dis : ∀ i j, i < xss.length → j < xss.length → i ≠ j → ∀ b, (vAt vs i).ownBlock = some b → (vAt vs j).ownBlock ≠ some b
  G_ : ∀ b, G b → b < w.heap.size ∧ b ≠ g ∧ b ≠ gj ∧ ob ≠ some b
  gg : g ≠ gj ∧ ob ≠ some g
  ge : B ≤ g ∧ B ≤ gj ∧ B ≤ w.heap.size
section
variable {w w' : World} {B g gj : Nat} {ob : Option Nat} {s : Jn} {vs : List Value} {xss : List (List Pk)} {G : Nat → Prop}
theorem WpM.fresh (h : WpM w B g gj ob s vs xss G) (hb : Below w.heap.size w w') : WpM w' B g gj ob s vs xss G where
  jn := h.jn.below hb
  vl := h.vl
  blk := h.blk.below hb h.blk.lt
  own := fun j hj => (h.own j hj).keep PkR.good (M := fun _ => False) (Mod.of_fresh hb) (fun _ _ _ h => h) (fun _ _ h => h)
  ne := h.ne
  dis := h.dis
  G_ := fun b hb' => ⟨Nat.lt_of_lt_of_le (h.G_ b hb').1 hb.size, (h.G_ b hb').2⟩
  gg := h.gg
  ge := ⟨h.ge.1, h.ge.2.1, Nat.le_trans h.ge.2.2 hb.size⟩
theorem WpM.drewN (h : WpM w B g gj ob s vs xss G) (n : Nat) : WpM (w.drewN n) B g gj ob s vs xss G := h.fresh (below_drewN (Below.refl _ _) n)
/-- Joiner.Put. -/
theorem WpM.put (h : WpM w B g gj ob s vs xss G) {ob' : Option Nat} {s' : Jn} (hj : JnR w' gj ob' s') (hm : Mod (fun b => b = gj ∨ ob = some b) w w') (ho : ∀ b, ob' = some b → ob = some b ∨ w.heap.size ≤ b) : WpM w' B g gj ob' s' vs xss G where
  jn := hj
  vl := h.vl
  blk := h.blk.mod hm (fun e => by rcases e with e | e; exact h.gg.1 e; exact h.gg.2 e)
  own := fun j hj => (h.own j hj).keep PkR.good hm (fun b hb _ e => by rcases e with e | e; exact (h.G_ b hb).2.2.1 e; exact (h.G_ b hb).2.2.2 e) (fun b hb e => by rcases e with e | e; exact (h.ne j hj b hb).2.1 e; exact (h.ne j hj b hb).2.2.1 e)
  ne := fun j hj b hb => ⟨(h.ne j hj b hb).1, (h.ne j hj b hb).2.1, fun e => by
    rcases ho b e with e | e
    · exact (h.ne j hj b hb).2.2.1 e
    · have := ((h.own j hj).own_ge b hb).2; omega, (h.ne j hj b hb).2.2.2⟩
  dis := h.dis
  G_ := fun b hb => ⟨Nat.lt_of_lt_of_le (h.G_ b hb).1 hm.size, (h.G_ b hb).2.1, (h.G_ b hb).2.2.1, fun e => by
    rcases ho b e with e | e
    · exact (h.G_ b hb).2.2.2 e
    · have := (h.G_ b hb).1; omega⟩
  gg := ⟨h.gg.1, fun e => by
    rcases ho g e with e | e
    · exact h.gg.2 e
    · have := h.blk.lt; omega⟩
  ge := ⟨h.ge.1, h.ge.2.1, Nat.le_trans h.ge.2.2 hm.size⟩
theorem run_make_lps (W : World) (n : Nat) (hn : n ≤ 1000000000) : (Instr.makeSlice 48 (.int .i64 (n : Int)) (.int .i64 (n : Int))).run Try.prog W = .ok (.slice (some ⟨W.heap.size, 0, none⟩) n n) (W.alloc (.cells (Array.replicate n (Value.slice none 0 0)) 49)) := by
  have h := run_make_any (P := Try.prog) W 48 Try.underlying48 info_lpw (by omega) .i64 n hn
  have e : madeCells (Value.slice none 0 0).cells (n * 1) = Array.replicate n (Value.slice none 0 0) := by
    have h1 : (Value.slice none 0 0).cells = #[.slice none 0 0] := rfl
    rw [h1, Nat.mul_one]
    apply Array.ext
    · simp [size_madeCells]
    · intro i h1 h2
      simp [madeCells, Nat.mod_one]
  rw [e] at h
  exact h
theorem oAt_set {vs : List Value} {i j : Nat} {v : Value} (h : i < vs.length) : vAt (vs.set i v) j = if i = j then v else vAt vs j := vAt_set h
/-- out[j] = append(out[j], x): what was appended lies at w', the header is stored. -/
theorem WpM.push (h : WpM w B g gj ob s vs xss G) {j : Nat} (hj : j < xss.length) {v' : Value} {l : List Pk} {G' : Nat → Prop} (hm : Mod (fun b => (vAt vs j).ownBlock = some b) w w') (k1 : OwnG PkR 6 40 w' B G' v' l)
    (k2 : ∀ b, v'.ownBlock = some b → ((vAt vs j).ownBlock = some b) ∨ (w.heap.size ≤ b ∧ ¬ G' b)) (k3 : ∀ b, G b → G' b) (k4 : ∀ b, G' b → b < w'.heap.size ∧ b ≠ g ∧ b ≠ gj ∧ ob ≠ some b ∧ (∀ i, i < xss.length → (vAt vs i).ownBlock ≠ some b)) :
    WpM (w'.setCell ⟨g, j, none⟩ v') B g gj ob s (vs.set j v') (xss.set j l) G' := by
  have hvl := h.vl
  have hg := h.blk.lt
  have hgl := h.jn.lt
  have hsz := hm.size
  have hgj : ¬ (vAt vs j).ownBlock = some g := fun e => (h.ne j hj g e).1 rfl
  have hmg : Mod (· = g) w' (w'.setCell ⟨g, j, none⟩ v') := mod_put (Mod.refl _ _) (fun _ => rfl)
  have hob := h.jn.own
  have hvn : ∀ b, v'.ownBlock = some b → b ≠ g ∧ b ≠ gj ∧ ob ≠ some b ∧ ¬ G' b := fun b hb => by
    rcases k2 b hb with e | e
    · exact ⟨(h.ne j hj b e).1, (h.ne j hj b e).2.1, (h.ne j hj b e).2.2.1, fun hG => (k4 b hG).2.2.2.2 j hj e⟩
    · exact ⟨by omega, by omega, fun e' => by have := (hob b e').2; omega, e.2⟩
  refine ⟨(h.jn.keep hm (fun e => (h.ne j hj gj e).2.1 rfl) (fun b hb e => (h.ne j hj b e).2.2.1 hb)).keep hmg (fun e => h.gg.1 e.symm) (fun b hb e => by subst e; exact h.gg.2 hb), by rw [List.length_set, List.length_set]; exact hvl, ?_, fun i hi => ?_, fun i hi b hb => ?_, fun i k hi hk hik b hb => ?_, fun b hb => ?_, h.gg, ⟨h.ge.1, h.ge.2.1, ?_⟩⟩
  · have := (h.blk.mod hm hgj).set_ j v'
    simpa using this
  · rw [List.length_set] at hi
    rw [oAt_set (by omega), getD_set_l hj]
    by_cases hij : j = i
    · rw [if_pos hij, if_pos hij]
      exact k1.keep PkR.good hmg (fun b hb _ e => (k4 b hb).2.1 e) (fun b hb e => (hvn b hb).1 e)
    · rw [if_neg hij, if_neg hij]
      exact (((h.own i hi).keep PkR.good hm (fun b hb _ e => (h.ne j hj b e).2.2.2 hb) (fun b hb e => h.dis i j hi hj (fun e' => hij e'.symm) b hb e)).weak PkR.good (fun b hb _ => k3 b hb)).keep PkR.good hmg (fun b hb _ e => (k4 b hb).2.1 e) (fun b hb e => (h.ne i hi b hb).1 e)
  · rw [List.length_set] at hi
    rw [oAt_set (by omega)] at hb
    by_cases hij : j = i
    · rw [if_pos hij] at hb; exact hvn b hb
    · rw [if_neg hij] at hb
      exact ⟨(h.ne i hi b hb).1, (h.ne i hi b hb).2.1, (h.ne i hi b hb).2.2.1, fun hG => (k4 b hG).2.2.2.2 i hi hb⟩
  · rw [List.length_set] at hi hk
    rw [oAt_set (by omega)] at hb ⊢
    by_cases hij : j = i
    · rw [if_pos hij] at hb
      rw [if_neg (by omega)]
      rcases k2 b hb with e | e
      · exact h.dis j k hj hk (by omega) b e
      · intro e'; have := ((h.own k hk).own_ge b e').2; omega
    · rw [if_neg hij] at hb
      by_cases hjk : j = k
      · rw [if_pos hjk]
        intro e'
        rcases k2 b e' with e | e
        · exact h.dis i j hi hj (fun e' => hij e'.symm) b hb e
        · have := ((h.own i hi).own_ge b hb).2; omega
      · rw [if_neg hjk]; exact h.dis i k hi hk hik b hb
  · have := k4 b hb
    exact ⟨by simp; exact this.1, this.2.1, this.2.2.1, this.2.2.2.1⟩
  · have := h.ge.2.2
    simp; omega
/-- The slices as made. -/
theorem WpM.start {n : Nat} (hj : JnR w gj ob s) (hb : Blk w g 49 (List.replicate n (Value.slice none 0 0)).toArray) (hg : g ≠ gj ∧ ob ≠ some g) (hge : B ≤ g ∧ B ≤ gj ∧ B ≤ w.heap.size) : WpM w B g gj ob s (List.replicate n (.slice none 0 0)) (List.replicate n []) (fun _ => False) := by
  have hv : ∀ j, vAt (List.replicate n (Value.slice none 0 0)) j = .slice none 0 0 := fun j => by
    simp only [vAt, List.getD_eq_getElem?_getD, List.getElem?_replicate]
    split <;> rfl
  have hx : ∀ j, (List.replicate n ([] : List Pk)).getD j [] = [] := fun j => by
    simp only [List.getD_eq_getElem?_getD, List.getElem?_replicate]
    split <;> rfl
  exact ⟨hj, by simp, hb, fun j _ => by rw [hv, hx]; exact OwnG.nil_ _ _ _ _ _ _, fun j _ b hb => (by rw [hv] at hb; cases hb), fun i j _ _ _ b hb => (by rw [hv] at hb; cases hb), fun b h => h.elim, hg, hge⟩
/-- What a header reads as. -/
theorem WpM.at_ (h : WpM w B g gj ob s vs xss G) {j : Nat} (hj : j < xss.length) : ∃ A c, vAt vs j = .slice A (xss.getD j []).length c ∧ (xss.getD j []).length ≤ c ∧ w.cell? ⟨g, j, none⟩ = some (.slice A (xss.getD j []).length c) ∧ w.frozen? ⟨g, j, none⟩ = false ∧ RdG PkR 6 w (fun b => b < w.heap.size) A (xss.getD j []) := by
  obtain ⟨A, c, hv, hc, hr⟩ := (h.own j hj).reads PkR.good (S := fun b => b < w.heap.size) (fun b _ hl => hl)
  refine ⟨A, c, hv, hc, ?_, h.blk.frozen j, hr⟩
  rw [h.blk.cell j, List.getElem?_toArray, List.getElem?_eq_getElem (by rw [h.vl]; exact hj)]
  have : vAt vs j = vs[j]'(by rw [h.vl]; exact hj) := by rw [vAt, List.getD_eq_getElem?_getD, List.getElem?_eq_getElem (by rw [h.vl]; exact hj)]; rfl
  rw [← this, hv]
end
end Go.Proofs.Ytnflhogjonlnmaa

namespace Go.Proofs.Ytnflhogjonlnmaa.weavePages
open Go.RowKit

theorem and_nn (a m : Int) (h0 : 0 ≤ m) (h1 : m < 9223372036854775808) : 0 ≤ bits .and .i64 a m ∧ bits .and .i64 a m ≤ m := by
  obtain ⟨n, rfl⟩ := Int.eq_ofNat_of_zero_le h0
  have h3 : (BitVec.ofInt 64 a &&& BitVec.ofInt 64 (n : Int)).toNat ≤ n := by
    rw [BitVec.toNat_and]
    have h4 : (BitVec.ofInt 64 (n : Int)).toNat = n := by rw [BitVec.toNat_ofInt]; omega
    rw [h4]
    exact Nat.and_le_right
  have h2 : bits .and .i64 a (n : Int) = IntKind.i64.wrap ((BitVec.ofInt 64 a &&& BitVec.ofInt 64 (n : Int)).toNat : Int) := rfl
  rw [h2, IntKind.wrap_i64]; omega

set_option maxHeartbeats 16000000 in
set_option maxRecDepth 100000 in
theorem walk (w : World) (A0 : Option Addr) (c0 : Nat) (t : List Int) (ht : ∀ x ∈ t, -9223372036854775808 ≤ x ∧ x ≤ 9223372036854775807) (hc : t.length ≤ c0) (h63 : c0 ≤ 9223372036854775807) (hrt : RdI w w.heap.size .i64 A0 t)
    (nn : Int) (nn0 : -9223372036854775808 ≤ nn) (nn1 : nn ≤ 9223372036854775807) :
    Calls Try.prog 9 #[.slice A0 t.length c0, .int .i64 nn] w fun e w' => e = .returned (.bool true) ∧ Below w.heap.size w w' := by
  have HK := Lib.hid (fun W => known_any W)
  have HT := Lib.hid (newtape_any A0 t c0 ht hc (by omega) w hrt (Nat.le_refl _))
  have HSt := Lib.hid (fun W (hW : TapeB W w.heap.size w.heap.size) => tapests_any hW 7 (by omega) (by omega))
  clear ht hrt
  go_enter Try.func9, Try.ntmps9
  go_upto_region 2 with (first
    | (go_at_call 11; (with_reducible refine HT.out.mono ?_); rintro e w1 ⟨rfl, hT1, hb1⟩)
    | (go_at_call 22; (with_reducible refine (HSt.out _ hT1).mono ?_); rintro e w2 ⟨v2, ls, rfl, hl1, hl4, hst, ho2, hT2, hg2⟩))
  have bb2 := below_one hb1 hg2 (Nat.le_refl _)
  have hE := tape_weave hst hl1 hl4
  have hRow := row_of hE
  have hsm := total_small (m := 7) hst hl4
  have hMl := hRow.len
  have hLay : ∀ p ∈ weaveP ls, layE p = 0 := fun p hp => by
    obtain ⟨s, hs, e⟩ := hRow.st p hp
    have h9 : p ∈ (weaveP ls).filter (ofS s) := List.mem_filter.2 ⟨hp, by simp [ofS, e]⟩
    rw [hRow.by_ s hs] at h9
    exact tape_lay (by omega) (hst.each s hs).1 p h9
  have hOut := outOf_all hRow
  have hMst := hRow.st
  have hli : ∀ i, i < ls.length → (ls.getD i []).length ≤ 7 := fun i hi => by have := (hst.each i hi).2; omega
  obtain ⟨A2, c2, rfl, hc2, hr2⟩ := ho2.reads LpR.good (S := fun b => b < w2.heap.size) (fun b _ hl => hl)
  have HA := wall_any (c := c2) hr2 (by omega)
  unfold WeavePost at HA
  rw [hE] at HA
  generalize weaveP ls = M at *
  replace HA := Lib.hid HA
  have HLay := Lib.hid hLay
  have HOut := Lib.hid hOut
  have HSt7 := Lib.hid hMst
  have HLi := Lib.hid hli
  have hM28 : M.length ≤ 28 := by omega
  clear hst ho2 hT2 hg2 hT1 hb1 hRow hE hsm hMl HT HSt hLay hOut hMst hli
  go_upto_region 3 with (first
    | (go_at_call 24; (with_reducible refine HA.out.mono ?_); rintro e w3 ⟨v3, rfl, ho3, hb3⟩; obtain ⟨A3, c3, rfl, hc3, hr3⟩ := ho3.reads PkR.good (S := fun b => b < w3.heap.size) (fun b _ hl => hl)))
  have hr2' := (hr2.below LpR.good hb3).weak LpR.good (S' := fun b => b < w3.heap.size) (fun b hb _ => Nat.lt_of_lt_of_le hb hb3.size)
  have bb3 := below_then bb2 hb3
  clear ho3 hr2 hb3 bb2 HA
  go_upto_region 4 with (fail)
  obtain ⟨z0, z1⟩ := and_nn nn 65535 (by omega) (by omega)
  generalize bits .and .i64 nn 65535 = z at *
  have hofs := offs_le HLay.out M.length (Nat.le_refl _)
  have hplen : (pagesAll z (M.map Pk.bytes)).length = offs (M.map Pk.bytes) M.length := by rw [offs_all, List.length_map]
  have hSE : splitE M z = 0 := by
    rw [splitE, if_neg (by omega), layBad_none HLay.out, if_neg (by omega), if_neg]
    rw [hplen]
    omega
  have hSP : splitP M z = pagesAll z (M.map Pk.bytes) := by rw [splitP, if_pos hSE]
  have HS := split_any (c := c3) hr3 (by omega) z (by omega) (by omega)
  rw [hSE, hSP] at HS
  have HPg := Lib.hid (fun (n j : Nat) (hn : n < M.length) (hj : j < nPages (M[n]).bytes) => (show ∃ h9 : offs (M.map Pk.bytes) n + j < (pagesAll z (M.map Pk.bytes)).length, (pagesAll z (M.map Pk.bytes))[offs (M.map Pk.bytes) n + j] = pageAt (M[n]).bytes (z + offs (M.map Pk.bytes) n) j from by
    have h := page_atf z (bs := M.map Pk.bytes) (n := n) (j := j) (by rw [List.length_map]; exact hn) (by rw [map_get hn]; exact hj)
    rw [map_get hn] at h
    exact h))
  have HPut := Lib.hid (fun (n j : Nat) (hn : n < M.length) (hj : j < nPages (M[n]).bytes) (h1 : z + offs (M.map Pk.bytes) n + j ≤ 2147483647) => put_at HLay.out z0 hn hj h1)
  have HNx := Lib.hid (fun (n : Nat) (hn : n < M.length) => (show offs (M.map Pk.bytes) (n + 1) = offs (M.map Pk.bytes) n + nPages (M[n]).bytes from by rw [offs_succ (by rw [List.length_map]; exact hn), map_get hn]))
  have HPos := Lib.hid (fun (n : Nat) (hn : n < M.length) => nPages_pos M[n])
  generalize hps : pagesAll z (M.map Pk.bytes) = ps at *
  replace HS := Lib.hid HS
  replace hplen := Lib.hid hplen
  have hp9 : ps.length ≤ 7308 := by have := hplen.out; omega
  clear hSE hSP hps hofs
  go_upto_region 5 with (first
    | (go_at_call 29; (with_reducible refine HS.out.mono ?_); rintro e w4 ⟨v4, rfl, ho4, hb4⟩; obtain ⟨A4, c4, rfl, hc4, hr4⟩ := ho4.reads PgR.good (S := fun b => b < w4.heap.size) (fun b _ hl => hl)))
  have hr24 := (hr2'.below LpR.good hb4).weak LpR.good (S' := fun b => b < w4.heap.size) (fun b hb _ => Nat.lt_of_lt_of_le hb hb4.size)
  have bb4 := below_then bb3 hb4
  have HN := Lib.hid (jnew_any z (by omega) (by omega) w4)
  clear ho4 hr2' hr3 hb4 bb3 HS
  go_upto_region 8 with (first
    | (go_at_call 30; (with_reducible refine HN.out.mono ?_); rintro e w5 ⟨rfl, hj5, hb5⟩))
  rw [show max z 0 = z by omega] at hj5
  have hmk := run_make_lps w5 ls.length (by omega)
  have b6 := below_alloc (Below.refl w5.heap.size w5) (.cells (Array.replicate ls.length (Value.slice none 0 0)) 49)
  have k6 := Blk.new w5 49 (Array.replicate ls.length (Value.slice none 0 0))
  have hs6 : (w5.alloc (.cells (Array.replicate ls.length (Value.slice none 0 0)) 49)).heap.size = w5.heap.size + 1 := by simp
  go_upto_region 9 with (fail)
  clear hmk
  generalize w5.alloc (.cells (Array.replicate ls.length (Value.slice none 0 0)) 49) = w6 at *
  have hgj5 := hj5.lt
  rw [show Array.replicate ls.length (Value.slice none 0 0) = (List.replicate ls.length (Value.slice none 0 0)).toArray by simp] at k6
  have hW6 := WpM.start (B := w4.heap.size) (hj5.below b6) k6 ⟨by omega, by simp⟩ ⟨by omega, by omega, by omega⟩
  have hb46 := below_then hb5 b6
  have HLs := Lib.hid (fun W (h : Below w4.heap.size w4 W) => hr24.below LpR.good h)
  have HPs := Lib.hid (fun W (h : Below w4.heap.size w4 W) => hr4.below PgR.good h)
  have HBB := Lib.hid bb4
  have hw04 := bb4.size
  have h45 := hb5.size
  clear hj5 hb5 b6 k6 hr24 hr4 bb4 hs6 HN
  go_wp2_with (fail)
  have HW0 := Lib.hid hW6
  clear hW6
  go_loopw [13] (fun iv wr => ∃ (n j : Nat) (ob : Option Nat) (vs : List Value) (G : Nat → Prop), iv = .int .i64 ((offs (M.map Pk.bytes) n + j : Nat) : Int) ∧ n ≤ M.length ∧ (∀ h : n < M.length, j < nPages (M[n]).bytes) ∧ (n = M.length → j = 0) ∧
      WpM wr w4.heap.size w5.heap.size w4.heap.size ob (jsAt z (M.map Pk.bytes) n j) vs (outOf ls.length (M.take n)) G ∧ Below w4.heap.size w4 wr) (fun iv _ => ps.length - (intOf iv).toNat)
  case atStart => exact ⟨0, 0, none, _, _, by rw [offs_zero]; rfl, Nat.zero_le _, fun h => HPos.out 0 h, fun _ => rfl, by rw [jsAt_zero, offs_zero, List.take_zero, outOf_nil]; simpa using HW0.out, hb46⟩
  case round =>
    clear HW0 hb46
    obtain ⟨n, j, ob, vs, G, rfl, hn, hjn, hj0, hW, hb⟩ := hrel
    by_cases hnl : n < M.length
    · have hj := hjn hnl
      obtain ⟨hpl, hpg⟩ := HPg.out n j hnl hj
      have hnx := HNx.out n hnl
      have hpe := HPut.out n j hnl hj (by omega)
      rw [← hpg] at hpe
      clear hpg hj0 hjn
      obtain ⟨i, hi⟩ : ∃ i, offs (M.map Pk.bytes) n + j = i := ⟨_, rfl⟩
      simp only [hi] at hpl hpe
      rw [hi]
      obtain ⟨ap, pa, Ap, cp, rfl, hpb, hpa, x0, x1, x2, x3, x4, hcp, hrp, hwp⟩ := RdPg.at_ (HPs.out wr hb) hpl
      have hob := hW.jn.own
      have HJ := jput_any hW.jn (by simp [jsAt]) (by have h9 := layOk_len (HLay.out _ (List.getElem_mem hnl)); have h8 := bytes_len M[n]; simp only [jsAt, List.length_take, List.getD_eq_getElem?_getD, List.getElem?_map, List.getElem?_eq_getElem hnl, Option.map_some, Option.getD_some]; omega) ps[i] Ap cp hwp hrp (fun b hb9 _ => ⟨by have h8 : b < w4.heap.size := hb9; omega, fun e => by have h8 : b < w4.heap.size := hb9; have := (hob b e).1; omega⟩) hcp
      rw [hpe] at HJ
      unfold PutPost at HJ
      generalize ps[i] = pg at *
      obtain ⟨p1, p2, p3, p4, p5⟩ := pg
      simp only at x0 x1 x2 x3 x4
      simp only [Pg.val] at HJ
      have HWr := Lib.hid hW
      have hsw := hb.size
      have hgjl := hW.jn.lt
      have hgl := hW.blk.lt
      have hlt9 := fun (j : Nat) (hj : j < (outOf ls.length (M.take n)).length) b (h : (vAt vs j).ownBlock = some b) => ((hW.own j hj).own_ge b h).2
      replace hlt9 := Lib.hid hlt9
      have HOb := Lib.hid hob
      by_cases hj1 : j + 1 < nPages (M[n]).bytes
      · rw [if_pos hj1] at HJ
        simp only [List.length_nil] at HJ
        replace HJ := Lib.hid HJ
        have HHi := Lib.hid hi
        clear hpe hrp hwp hcp hW hi hob hnx
        go_upto_region 13 with (first
          | (go_at_call 31; (with_reducible refine HJ.out.mono ?_); rintro e w9 ⟨A9, c9, A10, c10, ob', rfl, hc9, hc10, hj9, hx9, hh9, hm9, hob9⟩))
        have hW9 := HWr.out.put hj9 hm9 hob9
        have hb9 := hb.trans (hm9.below hsw (fun b hb => by rcases hb with rfl | hb; exact Nat.le_refl _; have := (HOb.out b hb).1; omega))
        clear hx9 hh9 hj9 hm9 hob9 HJ x0 x1 x2 x3 x4
        go_wp2_with (fail)
        go_loopw [16] (fun kv wr2 => kv = .int .i64 0 ∧ w9 = wr2) (fun _ _ => 0)
        case atStart => exact ⟨rfl, rfl⟩
        case round =>
          obtain ⟨rfl, rfl⟩ := hrel
          go_wp2_with (fail)
          go_roundw
          case rel => exact ⟨n, j + 1, ob', vs, G, by have := HHi.out; simp; omega, by omega, fun _ => hj1, fun h => by omega, hW9, hb9⟩
          case measure => have := HHi.out; simp [intOf]; omega
      · rw [if_neg hj1] at HJ
        simp only [List.length_cons, List.length_nil, Nat.zero_add] at HJ
        obtain ⟨s, hs, hst⟩ := HSt7.out M[n] (List.getElem_mem hnl)
        have hstep := outOf_step (n := ls.length) (i := n) hnl hst hs
        have hnx1 : offs (M.map Pk.bytes) (n + 1) = i + 1 := by omega
        generalize hq : M[n] = q at *
        obtain ⟨q1, q2, q3, q4, q5, q6⟩ := q
        simp only at hst
        subst hst
        replace HJ := Lib.hid HJ
        replace hnx1 := Lib.hid hnx1
        have HStep := Lib.hid hstep
        have hpos2 : ∀ h : n + 1 < M.length, 0 < nPages (M[n + 1]).bytes := fun h => HPos.out _ h
        replace hpos2 := Lib.hid hpos2
        have HHq := Lib.hid hq
        clear hpe hrp hwp hcp hW hi hob hnx hstep hj1 hj hq
        go_upto_region 13 with (first
          | (go_at_call 31; (with_reducible refine HJ.out.mono ?_); rintro e w9 ⟨A9, c9, A10, c10, ob', rfl, hc9, hc10, hj9, hx9, hh9, hm9, hob9⟩))
        have hW9 := HWr.out.put hj9 hm9 hob9
        have hb9 := hb.trans (hm9.below hsw (fun b hb => by rcases hb with rfl | hb; exact Nat.le_refl _; have := (HOb.out b hb).1; omega))
        have hs9 := hm9.size
        obtain ⟨ax, px, Aq, cq, rfl, hSx, hpx, y0, y1, y2, y3, y4, y5, hcq, hrq, hwq⟩ := RdPk.at_ hx9 (j := 0) (by simp)
        simp only [List.getElem_cons_zero] at y0 y1 y2 y3 y4 y5 hcq hrq hwq
        clear hx9 hh9 hj9 hm9 hob9 HJ x0 x1 x2 x3 x4
        go_wp2_with (fail)
        go_loopw [16] (fun kv wr2 => (kv = .int .i64 0 ∧ w9 = wr2) ∨ (kv = .int .i64 1 ∧ ∃ vs' G', WpM wr2 w4.heap.size w5.heap.size w4.heap.size ob' (jsAt z (M.map Pk.bytes) (n + 1) 0) vs' (outOf ls.length (M.take (n + 1))) G' ∧ Below w4.heap.size w4 wr2)) (fun kv _ => 1 - (intOf kv).toNat)
        case atStart => exact .inl ⟨rfl, rfl⟩
        case round =>
          rcases hrel with ⟨rfl, rfl⟩ | ⟨rfl, vs', G', hW', hb'⟩
          · have hsl : s < (outOf ls.length (M.take n)).length := by rw [outOf_len]; exact hs
            obtain ⟨Ao, co, hvo, hco, zo, fo, hro⟩ := hW9.at_ hsl
            have hown := hW9.own s hsl
            rw [hvo] at hown
            have hLl : ((outOf ls.length (M.take n)).getD s []).length ≤ 28 := by
              rw [outOf_at hs]
              exact Nat.le_trans (List.length_filter_le _ _) (by rw [List.length_take]; omega)
            generalize hLd : (outOf ls.length (M.take n)).getD s [] = L at *
            have HLd := Lib.hid hLd
            have HW9 := Lib.hid hW9
            have hown9 := Lib.hid hown
            have hcq9 := Lib.hid hcq
            have hrq9 := Lib.hid hrq
            have hwq9 := Lib.hid hwq
            have hvo9 := Lib.hid hvo
            have hpx9 := Lib.hid hpx
            have hSx9 := Lib.hid hSx
            have g1 : decide ((s : Int) < 0) = false := decide_eq_false (by omega)
            have g2 : decide (ls.length ≤ s) = false := decide_eq_false (by omega)
            have g2' : decide ((ls.length : Int) ≤ (s : Int)) = false := decide_eq_false (by omega)
            clear hLd hro hsl hcq hrq hwq hown hW9 hvo hco hSx
            go_upto_region 18 with (fail)
            refine wp_region_last (S := (fun w' => w'.cell? ⟨w5.heap.size, s, none⟩ = some (.slice Ao L.length co) ∧ w'.cell? px = some (.int .i64 (s : Int)) ∧ w'.cell? ⟨px.block, px.off + 1, none⟩ = some (.int .i64 q2) ∧ w'.cell? ⟨px.block, px.off + 2, none⟩ = some (.int .i64 q3) ∧ w'.cell? ⟨px.block, px.off + 3, none⟩ = some (.bool q4) ∧ w'.cell? ⟨px.block, px.off + 4, none⟩ = some (.bool q5) ∧ w'.cell? ⟨px.block, px.off + 5, none⟩ = some (.slice Aq q6.length cq))) 21 _ (by simp only [List.pop_toArray, List.dropLast_cons_cons, List.dropLast_singleton]; rfl) (by kernel_rfl) (by kernel_rfl) (by kernel_rfl) (by kernel_rfl) (by kernel_rfl) ?_ (fun hHeld => ?_)
            focus exact ⟨zo, y0, y1, y2, y3, y4, y5⟩
            refine wpAnyH_take (i := 0) (v := ?_) rfl (by kernel_rfl) (by kernel_rfl) (by kernel_rfl) (fun _ _ _ h => h) (Or.inl ⟨by kernel_rfl, ?_⟩) (by assumption) ?_
            rotate_left
            focus
              intro w9 hSw
              (try dsimp only at hSw)
              go_simp
              (try with_reducible rfl)
            (try simp only [Act.put, List.getElem_toArray, List.getElem_cons_succ, List.getElem_cons_zero, List.setIfInBounds_toArray, List.set_cons_zero, List.set_cons_succ])
            refine wpAnyH_take (i := 1) (v := ?_) rfl (by kernel_rfl) (by kernel_rfl) (by kernel_rfl) (fun _ _ _ h => h) (Or.inl ⟨by kernel_rfl, ?_⟩) (by assumption) ?_
            rotate_left
            focus
              intro w9 hSw
              (try dsimp only at hSw)
              go_simp
              (try with_reducible rfl)
            (try simp only [Act.put, List.getElem_toArray, List.getElem_cons_succ, List.getElem_cons_zero, List.setIfInBounds_toArray, List.set_cons_zero, List.set_cons_succ])
            refine wpAnyH_take (i := 2) (v := ?_) rfl (by kernel_rfl) (by kernel_rfl) (by kernel_rfl) (fun _ _ _ h => h) (Or.inl ⟨by kernel_rfl, ?_⟩) (by assumption) ?_
            rotate_left
            focus
              intro w9 hSw
              (try dsimp only at hSw)
              go_simp
              (try with_reducible rfl)
            (try simp only [Act.put, List.getElem_toArray, List.getElem_cons_succ, List.getElem_cons_zero, List.setIfInBounds_toArray, List.set_cons_zero, List.set_cons_succ])
            refine wpAnyH_take (i := 3) (v := ?_) rfl (by kernel_rfl) (by kernel_rfl) (by kernel_rfl) (fun _ _ _ h => h) (Or.inl ⟨by kernel_rfl, ?_⟩) (by assumption) ?_
            rotate_left
            focus
              intro w9 hSw
              (try dsimp only at hSw)
              go_simp
              (try with_reducible rfl)
            (try simp only [Act.put, List.getElem_toArray, List.getElem_cons_succ, List.getElem_cons_zero, List.setIfInBounds_toArray, List.set_cons_zero, List.set_cons_succ])
            refine wpAnyH_take (i := 4) (v := ?_) rfl (by kernel_rfl) (by kernel_rfl) (by kernel_rfl) (fun _ _ _ h => h) (Or.inl ⟨by kernel_rfl, ?_⟩) (by assumption) ?_
            rotate_left
            focus
              intro w9 hSw
              (try dsimp only at hSw)
              go_simp
              (try with_reducible rfl)
            (try simp only [Act.put, List.getElem_toArray, List.getElem_cons_succ, List.getElem_cons_zero, List.setIfInBounds_toArray, List.set_cons_zero, List.set_cons_succ])
            refine wpAnyH_take (i := 5) (v := ?_) rfl (by kernel_rfl) (by kernel_rfl) (by kernel_rfl) (fun _ _ _ h => h) (Or.inl ⟨by kernel_rfl, ?_⟩) (by assumption) ?_
            rotate_left
            focus
              intro w9 hSw
              (try dsimp only at hSw)
              go_simp
              (try with_reducible rfl)
            (try simp only [Act.put, List.getElem_toArray, List.getElem_cons_succ, List.getElem_cons_zero, List.setIfInBounds_toArray, List.set_cons_zero, List.set_cons_succ])
            refine wpAnyH_take (i := 6) (v := ?_) rfl (by kernel_rfl) (by kernel_rfl) (by kernel_rfl) (fun _ _ _ h => h) (Or.inl ⟨by kernel_rfl, ?_⟩) (by assumption) ?_
            rotate_left
            focus
              intro w9 hSw
              (try dsimp only at hSw)
              go_simp
              (try with_reducible rfl)
            (try simp only [Act.put, List.getElem_toArray, List.getElem_cons_succ, List.getElem_cons_zero, List.setIfInBounds_toArray, List.set_cons_zero, List.set_cons_succ])
            refine wpAnyH_take (i := 7) (v := ?_) rfl (by kernel_rfl) (by kernel_rfl) (by kernel_rfl) (fun _ _ _ h => h) (Or.inl ⟨by kernel_rfl, ?_⟩) (by assumption) ?_
            rotate_left
            focus
              intro w9 hSw
              (try dsimp only at hSw)
              go_simp
              (try with_reducible rfl)
            (try simp only [Act.put, List.getElem_toArray, List.getElem_cons_succ, List.getElem_cons_zero, List.setIfInBounds_toArray, List.set_cons_zero, List.set_cons_succ])
            refine wpAnyH_take (i := 8) (v := ?_) rfl (by kernel_rfl) (by kernel_rfl) (by kernel_rfl) (fun _ _ _ h => h) (Or.inl ⟨by kernel_rfl, ?_⟩) (by assumption) ?_
            rotate_left
            focus
              intro w9 hSw
              (try dsimp only at hSw)
              go_simp
              (try with_reducible rfl)
            (try simp only [Act.put, List.getElem_toArray, List.getElem_cons_succ, List.getElem_cons_zero, List.setIfInBounds_toArray, List.set_cons_zero, List.set_cons_succ])
            refine wpAnyH_take (i := 9) (v := ?_) rfl (by kernel_rfl) (by kernel_rfl) (by kernel_rfl) (fun _ _ _ h => h) (Or.inl ⟨by kernel_rfl, ?_⟩) (by assumption) ?_
            rotate_left
            focus
              intro w9 hSw
              (try dsimp only at hSw)
              go_simp
              (try with_reducible rfl)
            (try simp only [Act.put, List.getElem_toArray, List.getElem_cons_succ, List.getElem_cons_zero, List.setIfInBounds_toArray, List.set_cons_zero, List.set_cons_succ])
            refine wpAnyH_take (i := 10) (v := ?_) rfl (by kernel_rfl) (by kernel_rfl) (by kernel_rfl) (fun _ _ _ h => h) (Or.inl ⟨by kernel_rfl, ?_⟩) (by assumption) ?_
            rotate_left
            focus
              intro w9 hSw
              (try dsimp only at hSw)
              go_simp
              (try with_reducible rfl)
            (try simp only [Act.put, List.getElem_toArray, List.getElem_cons_succ, List.getElem_cons_zero, List.setIfInBounds_toArray, List.set_cons_zero, List.set_cons_succ])
            refine wpAnyH_take (i := 11) (v := ?_) rfl (by kernel_rfl) (by kernel_rfl) (by kernel_rfl) (fun _ _ _ h => h) (Or.inl ⟨by kernel_rfl, ?_⟩) (by assumption) ?_
            rotate_left
            focus
              intro w9 hSw
              (try dsimp only at hSw)
              go_simp
              (try with_reducible rfl)
            (try simp only [Act.put, List.getElem_toArray, List.getElem_cons_succ, List.getElem_cons_zero, List.setIfInBounds_toArray, List.set_cons_zero, List.set_cons_succ])
            refine wpAnyH_take (i := 12) (v := ?_) rfl (by kernel_rfl) (by kernel_rfl) (by kernel_rfl) (fun _ _ _ h => h) (Or.inl ⟨by kernel_rfl, ?_⟩) (by assumption) ?_
            rotate_left
            focus
              intro w9 hSw
              (try dsimp only at hSw)
              go_simp
              (try with_reducible rfl)
            (try simp only [Act.put, List.getElem_toArray, List.getElem_cons_succ, List.getElem_cons_zero, List.setIfInBounds_toArray, List.set_cons_zero, List.set_cons_succ])
            refine wpAnyH_take (i := 13) (v := ?_) rfl (by kernel_rfl) (by kernel_rfl) (by kernel_rfl) (fun _ _ _ h => h) (Or.inl ⟨by kernel_rfl, ?_⟩) (by assumption) ?_
            rotate_left
            focus
              intro w9 hSw
              (try dsimp only at hSw)
              go_simp
              (try with_reducible rfl)
            (try simp only [Act.put, List.getElem_toArray, List.getElem_cons_succ, List.getElem_cons_zero, List.setIfInBounds_toArray, List.set_cons_zero, List.set_cons_succ])
            refine wpAnyH_take (i := 14) (v := ?_) rfl (by kernel_rfl) (by kernel_rfl) (by kernel_rfl) (fun _ _ _ h => h) (Or.inl ⟨by kernel_rfl, ?_⟩) (by assumption) ?_
            rotate_left
            focus
              intro w9 hSw
              (try dsimp only at hSw)
              go_simp
              (try with_reducible rfl)
            (try simp only [Act.put, List.getElem_toArray, List.getElem_cons_succ, List.getElem_cons_zero, List.setIfInBounds_toArray, List.set_cons_zero, List.set_cons_succ])
            refine wpAnyH_take (i := 15) (v := ?_) rfl (by kernel_rfl) (by kernel_rfl) (by kernel_rfl) (fun _ _ _ h => h) (Or.inl ⟨by kernel_rfl, ?_⟩) (by assumption) ?_
            rotate_left
            focus
              intro w9 hSw
              (try dsimp only at hSw)
              go_simp
              (try with_reducible rfl)
            (try simp only [Act.put, List.getElem_toArray, List.getElem_cons_succ, List.getElem_cons_zero, List.setIfInBounds_toArray, List.set_cons_zero, List.set_cons_succ])
            refine wpAnyH_take (i := 16) (v := ?_) rfl (by kernel_rfl) (by kernel_rfl) (by kernel_rfl) (fun _ _ _ h => h) (Or.inl ⟨by kernel_rfl, ?_⟩) (by assumption) ?_
            rotate_left
            focus
              intro w9 hSw
              (try dsimp only at hSw)
              go_simp
              (try with_reducible rfl)
            (try simp only [Act.put, List.getElem_toArray, List.getElem_cons_succ, List.getElem_cons_zero, List.setIfInBounds_toArray, List.set_cons_zero, List.set_cons_succ])
            refine wpAnyH_take (i := 17) (v := ?_) rfl (by kernel_rfl) (by kernel_rfl) (by kernel_rfl) (fun _ _ _ h => h) (Or.inl ⟨by kernel_rfl, ?_⟩) (by assumption) ?_
            rotate_left
            focus
              intro w9 hSw
              (try dsimp only at hSw)
              go_simp
              (try with_reducible rfl)
            (try simp only [Act.put, List.getElem_toArray, List.getElem_cons_succ, List.getElem_cons_zero, List.setIfInBounds_toArray, List.set_cons_zero, List.set_cons_succ])
            refine wpAnyH_ready (rs := [18]) (by kernel_rfl) (by simp) (AllReadyH.cons rfl (fun K hK => ?_) AllReadyH.nil)
            go_simp
            have bl1 : Below w9.heap.size w9 (w9.drew.alloc (.cells #[.int .i64 (s : Int), .int .i64 q2, .int .i64 q3, .bool q4, .bool q5, .slice Aq q6.length cq] 40)) := below_alloc (Below.refl _ _).drew _
            have up1 : ∀ {a9 : Addr} {v9 : Value}, w9.cell? a9 = some v9 → (w9.drew.alloc (.cells #[.int .i64 (s : Int), .int .i64 q2, .int .i64 q3, .bool q4, .bool q5, .slice Aq q6.length cq] 40)).cell? a9 = some v9 := fun {a9} {v9} h => (bl1.cell (World.block_lt_of_cell? w9 a9 h)).trans h
            refine hK.out _ _ ?_ (fun hHeld => ?_)
            focus exact ⟨up1 zo, up1 y0, up1 y1, up1 y2, up1 y3, up1 y4, up1 y5⟩
            clear hK K
            (try simp only [Act.put, List.getElem_toArray, List.getElem_cons_succ, List.getElem_cons_zero, List.setIfInBounds_toArray, List.set_cons_zero, List.set_cons_succ])
            refine wpAnyH_ready (rs := [19]) (by kernel_rfl) (by simp) (AllReadyH.cons rfl (fun K hK => ?_) AllReadyH.nil)
            have hlts := HW9.out.own s (by rw [outOf_len]; exact hs)
            have hltw : ∀ b, (Value.slice Ao L.length co).ownBlock = some b → b < wr.heap.size := fun b hb => hlt9.out s (by rw [outOf_len]; exact hs) b (by rw [hvo9.out]; exact hb)
            refine step_push_G (by rfl) (.tmp 99) (.tmp 104) _ (by rfl) PkR.good w9.drew (.agg #[.int .i64 0, .int .i64 0, .int .i64 0, .bool false, .bool false, .slice none 0 0]) 56 Try.underlying49 info_pk (by rfl) (by omega) (by rfl) (by exact hown9.out) (fun b => wr.heap.size ≤ b ∧ ob' ≠ some b) _ 1 [.int .i64 (s : Int), .int .i64 q2, .int .i64 q3, .bool q4, .bool q5, .slice Aq q6.length cq] ⟨(s : Int), q2, q3, q4, q5, q6⟩ (by rfl) (by rfl) (show PkR _ _ _ _ from ⟨Aq, cq, rfl, hcq9.out, hrq9.out, hwq9.out⟩) (fun b => (G b ∨ (wr.heap.size ≤ b ∧ ob' ≠ some b ∧ b < w9.heap.size)) ∨ b = w9.heap.size) (fun b hb _ => .inl (.inl hb)) (fun b hb hl => .inl (.inr ⟨hb.1, hb.2, hl⟩)) (fun b hb h => by have := hltw b hb; have h8 := h.1; omega) (fun b hb => by
                rcases hb with (hb | hb) | hb
                · exact Nat.le_of_lt (HW9.out.G_ b hb).1
                · exact Nat.le_of_lt hb.2.2
                · exact Nat.le_of_eq hb) (.inr rfl) (by omega) (by exact hb9.size) ?_
            intro v5 w10 ow5 hg5 hv5
            obtain ⟨A5, c5_, hv5e, _, _⟩ := ow5.form PkR.good
            rw [List.length_append, List.length_singleton] at hv5e
            subst hv5e
            have hv5' : (Value.slice A5 (L.length + 1) c5_).ownBlock = (Value.slice Ao L.length co).ownBlock ∨ (Value.slice A5 (L.length + 1) c5_).ownBlock = some (w9.heap.size + 1) := hv5
            clear hv5
            have hM5 : Mod (fun b => (vAt vs s).ownBlock = some b) w9 w10 := (Mod.of_fresh bl1).then_ (Mod.of_grown hg5 (fun x e _ => by rw [hvo9.out]; exact e))
            have hs10 : w9.heap.size < w10.heap.size := by have := hg5.size; simp at this; omega
            have hn1 : ¬ (vAt vs s).ownBlock = some w5.heap.size := fun e => (HW9.out.ne s (by rw [outOf_len]; exact hs) _ e).1 rfl
            have hn2 : ¬ (vAt vs s).ownBlock = some px.block := fun e => by have h8 := hlt9.out s (by rw [outOf_len]; exact hs) _ e; have h9 := hSx9.out.1; omega
            have zo2 := hM5.cell zo hn1
            have e0 := hM5.cell y0 hn2
            have e1 := hM5.cell y1 hn2
            have e2 := hM5.cell y2 hn2
            have e3 := hM5.cell y3 hn2
            have e4 := hM5.cell y4 hn2
            have e5 := hM5.cell y5 hn2
            refine hK.out _ _ ?_ (fun hHeld => ?_)
            focus exact ⟨zo2, e0, e1, e2, e3, e4, e5⟩
            clear hK K
            (try simp only [Act.put, List.getElem_toArray, List.getElem_cons_succ, List.getElem_cons_zero, List.setIfInBounds_toArray, List.set_cons_zero, List.set_cons_succ])
            refine wpAnyH_take (i := 20) (v := ?_) rfl (by kernel_rfl) (by kernel_rfl) (by kernel_rfl) (fun _ _ _ h => h) (Or.inl ⟨by kernel_rfl, ?_⟩) (by assumption) ?_
            rotate_left
            focus
              intro w9 hSw
              (try dsimp only at hSw)
              go_simp
              (try with_reducible rfl)
            (try simp only [Act.put, List.getElem_toArray, List.getElem_cons_succ, List.getElem_cons_zero, List.setIfInBounds_toArray, List.set_cons_zero, List.set_cons_succ])
            have f2 := (hM5.frozen HW9.out.blk.lt hn1).trans fo
            refine wpAnyH_done (by kernel_rfl) (lastQ_step rfl (fun K hK => ?_)) _
            go_simp
            refine hK _ _ ?_
            clear hK K
            have hW10 := HW9.out.push (j := s) (by rw [outOf_len]; exact hs) hM5 ow5 (fun b hb => by
                rcases hv5' with e | e
                · exact .inl (by rw [hvo9.out, ← e]; exact hb)
                · rw [e] at hb
                  injection hb with hb
                  have hb1 : w9.heap.size + 1 = b := hb
                  exact .inr ⟨by omega, fun h => by
                    rcases h with (h | h) | h
                    · have := (HW9.out.G_ b h).1; omega
                    · have := h.2.2; omega
                    · omega⟩) (fun b hb => .inl (.inl hb)) (fun b hb => by
                have hgl9 := HW9.out.blk.lt
                have hgj9 := HW9.out.jn.lt
                rcases hb with (hb | hb) | hb
                · obtain ⟨a1, a2, a3, a4⟩ := HW9.out.G_ b hb
                  exact ⟨by omega, a2, a3, a4, fun i hi e => (HW9.out.ne i hi b e).2.2.2 hb⟩
                · exact ⟨by omega, by omega, by omega, hb.2.1, fun i hi e => by have h8 := hlt9.out i hi b e; have h9 := hb.1; omega⟩
                · exact ⟨by omega, by omega, by omega, fun e => by have := (HW9.out.jn.own b e).2; omega, fun i hi e => by have := ((HW9.out.own i hi).own_ge b e).2; omega⟩)
            rw [← HStep.out] at hW10
            have hb10 := below_put (g := w5.heap.size) (off := s) (u := .slice A5 (L.length + 1) c5_) (hb9.trans (hM5.below hb9.size (fun b hb => by have := ((HW9.out.own s (by rw [outOf_len]; exact hs)).own_ge b hb).1; omega))) h45
            generalize w10.setCell ⟨w5.heap.size, s, none⟩ (.slice A5 (L.length + 1) c5_) = w11 at *
            clear f2 e0 e1 e2 e3 e4 e5 zo2 y0 y1 y2 y3 y4 y5 zo fo up1 bl1 hM5 ow5 hg5 hHeld hv5' hlts hltw
            go_wp2_with (fail)
            go_roundw
            case rel => exact .inr ⟨rfl, _, _, hW10, hb10⟩
            case measure => simp [intOf]
          · go_wp2_with (fail)
            go_roundw
            case rel => exact ⟨n + 1, 0, ob', vs', G', by have := hnx1.out; simp; omega, by omega, fun h => hpos2.out h, fun _ => rfl, hW', hb'⟩
            case measure => simp [intOf]; omega
    · obtain rfl : n = M.length := by omega
      obtain rfl : j = 0 := hj0 rfl
      rw [List.take_length, HOut.out] at hW
      rw [jsAt_zero] at hW
      have HWr := Lib.hid hW
      have hpl0 : offs (M.map Pk.bytes) M.length + 0 = ps.length := by rw [hplen.out]; omega
      rw [hpl0]
      have HJn := hW.jn
      have HBr := Lib.hid (fun W (h : Below wr.heap.size wr W) => jbroken_any (HJn.below h))
      have HNe := Lib.hid (fun W (h : Below wr.heap.size wr W) => jnext_any (HJn.below h))
      have hofz : z + ((offs (M.map Pk.bytes) M.length : Nat) : Int) = z + (ps.length : Int) := by omega
      rw [hofz] at HNe
      clear hjn hj0 hW hpl0 hofz HJn
      go_wp2_with (fail)
      go_loopw [17] (fun iv wr2 => ∃ i : Nat, i ≤ ls.length ∧ iv = .int .i64 (i : Int) ∧ Below wr.heap.size wr wr2) (fun iv _ => ls.length - (intOf iv).toNat)
      case atStart => exact ⟨0, Nat.zero_le _, rfl, Below.refl _ _⟩
      case round =>
        obtain ⟨i, hi, rfl, hb2⟩ := hrel
        by_cases hil : i < ls.length
        · have hW2 := HWr.out.fresh hb2
          obtain ⟨Ao, co, hvo, hco, zo, fo, hro⟩ := hW2.at_ hil
          obtain ⟨al, Aj, cj, hA2, _, zh, hcj, hrj, hlj⟩ := RdLp.at_ (HLs.out _ (hb.trans (hb2.mono hb.size))) hil
          subst hA2
          rw [getD_rs hil] at hco zo hro
          have hl7 := HLi.out i hil
          rw [getD_rs hil] at hl7
          generalize ls[i] = li at *
          have HSm := Lib.hid (fun W (h : Below wr.heap.size wr W) => samepks_any (w := W) co cj (hro.below PkR.good h) (hrj.below PkR.good h) (by omega) (by omega))
          simp only [decide_true] at HSm
          clear hW2 hro hrj hvo
          go_wp2_with (fail)
          refine wp_still_tail 8 (by kernel_rfl) (by kernel_rfl) ?_
          simp only [List.take_succ_cons, List.take_zero, List.drop_succ_cons, List.drop_zero]
          repeat still_step
          refine wpStill_nil ?_
          go_wp2_with (first
            | (go_at_call 27; (with_reducible refine (HSm.out _ (by repeat (first | exact Below.refl _ _ | assumption | refine Below.drew ?_ | refine below_drewN ?_ _ | refine below_alloc ?_ _))).mono ?_); rintro e w12 ⟨rfl, hb12⟩))
          go_roundw
          case rel => exact ⟨i + 1, by omega, by go_num, hb2.trans ((below_undr hb12).mono hb2.size)⟩
          case measure => simp [intOf]; omega
        · have hie : i = ls.length := by omega
          subst hie
          go_wp2_with (first
            | (go_at_call 32; (with_reducible refine (HBr.out _ hb2).mono ?_); rintro e w13 ⟨rfl, rfl⟩)
            | (go_at_call 33; (with_reducible refine (HNe.out _ hb2).mono ?_); rintro e w14 ⟨rfl, rfl⟩)
            | (go_at_call 15; (with_reducible refine (HK.out _).mono ?_); rintro e w15 ⟨rfl, hb15⟩))
          go_ret
          exact ⟨rfl, below_then ((HBB.out.trans (hb.mono hw04)).trans (hb2.mono (Nat.le_trans hw04 hb.size))) hb15⟩
end Go.Proofs.Ytnflhogjonlnmaa.weavePages
