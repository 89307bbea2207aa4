/- WeaveBound, in memory: the law's two arrays beside the Weaver. -/
import Derived.Test.YtnflhogjonlnmaaWvN
import Derived.Test.YtnflhogjonlnmaaWvBdL
import Derived.Test.YtnflhogjonlnmaaOwnO
import Derived.Test.YtnflhogjonlnmaaTapeN
set_option linter.unusedSimpArgs false
set_option linter.unusedVariables false
namespace Go.Proofs.Ytnflhogjonlnmaa
open Go.RowKit

/-- More blocks are safe: those laid since. -/
def More (X : Nat → Prop) (a b : Nat) (n : Nat) : Prop := X n ∨ (a ≤ n ∧ n < b)
theorem WvN.grow {w0 w w' : World} {X : Nat → Prop} {g : Nat} {s : Wv} (h : WvN w0 X w g s) (hm : Mod X w w') : WvN w0 (More X w.heap.size w'.heap.size) w' g s := by
  have hk := h.keepX hm
  obtain ⟨F, D, h, hF, hD, hX⟩ := h
  refine ⟨F, D, h.keep hm (fun b hb => (hF b hb).2) hD, fun b hb' => ⟨(hF b hb').1, fun hx => ?_⟩, fun b hb' hx => ?_, fun b hb' => ?_⟩
  · rcases hx with hx | hx
    · exact (hF b hb').2 hx
    · have := h.Flt b hb'; omega
  · rcases hx with hx | hx
    · exact hD b hb' hx
    · have := (h.Dlt b hb').1; omega
  · rcases hb' with hb' | hb'
    · exact Nat.lt_of_lt_of_le (hX b hb') hm.size
    · exact hb'.2
theorem WvN.X_lt {w0 w : World} {X : Nat → Prop} {g : Nat} {s : Wv} (h : WvN w0 X w g s) : ∀ b, X b → b < w.heap.size := by obtain ⟨_, _, _, _, _, h⟩ := h; exact h
theorem TapeB.mod {w w' : World} {B g : Nat} {M : Nat → Prop} (h : TapeB w B g) (hm : Mod M w w') (hn : ¬ M g) (hB : ∀ b, M b → B ≤ b) : TapeB w' B g := by
  have hlt := h.lt
  obtain ⟨A, l, c, at_, h1, h2, h3, h4, h5, h6, h7⟩ := h
  exact ⟨A, l, c, at_, h1.mod hm hn, h2, h3, h4, h5.below (hm.below (B := B) (by omega) hB) (Nat.le_refl _), h6, h7⟩
structure BdM (w0 w : World) (X : Nat → Prop) (kt gw gl gv : Nat) (s : Wv) (vs : List Value) (ws : List (List Int)) (ls : List Int) : Prop where
  hv : WvN w0 X w gv s
  vl : vs.length = 3
  wl : ws.length = 3
  ll : ls.length = 3
  bw : Blk w gw 43 vs.toArray
  bl : Blk w gl 44 (ic .i64 ls).toArray
  bt : TapeB w w0.heap.size kt
  own : ∀ j, j < 3 → OwnO w w0.heap.size 2 .i64 (vAt vs j) (ws.getD j [])
  inX : ∀ j, j < 3 → ∀ b, (vAt vs j).ownBlock = some b → X b ∧ b ≠ gw ∧ b ≠ gl ∧ b ≠ kt
  dis : ∀ i j, i < 3 → j < 3 → i ≠ j → ∀ b, (vAt vs i).ownBlock = some b → (vAt vs j).ownBlock ≠ some b
  X3 : X gw ∧ X gl ∧ X kt
  ne : gw ≠ gl ∧ gw ≠ kt ∧ gl ≠ kt
  ge : w0.heap.size ≤ gw ∧ w0.heap.size ≤ gl
/-- What of the old blocks the law's own steps may turn. -/
abbrev New (w0 : World) (b : Nat) : Prop := w0.heap.size ≤ b
section
variable {w0 w w1 : World} {X M : Nat → Prop} {kt gw gl gv : Nat} {s s' : Wv} {vs : List Value} {ws : List (List Int)} {ls : List Int}
theorem BdM.free (h : BdM w0 w X kt gw gl gv s vs ws ls) (hm : Mod (Free w0 X) w w1) (hv : WvN w0 X w1 gv s') : BdM w0 w1 X kt gw gl gv s' vs ws ls where
  hv := hv
  vl := h.vl
  wl := h.wl
  ll := h.ll
  bw := h.bw.mod hm (fun hf => hf.2 h.X3.1)
  bl := h.bl.mod hm (fun hf => hf.2 h.X3.2.1)
  bt := h.bt.mod hm (fun hf => hf.2 h.X3.2.2) (fun b hb => hb.1)
  own := fun j hj => (h.own j hj).keep fun g hg => hm.block g ((h.own j hj).lt g hg).2 (fun hf => hf.2 (h.inX j hj g hg).1)
  inX := h.inX
  dis := h.dis
  X3 := h.X3
  ne := h.ne
  ge := h.ge
theorem BdM.fresh (h : BdM w0 w X kt gw gl gv s vs ws ls) (hb : Below w.heap.size w w1) : BdM w0 w1 X kt gw gl gv s vs ws ls :=
  h.free ((Mod.of_fresh (M := fun _ => False) hb).mono (fun _ h _ => h.elim)) (h.hv.below hb)
theorem BdM.drewN (h : BdM w0 w X kt gw gl gv s vs ws ls) (n : Nat) : BdM w0 (w.drewN n) X kt gw gl gv s vs ws ls := h.fresh (below_drewN (Below.refl _ _) n)
/-- A block laid since, safe from the Weaver, and no block of the arrays. -/
theorem BdM.alloc (h : BdM w0 w X kt gw gl gv s vs ws ls) (hb : Below w.heap.size w w1) : BdM w0 w1 (More X w.heap.size w1.heap.size) kt gw gl gv s vs ws ls :=
  { h.fresh hb with
    hv := h.hv.grow (Mod.of_fresh hb)
    inX := fun j hj b hb => ⟨.inl (h.inX j hj b hb).1, (h.inX j hj b hb).2⟩
    X3 := ⟨.inl h.X3.1, .inl h.X3.2.1, .inl h.X3.2.2⟩ }
/-- A store elsewhere. -/
theorem BdM.far (h : BdM w0 w X kt gw gl gv s vs ws ls) {g : Nat} (hg : X g) (hge : w0.heap.size ≤ g) (hw : gw ≠ g ∧ gl ≠ g ∧ kt ≠ g) (ho : ∀ j, j < 3 → (vAt vs j).ownBlock ≠ some g) (hm : Mod (· = g) w w1) : BdM w0 w1 X kt gw gl gv s vs ws ls where
  hv := h.hv.keepX (hm.mono (fun b hb _ => by subst hb; exact hg))
  vl := h.vl
  wl := h.wl
  ll := h.ll
  bw := h.bw.mod hm hw.1
  bl := h.bl.mod hm hw.2.1
  bt := h.bt.mod hm hw.2.2 (fun b hb => by subst hb; exact hge)
  own := fun j hj => (h.own j hj).keep fun b hb => hm.block b ((h.own j hj).lt b hb).2 (fun hf => ho j hj (by rw [hb, hf]))
  inX := h.inX
  dis := h.dis
  X3 := h.X3
  ne := h.ne
  ge := h.ge
theorem BdM.tape (h : BdM w0 w X kt gw gl gv s vs ws ls) (ht : TapeB w1 w0.heap.size kt) (hg : w.grownBy w1 (some kt)) : BdM w0 w1 X kt gw gl gv s vs ws ls where
  hv := h.hv.keepX (Mod.of_only hg (fun _ => h.X3.2.2))
  vl := h.vl
  wl := h.wl
  ll := h.ll
  bw := h.bw.grown hg (by simp; exact h.ne.2.1)
  bl := h.bl.grown hg (by simp; exact h.ne.2.2)
  bt := ht
  own := fun j hj => (h.own j hj).keep fun b hb => hg.block b ((h.own j hj).lt b hb).2 (by simp; exact (h.inX j hj b hb).2.2.2)
  inX := h.inX
  dis := h.dis
  X3 := h.X3
  ne := h.ne
  ge := h.ge
theorem ic_toArray_set (l : List Int) (j : Nat) (x : Int) : (ic .i64 l).toArray.setIfInBounds j (.int .i64 x) = (ic .i64 (l.set j x)).toArray := by
  simp [ic_set]
theorem BdM.last (h : BdM w0 w X kt gw gl gv s vs ws ls) {j : Nat} (x : Int) : BdM w0 (w.setCell ⟨gl, j, none⟩ (.int .i64 x)) X kt gw gl gv s vs ws (ls.set j x) := by
  have hm : Mod (· = gl) w (w.setCell ⟨gl, j, none⟩ (.int .i64 x)) := mod_put (Mod.refl _ _) (fun _ => rfl)
  exact {
    hv := h.hv.keepX (hm.mono (fun b hb _ => by subst hb; exact h.X3.2.1))
    vl := h.vl
    wl := h.wl
    ll := by rw [List.length_set]; exact h.ll
    bw := h.bw.mod hm h.ne.1
    bl := by have := h.bl.set_ j (.int .i64 x); rwa [ic_toArray_set] at this
    bt := h.bt.mod hm (fun e => h.ne.2.2 e.symm) (fun b hb => by subst hb; exact h.ge.2)
    own := fun i hi => (h.own i hi).keep fun b hb => hm.block b ((h.own i hi).lt b hb).2 (h.inX i hi b hb).2.2.1
    inX := h.inX
    dis := h.dis
    X3 := h.X3
    ne := h.ne
    ge := h.ge }
theorem getD_set_ {α : Type} {l : List α} {i j : Nat} {v d : α} (h : i < l.length) : (l.set i v).getD j d = if i = j then v else l.getD j d := by
  rw [List.getD_eq_getElem?_getD, List.getElem?_set, List.getD_eq_getElem?_getD]
  by_cases hij : i = j
  · subst hij; simp [h]
  · simp [hij]
/-- A slice of wait written anew: what was done to it meanwhile turned its own block alone. -/
theorem BdM.put (h : BdM w0 w X kt gw gl gv s vs ws ls) {j : Nat} (hj : j < 3) {v : Value} {l : List Int} (hm : Mod (fun b => (vAt vs j).ownBlock = some b) w w1) (ho : OwnO w1 w0.heap.size 2 .i64 v l)
    (hv : v.ownBlock = (vAt vs j).ownBlock ∨ ∀ b, v.ownBlock = some b → w.heap.size ≤ b) :
    BdM w0 (w1.setCell ⟨gw, j, none⟩ v) (More X w.heap.size w1.heap.size) kt gw gl gv s (vs.set j v) (ws.set j l) ls := by
  have hmX : Mod X w w1 := hm.mono (fun b hb _ => (h.inX j hj b hb).1)
  have hlt : ∀ b, X b → b < w.heap.size := h.hv.X_lt
  have hg := h.hv.grow hmX
  have hs := hm.size
  have hmp : Mod (· = gw) w1 (w1.setCell ⟨gw, j, none⟩ v) := mod_put (Mod.refl _ _) (fun _ => rfl)
  have hbw : Blk w1 gw 43 vs.toArray := h.bw.mod hm (fun e => (h.inX j hj gw e).2.1 rfl)
  have hbl : Blk w1 gl 44 (ic .i64 ls).toArray := h.bl.mod hm (fun e => (h.inX j hj gl e).2.2.1 rfl)
  have hbt : TapeB w1 w0.heap.size kt := h.bt.mod hm (fun e => (h.inX j hj kt e).2.2.2 rfl) (fun b hb => ((h.own j hj).lt b hb).1)
  have hvb : ∀ b, v.ownBlock = some b → More X w.heap.size w1.heap.size b ∧ b ≠ gw ∧ b ≠ gl ∧ b ≠ kt ∧ ∀ i, i < 3 → i ≠ j → (vAt vs i).ownBlock ≠ some b := by
    intro b hb
    rcases hv with e | e
    · rw [e] at hb
      exact ⟨.inl (h.inX j hj b hb).1, (h.inX j hj b hb).2.1, (h.inX j hj b hb).2.2.1, (h.inX j hj b hb).2.2.2, fun i hi hne => h.dis j i hj hi (fun e => hne e.symm) b hb⟩
    · have h1 := e b hb
      have h2 := (ho.lt b hb).2
      have a1 := hlt _ h.X3.1
      have a2 := hlt _ h.X3.2.1
      have a3 := hlt _ h.X3.2.2
      refine ⟨.inr ⟨h1, h2⟩, by omega, by omega, by omega, fun i hi _ hx => ?_⟩
      have := hlt _ (h.inX i hi b hx).1
      omega
  exact {
    hv := hg.keepX (hmp.mono (fun b hb _ => by subst hb; exact .inl h.X3.1))
    vl := by rw [List.length_set]; exact h.vl
    wl := by rw [List.length_set]; exact h.wl
    ll := h.ll
    bw := by have := hbw.set_ j v; simpa using this
    bl := hbl.mod hmp (fun e => h.ne.1 e.symm)
    bt := hbt.mod hmp (fun e => h.ne.2.1 e.symm) (fun b hb => by subst hb; exact h.ge.1)
    own := fun i hi => by
      rw [getD_set_ (by rw [h.wl]; exact hj), vAt_set (by rw [h.vl]; exact hj)]
      by_cases hij : j = i
      · rw [if_pos hij, if_pos hij]
        exact ho.keep fun b hb => hmp.block b (ho.lt b hb).2 (hvb b hb).2.1
      · rw [if_neg hij, if_neg hij]
        exact (h.own i hi).keep fun b hb => (hmp.block b (Nat.lt_of_lt_of_le ((h.own i hi).lt b hb).2 hs) (h.inX i hi b hb).2.1).trans (hm.block b ((h.own i hi).lt b hb).2 (fun e => h.dis j i hj hi hij b e hb))
    inX := fun i hi b hb => by
      rw [vAt_set (by rw [h.vl]; exact hj)] at hb
      by_cases hij : j = i
      · rw [if_pos hij] at hb
        exact ⟨(hvb b hb).1, (hvb b hb).2.1, (hvb b hb).2.2.1, (hvb b hb).2.2.2.1⟩
      · rw [if_neg hij] at hb
        exact ⟨.inl (h.inX i hi b hb).1, (h.inX i hi b hb).2⟩
    dis := fun i k hi hk hne b hb => by
      rw [vAt_set (by rw [h.vl]; exact hj)] at hb ⊢
      by_cases hij : j = i
      · rw [if_pos hij] at hb
        rw [if_neg (by omega)]
        exact (hvb b hb).2.2.2.2 k hk (by omega)
      · rw [if_neg hij] at hb
        by_cases hkj : j = k
        · rw [if_pos hkj]
          exact fun hx => (hvb b hx).2.2.2.2 i hi (by omega) hb
        · rw [if_neg hkj]
          exact h.dis i k hi hk hne b hb
    X3 := ⟨.inl h.X3.1, .inl h.X3.2.1, .inl h.X3.2.2⟩
    ne := h.ne
    ge := h.ge }
theorem BdM.last_at (h : BdM w0 w X kt gw gl gv s vs ws ls) {j : Nat} (hj : j < 3) : w.cell? ⟨gl, j, none⟩ = some (.int .i64 (ls.getD j 0)) ∧ w.frozen? ⟨gl, j, none⟩ = false := by
  refine ⟨?_, h.bl.frozen j⟩
  rw [h.bl.cell j]
  have := ic_get (k := .i64) (l := ls) (j := j) (by rw [h.ll]; exact hj)
  simpa using this
theorem BdM.wait_at (h : BdM w0 w X kt gw gl gv s vs ws ls) {j : Nat} (hj : j < 3) : ∃ A c, vAt vs j = .slice A (ws.getD j []).length c ∧ (ws.getD j []).length ≤ c ∧ RdI w w.heap.size .i64 A (ws.getD j []) ∧
    w.cell? ⟨gw, j, none⟩ = some (.slice A (ws.getD j []).length c) ∧ w.frozen? ⟨gw, j, none⟩ = false := by
  obtain ⟨A, c, hv, hc, hr⟩ := (h.own j hj).form
  refine ⟨A, c, hv, hc, hr, ?_, h.bw.frozen j⟩
  rw [h.bw.cell j, ← hv, vAt, List.getD_eq_getElem?_getD, List.getElem?_eq_getElem (by rw [h.vl]; exact hj)]
  simp [h.vl, hj]
theorem BdM.lt3 (h : BdM w0 w X kt gw gl gv s vs ws ls) : gw < w.heap.size ∧ gl < w.heap.size ∧ kt < w.heap.size ∧ ∀ j, j < 3 → (vAt vs j).ownBlock ≠ some w.heap.size := by
  refine ⟨h.bw.lt, h.bl.lt, h.bt.lt, fun j hj e => ?_⟩
  have := ((h.own j hj).lt _ e).2
  omega
/-- How much waits, read off the memory. -/
def lenAt (w : World) (a : Addr) : Nat := match w.cell? a with | some (.slice _ n _) => n | _ => 0
def meas (w : World) (gw : Nat) : Nat := lenAt w ⟨gw, 0, none⟩ + lenAt w ⟨gw, 1, none⟩ + lenAt w ⟨gw, 2, none⟩
theorem BdM.meas (h : BdM w0 w X kt gw gl gv s vs (wsOf s'.qs) ls) : meas w gw = tot3 s'.qs := by
  have hl := h.wl
  rw [wsOf, List.length_map] at hl
  have e : ∀ j, j < 3 → lenAt w ⟨gw, j, none⟩ = (quAt s'.qs j).wait.length := fun j hj => by
    obtain ⟨A, c, _, _, _, hc, _⟩ := h.wait_at hj
    rw [lenAt, hc, ws_at (by omega), List.length_map]
  rw [Proofs.Ytnflhogjonlnmaa.meas, e 0 (by omega), e 1 (by omega), e 2 (by omega), tot3]
theorem bd_calls {g : Nat} (h : WvN w0 X w g s) (hl0 : 0 ≤ s.late) (hl1 : s.late ≤ 4611686018427387904) :
    Calls Try.prog 20 #[.pointer (some ⟨g, 0, none⟩)] w fun e w' => ∃ (st at_ ln : Int) (key hid : Bool) (d : List Int) (A : Option Addr) (c : Nat), s.take.1.getD pz = ⟨st, at_, ln, key, hid, d⟩ ∧
      e = .returned (.tuple #[.agg #[.int .i64 st, .int .i64 at_, .int .i64 ln, .bool key, .bool hid, .slice A d.length c], .bool s.take.1.isSome]) ∧ WvN w0 X w' g s.take.2 ∧ Mod (Free w0 X) w w' := by
  refine (wvn_take h hl0 hl1).mono ?_
  rintro e w' ⟨A, c, rfl, h1, h2⟩
  cases hq : s.take.1.getD pz with
  | mk st at_ ln key hid d => exact ⟨st, at_, ln, key, hid, d, A, c, rfl, rfl, h1, h2⟩
theorem BdM.start {w2 : World} (hv : WvN w0 (fun b => b = kt) w2 gv s) (ht : TapeB w2 w0.heap.size kt) :
    ∃ X, BdM w0 ((w2.alloc (.cells #[.slice none 0 0, .slice none 0 0, .slice none 0 0] 43)).alloc (.cells #[.int .i64 0, .int .i64 0, .int .i64 0] 44)) X kt w2.heap.size (w2.heap.size + 1) gv s
      [.slice none 0 0, .slice none 0 0, .slice none 0 0] [[], [], []] [0, 0, 0] := by
  have hk := hv.X_lt kt rfl
  have h0 := ht.ge
  have hw : w0.heap.size ≤ w2.heap.size := by omega
  have b1 : Below w2.heap.size w2 (w2.alloc (.cells #[.slice none 0 0, .slice none 0 0, .slice none 0 0] 43)) := below_alloc (Below.refl _ _) _
  have k1 := Blk.new w2 43 #[.slice none 0 0, .slice none 0 0, .slice none 0 0]
  have e1 : (w2.alloc (.cells #[.slice none 0 0, .slice none 0 0, .slice none 0 0] 43)).heap.size = w2.heap.size + 1 := by simp
  generalize w2.alloc (.cells #[.slice none 0 0, .slice none 0 0, .slice none 0 0] 43) = w3 at *
  have b2 : Below w3.heap.size w3 (w3.alloc (.cells #[.int .i64 0, .int .i64 0, .int .i64 0] 44)) := below_alloc (Below.refl _ _) _
  have k2 := Blk.new w3 44 #[.int .i64 0, .int .i64 0, .int .i64 0]
  have e2 : (w3.alloc (.cells #[.int .i64 0, .int .i64 0, .int .i64 0] 44)).heap.size = w3.heap.size + 1 := by simp
  generalize w3.alloc (.cells #[.int .i64 0, .int .i64 0, .int .i64 0] 44) = w4 at *
  rw [e1] at k2
  have hn : ∀ j, j < 3 → vAt [.slice none 0 0, .slice none 0 0, .slice none 0 0] j = .slice none 0 0 := fun j hj => by
    match j, hj with
    | 0, _ => rfl
    | 1, _ => rfl
    | 2, _ => rfl
  have hn2 : ∀ j, j < 3 → ([[], [], []] : List (List Int)).getD j [] = [] := fun j hj => by
    match j, hj with
    | 0, _ => rfl
    | 1, _ => rfl
    | 2, _ => rfl
  refine ⟨_, {
    hv := (hv.grow (Mod.of_fresh b1)).grow (Mod.of_fresh b2)
    vl := rfl
    wl := rfl
    ll := rfl
    bw := k1.below b2 (by omega)
    bl := k2
    bt := (ht.below b1 hk).below b2 (by omega)
    own := fun j hj => by rw [hn j hj, hn2 j hj]; exact OwnO.nil_ _ _ _ _
    inX := fun j hj b hb => by rw [hn j hj] at hb; cases hb
    dis := fun i j hi hj _ b hb => by rw [hn i hi] at hb; cases hb
    X3 := ⟨.inl (.inr (by omega)), .inr (by omega), .inl (.inl rfl)⟩
    ne := by omega
    ge := by omega }⟩
end
end Go.Proofs.Ytnflhogjonlnmaa
