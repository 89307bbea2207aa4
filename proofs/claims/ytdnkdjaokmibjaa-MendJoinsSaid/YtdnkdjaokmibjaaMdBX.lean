/- Guarded pages by their places; some left out (plain). -/
import Derived.Test.YtdnkdjaokmibjaaMdMm
import Derived.Test.YtdnkdjaokmibjaaMdGu
import Derived.Test.YtdnkdjaokmibjaaMdHo
set_option linter.unusedSimpArgs false
set_option linter.unusedVariables false
namespace Go.Proofs.Ytdnkdjaokmibjaa
open Go.RowKit

theorem getD_at {l : List Int} {i : Nat} (h : i < l.length) : l.getD i 0 = l[i] := by rw [List.getD_eq_getElem?_getD, List.getElem?_eq_getElem h]; rfl
theorem getD_out {l : List Int} {i : Nat} (h : l.length ≤ i) : l.getD i 0 = 0 := by rw [List.getD_eq_getElem?_getD, List.getElem?_eq_none h]; rfl

/-- pages of a group -/
structure GrpOk (G : List Pg) : Prop where
  ok : ∀ p ∈ G, pgOk p = true
  g : ∀ p ∈ G, p.guard = false
  by_ : ∀ p ∈ G, byteB p.body
theorem GrpOk.short {G : List Pg} (h : GrpOk G) {p : Pg} (hp : p ∈ G) : 1 ≤ p.body.length ∧ p.body.length ≤ 252 := by
  have h1 := of_decide_eq_true (h.ok p hp)
  have h2 : mostB p.guard = 252 := by rw [h.g p hp]; rfl
  omega
theorem guardG_0 (G : List Pg) : (guardG G).body.getD 0 0 = (G.length : Int) % 256 := rfl
theorem guardG_1 (G : List Pg) : (guardG G).body.getD 1 0 = flagX 0 G := rfl
theorem guardG_2 (G : List Pg) : (guardG G).body.getD 2 0 = sizeX 0 G := rfl
theorem guardG_3 (G : List Pg) : (guardG G).body.drop 3 = sumX [] G := rfl

/-- The page that is lacking is the one that a guard tells. -/
theorem back_one {a b : List Pg} {x : Pg} (h : GrpOk (a ++ x :: b)) : backP (guardG (a ++ x :: b)) (a ++ b) x.seq = x ∧ backOk (guardG (a ++ x :: b)) (a ++ b) x.seq = true := by
  have hx : x ∈ a ++ x :: b := by simp
  have hs := h.short hx
  have hab : ∀ p ∈ a ++ b, p ∈ a ++ x :: b := fun p hp => by
    rcases List.mem_append.1 hp with h | h
    · exact List.mem_append_left _ h
    · exact List.mem_append_right _ (List.mem_cons_of_mem _ h)
  have byt : ∀ (f : Pg → Int), (∀ p, isByte (f p)) → ∀ l : List Pg, byteB (l.map f) := fun f hf l y hy => by
    obtain ⟨p, _, rfl⟩ := List.mem_map.1 hy; exact hf p
  have hfl : ∀ p, isByte (flg p) := fun p => by have := flg_bd p; exact ⟨this.1, by omega⟩
  have f1 : flagX ((guardG (a ++ x :: b)).body.getD 1 0) (a ++ b) = flg x := by
    rw [guardG_1, flagX_eq _ (flagX_bd _), flagX_eq _ .zero, zero_xo (xs_bd _), List.map_append, List.map_append, List.map_cons]
    exact xs_one (byt _ hfl _) (byt _ hfl _) (hfl x)
  have f2 : sizeX ((guardG (a ++ x :: b)).body.getD 2 0) (a ++ b) = (x.body.length : Int) := by
    rw [guardG_2, sizeX_eq _ (sizeX_bd _), sizeX_eq _ .zero, zero_xo (xs_bd _), List.map_append, List.map_append, List.map_cons]
    rw [xs_one (byt _ lenB_bd _) (byt _ lenB_bd _) (lenB_bd x)]
    unfold lenB; omega
  have f3 : ∀ i, (sumX ((guardG (a ++ x :: b)).body.drop 3) (a ++ b)).getD i 0 = x.body.getD i 0 := fun i => by
    rw [guardG_3, sumX_at (fun p hp => h.by_ p (hab p hp)) (sumX_bytes byteB.nil_), sumX_at h.by_ byteB.nil_]
    rw [show ([] : List Int).getD i 0 = 0 from rfl, zero_xo (xs_bd _), List.map_append, List.map_append, List.map_cons]
    exact xs_one (fun y hy => by obtain ⟨p, hp, rfl⟩ := List.mem_map.1 hy; exact (h.by_ p (List.mem_append_left _ hp)).at_ i) (fun y hy => by obtain ⟨p, hp, rfl⟩ := List.mem_map.1 hy; exact (h.by_ p (List.mem_append_right _ (List.mem_cons_of_mem _ hp))).at_ i) ((h.by_ x hx).at_ i)
  have f4 : (sumX ((guardG (a ++ x :: b)).body.drop 3) (a ++ b)).length = max x.body.length (longest (a ++ b)) := by
    rw [guardG_3, sumX_len, sumX_len, longest_perm]; simp <;> omega
  generalize hS : sumX ((guardG (a ++ x :: b)).body.drop 3) (a ++ b) = S at *
  have e1 : S.take x.body.length = x.body := by
    refine list_ext0 (by simp; omega) fun i hi => ?_
    have hi' : i < x.body.length := by simp at hi; omega
    rw [getD_at hi, List.getElem_take, ← getD_at (by omega), f3]
  have e2 : (S.drop x.body.length).all (fun c => decide (c = 0)) = true := by
    rw [List.all_eq_true]
    intro c hc
    obtain ⟨i, hi, rfl⟩ := List.getElem_of_mem hc
    rw [List.getElem_drop, ← getD_at (by simp at hi; omega), f3, getD_out (by omega)]
    rfl
  have e3 : backP (guardG (a ++ x :: b)) (a ++ b) x.seq = x := by
    unfold backP
    rw [f1, f2, hS, Int.toNat_natCast, e1]
    have hg := h.g x hx
    obtain ⟨s, f, l, g, bd⟩ := x
    simp only at hg
    subst hg
    cases f <;> cases l <;> rfl
  refine ⟨e3, ?_⟩
  unfold backOk
  rw [e3, f1, f2, hS, Int.toNat_natCast, e2, h.ok x hx, decide_eq_true (flg_bd x).2, decide_eq_true (show 1 ≤ (x.body.length : Int) ∧ (x.body.length : Int) ≤ 252 ∧ (x.body.length : Int) ≤ (S.length : Int) by omega)]
  rfl

/-- What is found of a group of which just one page is lacking. -/
theorem lack_one {g : Pg} {O G : List Pg} {j : Nat} (hj : j < G.length) (hno : hasS O (g.seq + (j : Int)) = none) (hyes : ∀ i (hi : i < G.length), i ≠ j → hasS O (g.seq + (i : Int)) = some G[i]) :
    lackM g O G.length = 1 ∧ lackS g O G.length = g.seq + j ∧ lackO g O G.length = G.take j ++ G.drop (j + 1) := by
  have key : ∀ m, m ≤ G.length → lackM g O m = (if m ≤ j then 0 else 1) ∧ lackS g O m = (if m ≤ j then 0 else g.seq + (j : Int)) ∧ lackO g O m = (if m ≤ j then G.take m else G.take j ++ (G.drop (j + 1)).take (m - (j + 1))) := by
    intro m
    induction m with
    | zero => intro _; simp [lackM, lackS, lackO]
    | succ m ih =>
      intro hm
      obtain ⟨i1, i2, i3⟩ := ih (by omega)
      by_cases hmj : m = j
      · subst hmj
        obtain ⟨e1, e2, e3⟩ := lackO_none hno
        rw [if_pos (Nat.le_refl _)] at i1 i3
        rw [if_neg (by omega), if_neg (by omega), if_neg (by omega), e1, e2, e3, i1, i3]
        simp
      · obtain ⟨e1, e2, e3⟩ := lackO_some (hyes m (by omega) hmj)
        rw [e1, e2, e3, i1, i2, i3]
        by_cases hlt : m < j
        · rw [if_pos (by omega), if_pos (by omega), if_pos (by omega), if_pos (by omega), if_pos (by omega), if_pos (by omega), List.take_succ_eq_append_getElem (by omega)]
          exact ⟨rfl, rfl, rfl⟩
        · rw [if_neg (by omega), if_neg (by omega), if_neg (by omega), if_neg (by omega), if_neg (by omega), if_neg (by omega)]
          refine ⟨rfl, rfl, ?_⟩
          have hd : m - (j + 1) < (G.drop (j + 1)).length := by simp; omega
          rw [show m + 1 - (j + 1) = (m - (j + 1)) + 1 by omega, List.take_succ_eq_append_getElem hd, List.append_assoc]
          have : (G.drop (j + 1))[m - (j + 1)] = G[m] := by rw [List.getElem_drop]; congr 1; omega
          rw [this]
  obtain ⟨h1, h2, h3⟩ := key G.length (Nat.le_refl _)
  rw [if_neg (by omega)] at h1 h2 h3
  refine ⟨h1, h2, ?_⟩
  rw [h3, show G.length - (j + 1) = (G.drop (j + 1)).length by rw [List.length_drop], List.take_length]
theorem lack_just {g : Pg} {O : List Pg} {n : Nat} (h : lackM g O n = 1) : ∃ j, j < n ∧ hasS O (g.seq + (j : Int)) = none ∧ ∀ i, i < n → i ≠ j → (hasS O (g.seq + (i : Int))).isSome = true := by
  unfold lackM at h
  obtain ⟨j, hj⟩ := List.length_eq_one_iff.1 h
  have hm : j ∈ (List.range n).filter (fun i : Nat => (hasS O (g.seq + (i : Int))).isNone) := by rw [hj]; simp
  obtain ⟨h1, h2⟩ := List.mem_filter.1 hm
  refine ⟨j, List.mem_range.1 h1, by simpa using h2, fun i hi hne => ?_⟩
  by_cases hs : (hasS O (g.seq + (i : Int))).isNone = true
  · have : i ∈ (List.range n).filter (fun i : Nat => (hasS O (g.seq + (i : Int))).isNone) := List.mem_filter.2 ⟨List.mem_range.2 hi, hs⟩
    rw [hj] at this
    exact absurd (List.mem_singleton.1 this) hne
  · cases hh : hasS O (g.seq + (i : Int)) with
    | none => rw [hh] at hs; simp at hs
    | some p => rfl

/-- pages by number, from 0 on -/
def Num (l : List Pg) : Prop := ∀ i (h : i < l.length), PgGood l[i] (0 + i)
section
variable {l : List Pg}
theorem Num.seq (h : Num l) {i : Nat} (hi : i < l.length) : l[i].seq = (i : Int) := by have := (h i hi).seq; omega
theorem Num.same (h : Num l) {p q : Pg} (hp : p ∈ l) (hq : q ∈ l) (he : p.seq = q.seq) : p = q := by
  obtain ⟨i, hi, rfl⟩ := List.getElem_of_mem hp
  obtain ⟨j, hj, rfl⟩ := List.getElem_of_mem hq
  rw [h.seq hi, h.seq hj] at he
  have : i = j := by omega
  subst this; rfl
theorem Num.has (h : Num l) {O : List Pg} (hO : ∀ p ∈ O, p ∈ l) {p : Pg} (hp : p ∈ O) : hasS O p.seq = some p := by
  cases hf : hasS O p.seq with
  | none => exact absurd rfl (hasS_none.1 hf p hp)
  | some q =>
    obtain ⟨h1, h2⟩ := hasS_some hf
    rw [h.same (hO q h1) (hO p hp) h2]
theorem Num.hasNot (h : Num l) {O : List Pg} (hO : ∀ p ∈ O, p ∈ l) {p : Pg} (hpl : p ∈ l) (hp : p ∉ O) : hasS O p.seq = none := by
  rw [hasS_none]
  intro q hq he
  exact hp (h.same (hO q hq) hpl he ▸ hq)
theorem grp_get {k i : Nat} (hi : i < (grp l k).length) : ∃ h : 8 * k + i < l.length, (grp l k)[i] = l[8 * k + i] := by
  have := grp_len l k
  refine ⟨by omega, ?_⟩
  simp [grp, List.getElem_take, List.getElem_drop]
theorem Num.grpOk (h : Num l) (k : Nat) : GrpOk (grp l k) where
  ok p hp := by obtain ⟨i, hi, rfl⟩ := List.getElem_of_mem (grp_mem hp); exact (h i hi).ok
  g p hp := by obtain ⟨i, hi, rfl⟩ := List.getElem_of_mem (grp_mem hp); exact (h i hi).g
  by_ p hp := by obtain ⟨i, hi, rfl⟩ := List.getElem_of_mem (grp_mem hp); exact (h i hi).wf.bytes
theorem nGrp_pos {k : Nat} (hk : k < nGrp l) : 0 < (grp l k).length := by rw [grp_len]; unfold nGrp at hk; omega
theorem Num.guard_seq (h : Num l) {k : Nat} (hk : k < nGrp l) : (guardG (grp l k)).seq = ((8 * k : Nat) : Int) := by
  show ((grp l k).getD 0 zg).seq = _
  rw [gOk_at (nGrp_pos hk)]
  obtain ⟨h1, h2⟩ := grp_get (l := l) (k := k) (nGrp_pos hk)
  rw [h2, h.seq h1]; omega
theorem grp_seq (h : Num l) {k : Nat} (hk : k < nGrp l) {i : Nat} (hi : i < (grp l k).length) : (grp l k)[i].seq = (guardG (grp l k)).seq + (i : Int) := by
  obtain ⟨h1, h2⟩ := grp_get hi
  rw [h2, h.seq h1, h.guard_seq hk]; omega
theorem guard_n (k : Nat) : ((guardG (grp l k)).body.getD 0 0).toNat = (grp l k).length := by
  rw [guardG_0]
  have := grp_len l k
  omega
/-- One guard. -/
theorem back_mem (h : Num l) {O : List Pg} (hO : ∀ p ∈ O, p ∈ l) {k : Nat} (hk : k < nGrp l) (p : Pg) :
    p ∈ backF O (guardG (grp l k)) ↔ p ∈ O ∨ (p ∈ grp l k ∧ ∀ q ∈ grp l k, q ≠ p → q ∈ O) := by
  have hone : ∀ j (hj : j < (grp l k).length), (grp l k)[j] ∉ O → (∀ q ∈ grp l k, q ≠ (grp l k)[j] → q ∈ O) → backF O (guardG (grp l k)) = O ++ [(grp l k)[j]] := by
    intro j hj hno hyes
    have hdj : ∀ i (hi : i < (grp l k).length), i ≠ j → (grp l k)[i] ≠ (grp l k)[j] := fun i hi hne e => by
      have h1 := grp_seq h hk hi
      have h2 := grp_seq h hk hj
      rw [e, h2] at h1; omega
    obtain ⟨e1, e2, e3⟩ := lack_one (g := guardG (grp l k)) (O := O) (G := grp l k) hj
      (by rw [← grp_seq h hk hj]; exact h.hasNot hO (grp_mem (List.getElem_mem hj)) hno)
      (fun i hi hne => by rw [← grp_seq h hk hi]; exact h.has hO (hyes _ (List.getElem_mem hi) (hdj i hi hne)))
    have hsp : grp l k = (grp l k).take j ++ (grp l k)[j] :: (grp l k).drop (j + 1) := by
      rw [← List.drop_eq_getElem_cons hj, List.take_append_drop]
    have hgo := h.grpOk k
    rw [hsp] at hgo
    obtain ⟨b1, b2⟩ := back_one hgo
    rw [← hsp] at b1 b2
    rw [← grp_seq h hk hj] at e2
    unfold backF
    rw [guard_n, e1, e2, e3, b1, b2, if_pos ⟨rfl, rfl⟩]
  constructor
  · intro hp
    by_cases hpO : p ∈ O
    · exact .inl hpO
    · refine .inr ?_
      have hne : backF O (guardG (grp l k)) ≠ O := fun e => hpO (e ▸ hp)
      have hM : lackM (guardG (grp l k)) O (grp l k).length = 1 := by
        by_cases hc : lackM (guardG (grp l k)) O (grp l k).length = 1
        · exact hc
        · exfalso; apply hne; unfold backF; rw [guard_n, if_neg (fun hh => hc hh.1)]
      obtain ⟨j, hj, hno, hyes⟩ := lack_just hM
      have hnj : (grp l k)[j] ∉ O := fun hm => by
        have := h.has hO hm
        rw [grp_seq h hk hj, hno] at this; cases this
      have hall : ∀ q ∈ grp l k, q ≠ (grp l k)[j] → q ∈ O := fun q hq hqj => by
        obtain ⟨i, hi, rfl⟩ := List.getElem_of_mem hq
        have hij : i ≠ j := fun e => hqj (by subst e; rfl)
        have hs := hyes i hi hij
        cases hf : hasS O ((guardG (grp l k)).seq + (i : Int)) with
        | none => rw [hf] at hs; cases hs
        | some r =>
          obtain ⟨r1, r2⟩ := hasS_some hf
          rw [← grp_seq h hk hi] at r2
          rw [← h.same (hO r r1) (grp_mem (List.getElem_mem hi)) r2]; exact r1
      rw [hone j hj hnj hall, List.mem_append, List.mem_singleton] at hp
      rcases hp with hp | rfl
      · exact absurd hp hpO
      · exact ⟨List.getElem_mem hj, hall⟩
  · rintro (hp | ⟨hp, hall⟩)
    · unfold backF; split
      · exact List.mem_append_left _ hp
      · exact hp
    · by_cases hpO : p ∈ O
      · unfold backF; split
        · exact List.mem_append_left _ hpO
        · exact hpO
      · obtain ⟨j, hj, rfl⟩ := List.getElem_of_mem hp
        rw [hone j hj hpO hall]; simp
theorem back_sub (h : Num l) {O : List Pg} (hO : ∀ p ∈ O, p ∈ l) {k : Nat} (hk : k < nGrp l) : ∀ p ∈ backF O (guardG (grp l k)), p ∈ l := fun p hp => by
  rcases (back_mem h hO hk p).1 hp with hp | ⟨hp, _⟩
  · exact hO p hp
  · exact grp_mem hp
theorem grp_apart (h : Num l) {k k' : Nat} {p : Pg} (h1 : p ∈ grp l k) (h2 : p ∈ grp l k') : k = k' := by
  obtain ⟨i, hi, rfl⟩ := List.getElem_of_mem h1
  obtain ⟨j, hj, e⟩ := List.getElem_of_mem h2
  obtain ⟨a1, a2⟩ := grp_get hi
  obtain ⟨b1, b2⟩ := grp_get hj
  rw [a2, b2] at e
  have := congrArg Pg.seq e
  rw [h.seq b1, h.seq a1] at this
  have hl := grp_len l k
  have hl' := grp_len l k'
  omega
/-- All guards. -/
theorem backs_mem (h : Num l) : ∀ (gs : List Pg) {O : List Pg}, (∀ p ∈ O, p ∈ l) → (∀ g ∈ gs, ∃ k, k < nGrp l ∧ g = guardG (grp l k)) → ∀ p, p ∈ gs.foldl backF O ↔ p ∈ O ∨ ∃ k, k < nGrp l ∧ guardG (grp l k) ∈ gs ∧ p ∈ grp l k ∧ ∀ q ∈ grp l k, q ≠ p → q ∈ O
  | [], O, hO, hg, p => by simp
  | g :: gs, O, hO, hg, p => by
    obtain ⟨k, hk, rfl⟩ := hg g (List.mem_cons_self ..)
    rw [List.foldl_cons, backs_mem h gs (back_sub h hO hk) (fun g hg' => hg g (List.mem_cons_of_mem _ hg')) p, back_mem h hO hk p]
    constructor
    · rintro ((hp | ⟨h1, h2⟩) | ⟨k', hk', h1, h2, h3⟩)
      · exact .inl hp
      · exact .inr ⟨k, hk, List.mem_cons_self .., h1, h2⟩
      · by_cases hkk : k' = k
        · subst hkk
          by_cases hpO : p ∈ O
          · exact .inl hpO
          · by_cases hall : ∀ q ∈ grp l k', q ≠ p → q ∈ O
            · exact .inr ⟨k', hk', List.mem_cons_of_mem _ h1, h2, hall⟩
            · exfalso
              apply hall
              intro q hq hqp
              rcases (back_mem h hO hk' q).1 (h3 q hq hqp) with hq' | ⟨_, hq''⟩
              · exact hq'
              · exact absurd (hq'' p h2 (fun e => hqp e.symm)) hpO
        · refine .inr ⟨k', hk', List.mem_cons_of_mem _ h1, h2, fun q hq hqp => ?_⟩
          rcases (back_mem h hO hk q).1 (h3 q hq hqp) with hq' | ⟨hq', _⟩
          · exact hq'
          · exact absurd (grp_apart h hq hq') hkk
    · rintro (hp | ⟨k', hk', h1, h2, h3⟩)
      · exact .inl (.inl hp)
      · by_cases hkk : k' = k
        · subst hkk; exact .inl (.inr ⟨h2, h3⟩)
        · have hne : guardG (grp l k') ≠ guardG (grp l k) := fun e => hkk (by
            have := congrArg Pg.seq e
            rw [h.guard_seq hk', h.guard_seq hk] at this; omega)
          rcases List.mem_cons.1 h1 with e | h1
          · exact absurd e hne
          · exact .inr ⟨k', hk', h1, h2, fun q hq hqp => (back_mem h hO hk q).2 (.inl (h3 q hq hqp))⟩
end
end Go.Proofs.Ytdnkdjaokmibjaa

namespace Go.Proofs.Ytdnkdjaokmibjaa
open Go.RowKit

/-- what is left of guarded pages -/
structure Left (l s : List Pg) : Prop where
  pg : ∀ x ∈ s, x.guard = false → x ∈ l
  gd : ∀ x ∈ s, x.guard = true → ∃ k, k < nGrp l ∧ x = guardG (grp l k)
section
variable {l : List Pg}
theorem Num.inj (h : Num l) {p : Pg} (hp : p ∈ l) : ∃ i, ∃ hi : i < l.length, p = l[i] ∧ p.seq = (i : Int) := by
  obtain ⟨i, hi, rfl⟩ := List.getElem_of_mem hp
  exact ⟨i, hi, rfl, h.seq hi⟩
theorem guardG_good (h : Num l) (hl : l.length ≤ 100000) {k : Nat} (hk : k < nGrp l) : pgOk (guardG (grp l k)) = true ∧ isG (guardG (grp l k)) = true := by
  have h0 := nGrp_pos hk
  have hg := h.grpOk k
  have h1 : 1 ≤ longest (grp l k) := Nat.le_trans (hg.short (List.getElem_mem h0)).1 (longest_le (List.getElem_mem h0))
  have h2 : longest (grp l k) ≤ 252 := longest_bd fun p hp => (hg.short hp).2
  have h3 := guardG_len (grp l k)
  have h4 := grp_len l k
  have h5 := h.guard_seq hk
  have h6 : mostB true = 255 := rfl
  have h7 : k < nGrp l := hk
  unfold nGrp at h7
  constructor
  · refine decide_eq_true ?_
    rw [h5, h3, show (guardG (grp l k)).guard = true from rfl, h6]
    omega
  · refine decide_eq_true ⟨rfl, by omega, ?_⟩
    rw [guardG_0]; omega
theorem mendA_mem (h : Num l) (hl : l.length ≤ 100000) {s : List Pg} (hs : Left l s) :
    (∀ p, p ∈ (mendA s).1 ↔ p ∈ s ∧ p.guard = false) ∧ (∀ p, p ∈ (mendA s).2.1 ↔ p ∈ s ∧ p.guard = true) ∧ (mendA s).2.2 ≤ (l.length : Int) - 1 := by
  have key : ∀ (s : List Pg) (st : List Pg × List Pg × Int), Left l s → (∀ p ∈ st.1, p ∈ l) → st.2.2 ≤ (l.length : Int) - 1 →
      (∀ p, p ∈ (s.foldl mendF st).1 ↔ p ∈ st.1 ∨ (p ∈ s ∧ p.guard = false)) ∧ (∀ p, p ∈ (s.foldl mendF st).2.1 ↔ p ∈ st.2.1 ∨ (p ∈ s ∧ p.guard = true)) ∧ (s.foldl mendF st).2.2 ≤ (l.length : Int) - 1 := by
    intro s
    induction s with
    | nil => intro st _ _ ht; simp [ht]
    | cons x s ih =>
      intro st hs hO ht
      have hs' : Left l s := ⟨fun y hy => hs.pg y (List.mem_cons_of_mem _ hy), fun y hy => hs.gd y (List.mem_cons_of_mem _ hy)⟩
      rw [List.foldl_cons]
      by_cases hx : x.guard = true
      · obtain ⟨k, hk, rfl⟩ := hs.gd x (List.mem_cons_self ..) hx
        obtain ⟨g1, g2⟩ := guardG_good h hl hk
        have he : mendF st (guardG (grp l k)) = (st.1, st.2.1 ++ [guardG (grp l k)], max st.2.2 ((guardG (grp l k)).seq + (guardG (grp l k)).body.getD 0 0 - 1)) := by
          rw [mendF, if_neg (by rw [g1]; simp), if_pos hx, if_pos g2]
        rw [he]
        have h4 := grp_len l k
        have h5 := h.guard_seq hk
        have h0 := nGrp_pos hk
        obtain ⟨i1, i2, i3⟩ := ih (st.1, st.2.1 ++ [guardG (grp l k)], max st.2.2 ((guardG (grp l k)).seq + (guardG (grp l k)).body.getD 0 0 - 1)) hs' hO (by
          show max st.2.2 ((guardG (grp l k)).seq + (guardG (grp l k)).body.getD 0 0 - 1) ≤ (l.length : Int) - 1
          rw [h5, guardG_0]; omega)
        refine ⟨fun p => ?_, fun p => ?_, i3⟩
        · rw [i1]
          constructor
          · rintro (h1 | ⟨h1, h2⟩)
            · exact .inl h1
            · exact .inr ⟨List.mem_cons_of_mem _ h1, h2⟩
          · rintro (h1 | ⟨h1, h2⟩)
            · exact .inl h1
            · rcases List.mem_cons.1 h1 with rfl | h1
              · rw [hx] at h2; cases h2
              · exact .inr ⟨h1, h2⟩
        · rw [i2, List.mem_append, List.mem_singleton]
          constructor
          · rintro ((h1 | rfl) | ⟨h1, h2⟩)
            · exact .inl h1
            · exact .inr ⟨List.mem_cons_self .., hx⟩
            · exact .inr ⟨List.mem_cons_of_mem _ h1, h2⟩
          · rintro (h1 | ⟨h1, h2⟩)
            · exact .inl (.inl h1)
            · rcases List.mem_cons.1 h1 with rfl | h1
              · exact .inl (.inr rfl)
              · exact .inr ⟨h1, h2⟩
      · have hx0 : x.guard = false := by simpa using hx
        have hxl := hs.pg x (List.mem_cons_self ..) hx0
        obtain ⟨i, hi, hxi, hsq⟩ := h.inj hxl
        have hok : pgOk x = true := by rw [hxi]; exact (h i hi).ok
        by_cases hxO : x ∈ st.1
        · have he : mendF st x = st := by
            rw [mendF, if_neg (by rw [hok]; simp), if_neg hx, if_pos (by rw [h.has hO hxO]; rfl)]
          rw [he]
          obtain ⟨i1, i2, i3⟩ := ih st hs' hO ht
          refine ⟨fun p => ?_, fun p => ?_, i3⟩
          · rw [i1]
            constructor
            · rintro (h1 | ⟨h1, h2⟩)
              · exact .inl h1
              · exact .inr ⟨List.mem_cons_of_mem _ h1, h2⟩
            · rintro (h1 | ⟨h1, h2⟩)
              · exact .inl h1
              · rcases List.mem_cons.1 h1 with rfl | h1
                · exact .inl hxO
                · exact .inr ⟨h1, h2⟩
          · rw [i2]
            constructor
            · rintro (h1 | ⟨h1, h2⟩)
              · exact .inl h1
              · exact .inr ⟨List.mem_cons_of_mem _ h1, h2⟩
            · rintro (h1 | ⟨h1, h2⟩)
              · exact .inl h1
              · rcases List.mem_cons.1 h1 with rfl | h1
                · exact absurd h2 hx
                · exact .inr ⟨h1, h2⟩
        · have he : mendF st x = (st.1 ++ [x], st.2.1, max st.2.2 x.seq) := by
            rw [mendF, if_neg (by rw [hok]; simp), if_neg hx, if_neg (by rw [h.hasNot hO hxl hxO]; simp)]
          rw [he]
          obtain ⟨i1, i2, i3⟩ := ih (st.1 ++ [x], st.2.1, max st.2.2 x.seq) hs' (fun p hp => by
            rcases List.mem_append.1 hp with hp | hp
            · exact hO p hp
            · rw [List.mem_singleton] at hp; subst hp; exact hxl) (by
            show max st.2.2 x.seq ≤ _
            omega)
          refine ⟨fun p => ?_, fun p => ?_, i3⟩
          · rw [i1, List.mem_append, List.mem_singleton]
            constructor
            · rintro ((h1 | rfl) | ⟨h1, h2⟩)
              · exact .inl h1
              · exact .inr ⟨List.mem_cons_self .., hx0⟩
              · exact .inr ⟨List.mem_cons_of_mem _ h1, h2⟩
            · rintro (h1 | ⟨h1, h2⟩)
              · exact .inl (.inl h1)
              · rcases List.mem_cons.1 h1 with rfl | h1
                · exact .inl (.inr rfl)
                · exact .inr ⟨h1, h2⟩
          · rw [i2]
            constructor
            · rintro (h1 | ⟨h1, h2⟩)
              · exact .inl h1
              · exact .inr ⟨List.mem_cons_of_mem _ h1, h2⟩
            · rintro (h1 | ⟨h1, h2⟩)
              · exact .inl h1
              · rcases List.mem_cons.1 h1 with rfl | h1
                · exact absurd h2 hx
                · exact .inr ⟨h1, h2⟩
  obtain ⟨k1, k2, k3⟩ := key s ([], [], -1) hs (fun p hp => by cases hp) (by show (-1 : Int) ≤ _; omega)
  refine ⟨fun p => ?_, fun p => ?_, k3⟩
  · rw [show mendA s = s.foldl mendF ([], [], -1) from rfl, k1]; simp
  · rw [show mendA s = s.foldl mendF ([], [], -1) from rfl, k2]; simp
theorem mend_mem (h : Num l) (hl : l.length ≤ 100000) {s : List Pg} (hs : Left l s) :
    (∀ p, p ∈ mendO s ↔ (p ∈ s ∧ p.guard = false) ∨ ∃ k, k < nGrp l ∧ guardG (grp l k) ∈ s ∧ p ∈ grp l k ∧ ∀ q ∈ grp l k, q ≠ p → q ∈ s) ∧ (∀ p ∈ mendO s, p ∈ l) ∧ Kept (mendO s) ∧ mendT s ≤ (l.length : Int) - 1 := by
  obtain ⟨m1, m2, m3⟩ := mendA_mem h hl hs
  have hO : ∀ p ∈ (mendA s).1, p ∈ l := fun p hp => by
    obtain ⟨h1, h2⟩ := (m1 p).1 hp
    exact hs.pg p h1 h2
  have hG : ∀ g ∈ (mendA s).2.1, ∃ k, k < nGrp l ∧ g = guardG (grp l k) := fun g hg => by
    obtain ⟨h1, h2⟩ := (m2 g).1 hg
    exact hs.gd g h1 h2
  have hmem : ∀ p, p ∈ mendO s ↔ (p ∈ s ∧ p.guard = false) ∨ ∃ k, k < nGrp l ∧ guardG (grp l k) ∈ s ∧ p ∈ grp l k ∧ ∀ q ∈ grp l k, q ≠ p → q ∈ s := fun p => by
    unfold mendO
    rw [backs_mem h (mendA s).2.1 hO hG p, m1]
    constructor
    · rintro (h1 | ⟨k, hk, h1, h2, h3⟩)
      · exact .inl h1
      · exact .inr ⟨k, hk, ((m2 _).1 h1).1, h2, fun q hq hqp => ((m1 q).1 (h3 q hq hqp)).1⟩
    · rintro (h1 | ⟨k, hk, h1, h2, h3⟩)
      · exact .inl h1
      · exact .inr ⟨k, hk, (m2 _).2 ⟨h1, rfl⟩, h2, fun q hq hqp => (m1 q).2 ⟨h3 q hq hqp, (h.grpOk k).g q hq⟩⟩
  refine ⟨hmem, fun p hp => ?_, back_kept _ (mendA_kept s), m3⟩
  rcases (hmem p).1 hp with ⟨h1, h2⟩ | ⟨k, _, _, h1, _⟩
  · exact hs.pg p h1 h2
  · exact grp_mem h1
end

/-- A row by number is known by what it holds. -/
theorem sorted_mem : ∀ {xs ys : List Pg}, xs.Pairwise (fun a b => a.seq < b.seq) → ys.Pairwise (fun a b => a.seq ≤ b.seq) → difS ys → (∀ p, p ∈ ys ↔ p ∈ xs) → ys = xs
  | [], [], _, _, _, _ => rfl
  | [], y :: ys, _, _, _, hm => by have := (hm y).1 (List.mem_cons_self ..); cases this
  | x :: xs, [], _, _, _, hm => by have := (hm x).2 (List.mem_cons_self ..); cases this
  | x :: xs, y :: ys, hx, hy, hd, hm => by
    obtain ⟨hx1, hx2⟩ := List.pairwise_cons.1 hx
    obtain ⟨hy1, hy2⟩ := List.pairwise_cons.1 hy
    obtain ⟨hd1, hd2⟩ := List.pairwise_cons.1 hd
    have h1 : y ∈ x :: xs := (hm y).1 (List.mem_cons_self ..)
    have h2 : x ∈ y :: ys := (hm x).2 (List.mem_cons_self ..)
    have he : y = x := by
      rcases List.mem_cons.1 h1 with h | h
      · exact h
      · rcases List.mem_cons.1 h2 with h' | h'
        · exact h'.symm
        · have a := hx1 y h
          have b := hy1 x h'
          omega
    subst he
    rw [sorted_mem hx2 hy2 hd2 fun p => ?_]
    constructor
    · intro hp
      rcases List.mem_cons.1 ((hm p).1 (List.mem_cons_of_mem _ hp)) with rfl | h
      · exact absurd rfl (hd1 p hp)
      · exact h
    · intro hp
      rcases List.mem_cons.1 ((hm p).2 (List.mem_cons_of_mem _ hp)) with rfl | h
      · have := hx1 p hp; omega
      · exact h
theorem difS_perm {a b : List Pg} (h : difS a) (hp : b.Perm a) : difS b := by
  have := List.Perm.pairwise_iff (R := fun (x y : Pg) => x.seq ≠ y.seq) (fun {x y} (h : x.seq ≠ y.seq) => h.symm) hp
  exact this.2 h
theorem Num.sorted {l : List Pg} (h : Num l) : l.Pairwise (fun a b => a.seq < b.seq) := by
  rw [List.pairwise_iff_getElem]
  intro i j hi hj hij
  rw [h.seq hi, h.seq hj]; omega
/-- consecutive pages leave no hole -/
theorem holes_run : ∀ (l : List Pg) (hs : List Ho) (nx : Nat), (∀ i (hi : i < l.length), l[i].seq = ((nx + i : Nat) : Int)) → l.foldl holesF (hs, (nx : Int)) = (hs, ((nx + l.length : Nat) : Int))
  | [], hs, nx, _ => rfl
  | p :: l, hs, nx, h => by
    have h0 := h 0 (by simp)
    simp only [List.getElem_cons_zero, Nat.add_zero] at h0
    rw [List.foldl_cons]
    have e : holesF (hs, (nx : Int)) p = (hs, ((nx + 1 : Nat) : Int)) := by
      simp only [holesF, h0]
      rw [if_neg (by omega)]
      rfl
    rw [e, holes_run l hs (nx + 1) fun i hi => by
      have := h (i + 1) (by simp; omega)
      rw [List.getElem_cons_succ] at this
      rw [this]; omega]
    rw [show nx + 1 + l.length = nx + (p :: l).length by simp; omega]
theorem Num.noHoles {l : List Pg} (h : Num l) {t : Int} (ht : t ≤ (l.length : Int) - 1) : holesP l t = [] := by
  have := holes_run l [] 0 (fun i hi => by rw [h.seq hi]; omega)
  unfold holesP
  rw [show holesS l = l.foldl holesF ([], 0) from rfl, show ((0 : Int)) = ((0 : Nat) : Int) from rfl, this]
  rw [if_neg (by show ¬ ((0 + l.length : Nat) : Int) ≤ t; omega)]
/-- All of it is there again. -/
theorem mend_whole {l s ys : List Pg} (h : Num l) (hl : l.length ≤ 100000) (hs : Left l s) (hall : ∀ p ∈ l, p ∈ s ∨ ∃ k, k < nGrp l ∧ guardG (grp l k) ∈ s ∧ p ∈ grp l k ∧ ∀ q ∈ grp l k, q ≠ p → q ∈ s) (hp : ys.Perm (mendO s)) (ho : ys.Pairwise (fun a b => a.seq ≤ b.seq)) : ys = l ∧ holesP ys (mendT s) = [] := by
  obtain ⟨m1, m2, m3, m4⟩ := mend_mem h hl hs
  have he : ys = l := by
    refine sorted_mem h.sorted ho (difS_perm m3.dif hp) fun p => ?_
    rw [hp.mem_iff]
    refine ⟨m2 p, fun hpl => (m1 p).2 ?_⟩
    rcases hall p hpl with h1 | h1
    · obtain ⟨i, hi, rfl, _⟩ := h.inj hpl
      exact .inl ⟨h1, (h i hi).g⟩
    · exact .inr h1
  refine ⟨he, ?_⟩
  rw [he]
  exact h.noHoles m4
end Go.Proofs.Ytdnkdjaokmibjaa

namespace Go.Proofs.Ytdnkdjaokmibjaa
open Go.RowKit

def keepL (g : List Pg) (L : Nat → Bool) (m : Nat) : List Pg := ((List.range m).filter (fun i => !L i)).map (fun i => g.getD i zg)
theorem keepL_out {g : List Pg} {L : Nat → Bool} {m : Nat} (h : L m = true) : keepL g L (m + 1) = keepL g L m := by
  simp [keepL, List.range_succ, List.filter_append, h]
theorem keepL_in {g : List Pg} {L : Nat → Bool} {m : Nat} (hm : m < g.length) (h : L m = false) : keepL g L (m + 1) = keepL g L m ++ [g[m]] := by
  simp [keepL, List.range_succ, List.filter_append, h, List.getElem?_eq_getElem hm]
theorem keepL_len (g : List Pg) (L : Nat → Bool) (m : Nat) : (keepL g L m).length ≤ m := by
  have := List.length_filter_le (fun i => !L i) (List.range m)
  simpa [keepL] using this
theorem keepL_mem {g : List Pg} {L : Nat → Bool} {x : Pg} : x ∈ keepL g L g.length ↔ ∃ i, ∃ hi : i < g.length, L i = false ∧ x = g[i] := by
  simp only [keepL, List.mem_map, List.mem_filter, List.mem_range]
  constructor
  · rintro ⟨i, ⟨hi, hL⟩, rfl⟩
    exact ⟨i, hi, by simpa using hL, gOk_at hi⟩
  · rintro ⟨i, hi, hL, rfl⟩
    exact ⟨i, ⟨hi, by simp [hL]⟩, gOk_at hi⟩

section
variable {l : List Pg}
theorem gTo_full {k : Nat} (h : 8 * k ≤ l.length) : (gTo l k).length = 9 * k := by
  induction k with
  | zero => rfl
  | succ k ih =>
    rw [gTo_succ, List.length_append, List.length_append, ih (by omega), grp_len]
    simp; omega
theorem gTo_split {k m : Nat} (h : k < m) : ∃ r, gTo l m = gTo l k ++ ((grp l k ++ [guardG (grp l k)]) ++ r) := by
  obtain ⟨d, rfl⟩ : ∃ d, m = k + (d + 1) := ⟨m - k - 1, by omega⟩
  refine ⟨((List.range d).map Nat.succ).flatMap fun j => grp l (k + j) ++ [guardG (grp l (k + j))], ?_⟩
  unfold gTo
  rw [List.range_add, List.flatMap_append, List.range_succ_eq_map]
  simp [List.flatMap_map]
theorem guarded_split {k : Nat} (hk : k < nGrp l) : ∃ r, guarded l = gTo l k ++ ((grp l k ++ [guardG (grp l k)]) ++ r) := gTo_split hk
theorem guarded_len : (guarded l).length = l.length + nGrp l := by
  by_cases h0 : l.length = 0
  · have : nGrp l = 0 := by unfold nGrp; omega
    show (gTo l (nGrp l)).length = _
    rw [this, h0]; rfl
  · have hn : nGrp l = (nGrp l - 1) + 1 := by unfold nGrp; omega
    show (gTo l (nGrp l)).length = _
    rw [hn, gTo_succ, List.length_append, List.length_append, gTo_full (by unfold nGrp; omega), grp_len]
    simp only [List.length_singleton]
    unfold nGrp; omega
theorem guarded_pg {k j : Nat} (hk : k < nGrp l) (hj : j < (grp l k).length) : ∃ h : 9 * k + j < (guarded l).length, (guarded l)[9 * k + j] = (grp l k)[j] := by
  obtain ⟨r, hr⟩ := guarded_split hk
  have hf : (gTo l k).length = 9 * k := gTo_full (by unfold nGrp at hk; omega)
  have hlen : 9 * k + j < (guarded l).length := by rw [hr]; simp; omega
  refine ⟨hlen, ?_⟩
  have : (guarded l)[9 * k + j] = (gTo l k ++ ((grp l k ++ [guardG (grp l k)]) ++ r))[9 * k + j]'(by rw [← hr]; exact hlen) := by congr 1
  rw [this, List.getElem_append_right (by omega), List.getElem_append_left (by simp; omega), List.getElem_append_left (by omega)]
  congr 1; omega
theorem guarded_gd {k : Nat} (hk : k < nGrp l) : ∃ h : 9 * k + (grp l k).length < (guarded l).length, (guarded l)[9 * k + (grp l k).length] = guardG (grp l k) := by
  obtain ⟨r, hr⟩ := guarded_split hk
  have hf : (gTo l k).length = 9 * k := gTo_full (by unfold nGrp at hk; omega)
  have hlen : 9 * k + (grp l k).length < (guarded l).length := by rw [hr]; simp; omega
  refine ⟨hlen, ?_⟩
  have : (guarded l)[9 * k + (grp l k).length] = (gTo l k ++ ((grp l k ++ [guardG (grp l k)]) ++ r))[9 * k + (grp l k).length]'(by rw [← hr]; exact hlen) := by congr 1
  rw [this, List.getElem_append_right (by omega), List.getElem_append_left (by simp; omega), List.getElem_append_right (by omega)]
  simp [hf]
/-- what lies at a place -/
theorem guarded_at {i : Nat} (hi : i < (guarded l).length) : i / 9 < nGrp l ∧ ((∃ hj : i % 9 < (grp l (i / 9)).length, (guarded l)[i] = (grp l (i / 9))[i % 9]) ∨ (i % 9 = (grp l (i / 9)).length ∧ (guarded l)[i] = guardG (grp l (i / 9)))) := by
  have hlen := guarded_len (l := l)
  have hk : i / 9 < nGrp l := by unfold nGrp at *; omega
  have hg := grp_len l (i / 9)
  have hd : 9 * (i / 9) + i % 9 = i := Nat.div_add_mod i 9
  refine ⟨hk, ?_⟩
  have hm : i % 9 ≤ (grp l (i / 9)).length := by unfold nGrp at *; omega
  rcases Nat.lt_or_eq_of_le hm with h | h
  · obtain ⟨h1, h2⟩ := guarded_pg hk h
    refine .inl ⟨h, ?_⟩
    rw [← h2]; congr 1; omega
  · obtain ⟨h1, h2⟩ := guarded_gd hk
    refine .inr ⟨h, ?_⟩
    rw [← h2]; congr 1; omega
theorem left_keep (h : Num l) (L : Nat → Bool) {s : List Pg} (hs : ∀ x, x ∈ s ↔ x ∈ keepL (guarded l) L (guarded l).length) : Left l s := by
  constructor
  · intro x hx hg
    obtain ⟨i, hi, _, rfl⟩ := keepL_mem.1 ((hs x).1 hx)
    obtain ⟨hk, ⟨hj, he⟩ | ⟨_, he⟩⟩ := guarded_at hi
    · rw [he]; exact grp_mem (List.getElem_mem hj)
    · rw [he] at hg; cases hg
  · intro x hx hg
    obtain ⟨i, hi, _, rfl⟩ := keepL_mem.1 ((hs x).1 hx)
    obtain ⟨hk, ⟨hj, he⟩ | ⟨_, he⟩⟩ := guarded_at hi
    · rw [he, (h.grpOk _).g _ (List.getElem_mem hj)] at hg; cases hg
    · exact ⟨_, hk, he⟩
/-- One of each group is out. -/
theorem left_one (h : Num l) {L : Nat → Bool} (hL : ∀ i j, i / 9 = j / 9 → L i = true → L j = true → i = j) {s : List Pg} (hs : ∀ x, x ∈ s ↔ x ∈ keepL (guarded l) L (guarded l).length) :
    ∀ p ∈ l, p ∈ s ∨ ∃ k, k < nGrp l ∧ guardG (grp l k) ∈ s ∧ p ∈ grp l k ∧ ∀ q ∈ grp l k, q ≠ p → q ∈ s := by
  intro p hp
  obtain ⟨i, hi, rfl, _⟩ := h.inj hp
  have hk : i / 8 < nGrp l := by unfold nGrp; omega
  have hg := grp_len l (i / 8)
  have hj : i % 8 < (grp l (i / 8)).length := by omega
  have hpe : (grp l (i / 8))[i % 8] = l[i] := by
    obtain ⟨h1, h2⟩ := grp_get hj
    rw [h2]; congr 1; omega
  obtain ⟨a1, a2⟩ := guarded_pg hk hj
  by_cases hlost : L (9 * (i / 8) + i % 8) = true
  · refine .inr ⟨i / 8, hk, ?_, by rw [← hpe]; exact List.getElem_mem hj, fun q hq hqp => ?_⟩
    · obtain ⟨b1, b2⟩ := guarded_gd hk
      rw [hs]
      refine keepL_mem.2 ⟨_, b1, ?_, b2.symm⟩
      cases hh : L (9 * (i / 8) + (grp l (i / 8)).length) with
      | false => rfl
      | true => have := hL _ _ (by omega) hlost hh; omega
    · obtain ⟨j, hj', rfl⟩ := List.getElem_of_mem hq
      have hne : j ≠ i % 8 := fun e => hqp (by subst e; exact hpe)
      obtain ⟨b1, b2⟩ := guarded_pg hk hj'
      rw [hs]
      refine keepL_mem.2 ⟨_, b1, ?_, b2.symm⟩
      cases hh : L (9 * (i / 8) + j) with
      | false => rfl
      | true => have := hL _ _ (by omega) hlost hh; omega
  · refine .inl ((hs _).2 (keepL_mem.2 ⟨_, a1, by simpa using hlost, ?_⟩))
    rw [a2, hpe]
end
end Go.Proofs.Ytdnkdjaokmibjaa
