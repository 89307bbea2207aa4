/- A region in any order whose last operation waits for all others: the region without it, then it. -/
import Derived.Test.YtbbflddhbamjbaaLib
import Derived.StillTail
import Derived.Deep.RegionHeld
set_option linter.unusedSimpArgs false
set_option linter.unusedVariables false
namespace Go.Proofs.Ytbbflddhbamjbaa
open Go.RowKit

/-- Each operation waits for earlier ones only. -/
def ordB (ops : Array Oper) (md : Region.Mode := .any) : Bool := (List.range ops.size).all fun j => ((ops[j]?).map fun o => o.after.all fun e => !Region.binds md e || decide (e.on < j)).getD true
def plainB (ops : Array Oper) : Bool := ops.all fun o => o.guard.isNone

section
variable {P : Program} {md : Region.Mode} {ops : Array Oper} {Q Q' : Exit → Act → World → Prop} {n : Nat}

theorem ordB_spec (h : ordB ops md = true) {j : Nat} {o : Oper} (ho : ops[j]? = some o) : ∀ e ∈ o.after, Region.binds md e = true → e.on < j := fun e he hb => by
  have hj : j < ops.size := (Array.getElem?_eq_some_iff.1 ho).1
  have h1 := List.all_eq_true.1 h j (List.mem_range.2 hj)
  simp only [ho, Option.map_some, Option.getD_some] at h1
  have h2 := (Array.all_eq_true_iff_forall_mem.1 h1) e he
  rw [hb, Bool.not_true, Bool.false_or] at h2
  exact of_decide_eq_true h2
theorem plainB_spec (h : plainB ops = true) {j : Nat} {o : Oper} (ho : ops[j]? = some o) : o.guard = none := by
  have h2 := (Array.all_eq_true_iff_forall_mem.1 h) o (Array.mem_of_getElem? ho)
  simpa using h2
theorem getD_push_lt {l : Array Bool} {j : Nat} (d : Bool) (h : j < l.size) : (l.push false).getD j d = l.getD j d := by
  simp [Array.getD_eq_getD_getElem?, Array.getElem?_push, Nat.ne_of_lt h]
theorem pop_get {j : Nat} (hn : n + 1 = ops.size) (h : j < n) : ops.pop[j]? = ops[j]? := by
  rw [Array.getElem?_pop]
  simp; omega
theorem pop_size (hn : n + 1 = ops.size) : ops.pop.size = n := by simp; omega
theorem ready_push (hn : n + 1 = ops.size) (hord : ordB ops md = true) {l : Array Bool} (hl : l.size = n) {j : Nat} (hj : j < n) : j ∈ Region.ready md ops (l.push false) ↔ j ∈ Region.ready md ops.pop l := by
  rw [mem_ready, mem_ready, pop_get hn hj, getD_push_lt true (by omega)]
  refine and_congr_right fun _ => exists_congr fun o => and_congr_right fun ho => forall_congr' fun e => forall_congr' fun he => forall_congr' fun hb => ?_
  have := ordB_spec hord ho e he hb
  rw [getD_push_lt false (by omega)]
theorem head_ready (hn : n + 1 = ops.size) (hord : ordB ops md = true) {l : Array Bool} (hl : l.size = n) : ∀ i, i < n → l.getD i true = false → Region.ready md ops.pop l ≠ [] := by
  intro i
  induction i using Nat.strongRecOn with
  | _ i ih =>
    intro hi hun h0
    obtain ⟨o, ho⟩ : ∃ o, ops[i]? = some o := ⟨_, Array.getElem?_eq_getElem (by omega)⟩
    by_cases hall : ∀ e ∈ o.after, Region.binds md e = true → l.getD e.on false = true
    · have : i ∈ Region.ready md ops.pop l := mem_ready.2 ⟨hun, o, by rw [pop_get hn hi]; exact ho, fun e he hb => hall e he hb⟩
      rw [h0] at this
      cases this
    · simp only [Classical.not_forall] at hall
      obtain ⟨e, he, hb, hne⟩ := hall
      have hlt := ordB_spec hord ho e he hb
      refine ih e.on hlt (by omega) ?_ h0
      refine getD_in (by omega) ?_
      simpa using hne

theorem letsOut_mono (hQ : ∀ e a w, e ≠ .normal → Q' e a w → Q e a w) (h : LetsOut Q') : LetsOut Q := by
  obtain ⟨a, w, h⟩ := h
  exact ⟨a, w, hQ _ _ _ (by simp) h⟩
theorem wp_exits (hQ : ∀ e a w, e ≠ .normal → Q' e a w → Q e a w) {o : Oper} {K : Act → World → Prop} {a : Act} {w : World} (h : o.wp P a w K Q') : o.wp P a w K Q := by
  unfold Oper.wp at *
  generalize (execOp a.eval o).run P w = r at *
  match r, h with
  | .ok (.value v) w', h => exact h
  | .ok .skip w', h => exact h
  | .ok (.defer d) w', h => exact h
  | .ok (.enter f args) w', h =>
    refine Calls.mono h fun e w'' h' => ?_
    cases e with
    | returned v => exact h'
    | panicked c => exact hQ _ _ _ (by simp) h'
    | outgrown => exact letsOut_mono hQ h'
  | .ok (.row row args) w', h => exact h
  | .halt (.panic v) w', h => exact hQ _ _ _ (by simp) h
theorem wpOp_exits (hQ : ∀ e a w, e ≠ .normal → Q' e a w → Q e a w) {i : Nat} {K : Act → World → Prop} {a : Act} {w : World} (h : wpOp P ops Q' i K a w) : wpOp P ops Q i K a w := by
  unfold wpOp at *
  split at h
  · exact h
  · split at h
    · rename_i hw
      rw [if_pos hw]
      rcases h with h | ⟨h1, h2⟩
      · exact .inl (wp_exits hQ h)
      · exact .inr ⟨h1, letsOut_mono hQ h2⟩
    · rename_i hw
      rw [if_neg hw]
      exact h
theorem wpOp_pop (hn : n + 1 = ops.size) (hpl : plainB ops = true) {i : Nat} (hi : i < n) {K : Act → World → Prop} {a : Act} {w : World} (h : wpOp P ops.pop Q i K a w) : wpOp P ops Q i K a w := by
  obtain ⟨o, ho⟩ : ∃ o, ops[i]? = some o := ⟨_, Array.getElem?_eq_getElem (by omega)⟩
  have hg := plainB_spec hpl ho
  have ho' : ops.pop[i]? = some o := by rw [pop_get hn hi]; exact ho
  unfold wpOp at *
  simp only [ho, ho', Region.wanted, hg] at *
  exact h
theorem wpAny_pop (hn : n + 1 = ops.size) (hord : ordB ops md = true) (hpl : plainB ops = true) (hs : Region.sinkB md ops n = true) (hc : Region.chainB md ops n = true) (hQ : ∀ e a w, e ≠ .normal → Q' e a w → Q e a w) (hL : ∀ a w, Q' .normal a w → wpOp P ops Q n (Q .normal) a w) :
    ∀ (fuel : Nat) (l : Array Bool) (a : Act) (w : World), l.size = n → HeadInv md ops n (l.push false) → wpAny P md ops.pop Q' fuel l a w → wpAny P md ops Q (fuel + 1) (l.push false) a w := by
  have hend : ∀ (fuel : Nat) (l : Array Bool) (a : Act) (w : World), l.size = n → HeadInv md ops n (l.push false) → Region.ready md ops.pop l = [] → Q' .normal a w → wpAny P md ops Q (fuel + 1) (l.push false) a w := fun fuel l a w hl inv h0 h => by
    have hall : ∀ i, i < n → l.getD i true = true := fun i hi => by
      cases hu : l.getD i true with
      | true => rfl
      | false => exact absurd h0 (head_ready hn hord hl i hi hu)
    obtain ⟨o, ho⟩ : ∃ o, ops[n]? = some o := ⟨_, Array.getElem?_eq_getElem (by omega)⟩
    have hnr : n ∈ Region.ready md ops (l.push false) := mem_ready.2 ⟨inv.tail n (Nat.le_refl _) (by omega), o, ho, fun e he hb => by
      have := ordB_spec hord ho e he hb
      rw [getD_push_lt false (by omega)]
      have h1 := hall e.on this
      have h2 : e.on < l.size := by omega
      simpa [Array.getD, h2] using h1⟩
    have hlast : ∀ f a w, Q .normal a w → wpAny P md ops Q f ((l.push false).setIfInBounds n true) a w := fun f a w hq => by
      have hr : Region.ready md ops ((l.push false).setIfInBounds n true) = [] := by
        refine List.eq_nil_iff_forall_not_mem.2 fun j hj => ?_
        obtain ⟨hun, oj, hoj, _⟩ := mem_ready.1 hj
        have hjs : j < ops.size := (Array.getElem?_eq_some_iff.1 hoj).1
        by_cases hjn : j = n
        · subst hjn
          simp [hl] at hun
        · rw [getD_set_ne true (by omega), getD_push_lt true (by omega), hall j (by omega)] at hun
          cases hun
      cases f with
      | zero => exact ⟨hr, hq⟩
      | succ f => exact ⟨fun _ => hq, by rw [hr]; simp⟩
    refine ⟨fun h1 => (by rw [h1] at hnr; cases hnr), fun i hi => ?_⟩
    by_cases hin : i < n
    · rw [ready_push hn hord hl hin, h0] at hi
      cases hi
    · obtain ⟨_, oi, hoi, _⟩ := mem_ready.1 hi
      have : i < ops.size := (Array.getElem?_eq_some_iff.1 hoi).1
      obtain rfl : i = n := by omega
      exact wpOp_mono (fun a' w' h' => hlast fuel a' w' h') (hL a w h)
  intro fuel
  induction fuel with
  | zero => exact fun l a w hl inv h => hend 0 l a w hl inv h.1 h.2
  | succ fuel ih =>
    intro l a w hl inv h
    by_cases h0 : Region.ready md ops.pop l = []
    · exact hend (fuel + 1) l a w hl inv h0 (h.1 h0)
    · refine ⟨fun h1 => ?_, fun i hi => ?_⟩
      · obtain ⟨j, hj⟩ := List.exists_mem_of_ne_nil _ h0
        obtain ⟨_, oj, hoj, _⟩ := mem_ready.1 hj
        have hjn : j < n := by have := (Array.getElem?_eq_some_iff.1 hoj).1; rw [pop_size hn] at this; exact this
        rw [← ready_push hn hord hl hjn, h1] at hj
        cases hj
      · have hin : i < n := by
          rcases Nat.lt_or_ge i n with h2 | h2
          · exact h2
          · exfalso
            obtain ⟨j, hj⟩ := List.exists_mem_of_ne_nil _ h0
            obtain ⟨hjun, oj, hoj, _⟩ := mem_ready.1 hj
            have hjn : j < n := by have := (Array.getElem?_eq_some_iff.1 hoj).1; rw [pop_size hn] at this; exact this
            exact tail_waits hs hc (by omega) inv (n - j) j rfl hjn (by rw [getD_push_lt true (by omega)]; exact hjun) i h2 hi
        have h3 := wpOp_pop hn hpl hin (h.2 i ((ready_push hn hord hl hin).1 hi))
        have e : (l.push false).setIfInBounds i true = (l.setIfInBounds i true).push false := by
          apply Array.ext'
          simp only [Array.toList_setIfInBounds, Array.toList_push]
          rw [List.set_append_left _ _ (by rw [Array.length_toList]; omega)]
        refine wpOp_mono (fun a' w' h4 => ?_) (wpOp_exits hQ h3)
        have inv' := inv.set hi hin
        rw [e] at inv' ⊢
        exact ih _ a' w' (by simp [hl]) inv' h4
/-- What follows the region without its last operation. -/
def lastQ (P : Program) (ops : Array Oper) (Q : Exit → Act → World → Prop) (n : Nat) : Exit → Act → World → Prop
  | .normal, a, w => wpOp P ops Q n (Q .normal) a w
  | e, a, w => Q e a w
theorem wp_region_last {S : World → Prop} {id : Nat} {a : Act} {w : World} (n : Nat) (ops' : Array Oper) (hpop : ops.pop = ops') (hm : P.follows .mixedOrders = true) (hn : n + 1 = ops.size) (hord : ordB ops = true) (hpl : plainB ops = true) (hs : Region.sinkB .any ops n = true)
    (hS : S w.drew) (h : S w.drew → wpAnyH P .any ops' (lastQ P ops Q n) S n (Array.replicate n false) a w.drew) : (Code.region id ops true).wp P Q a w := by
  subst hpop
  refine wp_region_any hm ?_
  have hc : Region.chainB .any ops n = true := by
    unfold Region.chainB
    rw [List.all_eq_true]
    intro t ht
    rw [List.mem_range] at ht
    rw [Bool.or_eq_true, decide_eq_true_eq]
    exact .inl (by omega)
  have e : (Array.replicate n false).push false = Array.replicate ops.size false := by
    apply Array.ext'
    rw [← hn, Array.toList_push, Array.toList_replicate, Array.toList_replicate, List.replicate_succ']
  rw [← e, ← hn]
  refine wpAny_pop hn hord hpl hs hc (fun e a w he h => ?_) (fun a w h => h) n _ a _ (by simp) ⟨by simp; omega, fun j oj _ hl => ?_, fun t h1 h2 => ?_⟩ (wpAny_of_held _ _ _ _ (h hS))
  · cases e with
    | normal => exact absurd rfl he
    | _ => exact h
  · rw [e, getD_replicate_false] at hl
    cases hl
  · obtain rfl : t = n := by omega
    rw [e]
    simp [Array.getD, h2]
theorem lastQ_step {o : Oper} {a : Act} {w : World} (ho : ops[n]? = some o)
    (h : ∀ K : Act → World → Prop, (∀ a w, Q .normal a w → K a w) → if Region.wanted o (yielded ops a.tmps) = true then Oper.wp P o a w K Q else K (a.put o.dst undef) w) : lastQ P ops Q n .normal a w := wpOp_step ho h
end
end Go.Proofs.Ytbbflddhbamjbaa
