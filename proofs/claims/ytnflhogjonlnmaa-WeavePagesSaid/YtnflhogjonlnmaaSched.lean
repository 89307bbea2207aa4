/- A region that draws its order, walked by a schedule: what only reads comes first wherever it may, what writes or makes memory stands in one order. The schedule is checked once. -/
import Derived.Test.YtnflhogjonlnmaaLib
import Derived.Deep.RegionHeld
set_option linter.unusedSimpArgs false
set_option linter.unusedVariables false
namespace Go.Proofs.Ytnflhogjonlnmaa
open Go.RowKit

section
variable {P : Program} {ops : Array Oper} {Q : Exit → Act → World → Prop} {S : World → Prop} {md : Region.Mode}

/-- what is listed when the first i stand -/
def pre (n i : Nat) : Array Bool := ((List.range n).map (fun j => decide (j < i))).toArray
theorem pre_get (n i j : Nat) (d : Bool) : (pre n i).getD j d = if j < n then decide (j < i) else d := by
  simp only [pre, Array.getD_eq_getD_getElem?, List.getElem?_toArray, List.getElem?_map]
  by_cases h : j < n
  · simp [h]
  · simp [h]
theorem pre_zero (n : Nat) : pre n 0 = Array.replicate n false := by
  apply Array.ext <;> simp [pre]
theorem pre_next {n i : Nat} (h : i < n) : (pre n i).setIfInBounds i true = pre n (i + 1) := by
  apply Array.ext
  · simp [pre]
  · intro k h1 h2
    rw [Array.getElem_setIfInBounds (by simpa using h1)]
    simp only [pre, List.getElem_toArray, List.getElem_map, List.getElem_range]
    by_cases hk : i = k
    · simp [hk]
    · rw [if_neg hk]; congr 1; apply propext; omega

theorem filter_one : ∀ (n i : Nat) (p : Nat → Bool), i < n → p i = true → (∀ j, j < n → j ≠ i → p j = false) → (List.range n).filter p = [i]
  | 0, _, _, h, _, _ => by omega
  | n + 1, i, p, h, h1, h2 => by
    rw [List.range_succ, List.filter_append]
    by_cases hi : i = n
    · subst hi
      have : (List.range i).filter p = [] := by
        rw [List.filter_eq_nil_iff]; intro j hj; have := List.mem_range.1 hj
        simp [h2 j (by omega) (by omega)]
      rw [this]; simp [h1]
    · rw [filter_one n i p (by omega) h1 (fun j hj hn => h2 j (by omega) hn)]
      simp [h2 n (by omega) (by omega)]

def backB (md : Region.Mode) (i : Nat) (o : Oper) : Bool := o.after.all fun e => !Region.binds md e || decide (e.on < i)
def linkB (md : Region.Mode) (t : Nat) (o : Oper) : Bool := t == 0 || o.after.any fun e => Region.binds md e && decide (t ≤ e.on + 1)

/-- The operations stand in one row, but for those of kind 2: of them the next may come up as well, and they are taken first. (0: walked; 1: yields a value.) -/
def lineB (md : Region.Mode) (ops : Array Oper) (n : Nat) : List (Nat × Nat) → Nat → Nat → Bool
  | [], i, _ => i == n
  | (k, m) :: r, i, t => k == i && (match ops[i]? with | none => false | some o => backB md i o && linkB md t o) && (if m = 2 then Region.free md ops (pre n i) i && lineB md ops n r (i + 1) t else lineB md ops n r (i + 1) (i + 1))

theorem lineB_len : ∀ (l : List (Nat × Nat)) (i t n : Nat), lineB md ops n l i t = true → i + l.length = n
  | [], i, t, n, h => by simpa [lineB] using h
  | (k, m) :: r, i, t, n, h => by
    simp only [lineB, Bool.and_eq_true] at h
    have h2 := h.2
    split at h2
    · have := lineB_len r _ _ _ (Bool.and_eq_true_iff.1 h2).2; simp only [List.length_cons]; omega
    · have := lineB_len r _ _ _ h2; simp only [List.length_cons]; omega

theorem linkB_le {t t' : Nat} {o : Oper} (h : t ≤ t') (ht : t' ≠ 0) (hl : linkB md t' o = true) : linkB md t o = true := by
  simp only [linkB, Bool.or_eq_true, beq_iff_eq, Array.any_eq_true', Bool.and_eq_true, decide_eq_true_eq] at hl ⊢
  rcases hl with hl | ⟨e, he, h1, h2⟩
  · exact absurd hl ht
  · exact .inr ⟨e, he, h1, by omega⟩

theorem lineB_link : ∀ (l : List (Nat × Nat)) (i t n : Nat), t ≤ i → lineB md ops n l i t = true → ∀ j, i ≤ j → j < n → ∃ o, ops[j]? = some o ∧ linkB md t o = true
  | [], i, t, n, _, h, j, h1, h2 => by
    have : i = n := by simpa [lineB] using h
    omega
  | (k, m) :: r, i, t, n, ht, h, j, h1, h2 => by
    simp only [lineB, Bool.and_eq_true] at h
    obtain ⟨⟨_, h3⟩, h4⟩ := h
    by_cases hj : j = i
    · subst hj
      cases ho : ops[j]? with
      | none => simp [ho] at h3
      | some o => simp only [ho, Bool.and_eq_true] at h3; exact ⟨o, rfl, h3.2⟩
    · split at h4
      · exact lineB_link r (i + 1) t n (by omega) (Bool.and_eq_true_iff.1 h4).2 j (by omega) h2
      · obtain ⟨o, ho, hl⟩ := lineB_link r (i + 1) (i + 1) n (by omega) h4 j (by omega) h2
        exact ⟨o, ho, linkB_le (by omega) (by omega) hl⟩

theorem ready_at {i : Nat} {o : Oper} (ho : ops[i]? = some o) (hb : backB md i o = true) :
    (!(pre ops.size i).getD i true && ((ops[i]?).map (·.after.all fun e => !Region.binds md e || (pre ops.size i).getD e.on false)).getD false) = true := by
  have hi : i < ops.size := (Array.getElem?_eq_some_iff.1 ho).1
  rw [ho, pre_get, if_pos hi]
  simp only [backB, Array.all_eq_true_iff_forall_mem, Bool.or_eq_true, decide_eq_true_eq] at hb
  simp only [Nat.lt_irrefl, decide_false, Bool.not_false, Option.map_some, Option.getD_some, Bool.true_and, Array.all_eq_true_iff_forall_mem, Bool.or_eq_true]
  intro e he
  rcases hb e he with h | h
  · exact .inl h
  · right; rw [pre_get, if_pos (by omega)]; simpa using h

theorem ready_row {i : Nat} {o : Oper} (ho : ops[i]? = some o) (hb : backB md i o = true) (hl : ∀ j, i + 1 ≤ j → j < ops.size → ∃ o, ops[j]? = some o ∧ linkB md (i + 1) o = true) :
    Region.ready md ops (pre ops.size i) = [i] := by
  refine filter_one _ _ _ (Array.getElem?_eq_some_iff.1 ho).1 (ready_at ho hb) fun j hj hn => ?_
  rw [pre_get, if_pos hj]
  by_cases h : j < i
  · simp [h]
  · obtain ⟨oj, h1, h2⟩ := hl j (by omega) hj
    simp only [linkB, Bool.or_eq_true, beq_iff_eq, Nat.add_eq_zero_iff, Nat.one_ne_zero, and_false, false_or, Array.any_eq_true', Bool.and_eq_true, decide_eq_true_eq] at h2
    obtain ⟨e, he, h3, h4⟩ := h2
    rw [h1]
    simp only [Option.map_some, Option.getD_some, Bool.and_eq_false_iff]
    right
    rw [Bool.eq_false_iff]
    intro hA
    have := Array.all_eq_true_iff_forall_mem.1 hA e he
    rw [h3, pre_get] at this
    split at this
    · have : e.on < i := by simpa using this
      omega
    · simp at this

/-- What is to be shown: of kind 0 alone the operation is walked. -/
def wpSched (P : Program) (ops : Array Oper) (Q : Exit → Act → World → Prop) (S : World → Prop) : List (Nat × Nat) → Act → World → Prop
  | [], a, w => Q .normal a w
  | (i, 0) :: r, a, w => wpOp P ops Q i (fun a' w' => S w' ∧ wpSched P ops Q S r a' w') a w
  | (i, _ + 1) :: r, a, w => ∃ o v, ops[i]? = some o ∧ YieldsIf P ops S o v a ∧ wpSched P ops Q S r (a.put o.dst v) w

theorem wpAnyH_line (hs : Region.noSelect ops = true) (hQ : ∀ c a d v w, Q (.panic c) (a.put d v) w → Q (.panic c) a w) :
    ∀ (l : List (Nat × Nat)) (i t : Nat) (a : Act) (w : World), t ≤ i → S w → lineB md ops ops.size l i t = true → wpSched P ops Q S l a w → wpAnyH P md ops Q S l.length (pre ops.size i) a w
  | [], i, t, a, w, _, hS, hB, h => by
    refine ⟨?_, h⟩
    have : i = ops.size := by simpa [lineB] using hB
    rw [Region.ready, List.filter_eq_nil_iff]
    intro j hj
    have := List.mem_range.1 hj
    rw [pre_get, if_pos this]
    simp; omega
  | (k, m) :: r, i, t, a, w, ht, hS, hB, h => by
    simp only [lineB, Bool.and_eq_true] at hB
    obtain ⟨⟨h1, h2⟩, h3⟩ := hB
    obtain rfl : k = i := by simpa using h1
    cases ho : ops[k]? with
    | none => simp [ho] at h2
    | some o =>
      simp only [ho, Bool.and_eq_true] at h2
      have hk : k < ops.size := (Array.getElem?_eq_some_iff.1 ho).1
      match m, h3, h with
      | 0, h3, h =>
        rw [if_neg (by omega)] at h3
        refine wpAnyH_all (ready_row ho h2.1 (lineB_link r (k + 1) (k + 1) _ (Nat.le_refl _) h3)) (by simp) fun j hj => ?_
        obtain rfl : j = k := by simpa using hj
        rw [pre_next hk]
        exact wpOp_mono (fun a' w' h' => ⟨h'.1, wpAnyH_line hs hQ r _ _ a' w' (Nat.le_refl _) h'.1 h3 h'.2⟩) h
      | 1, h3, h =>
        rw [if_neg (by omega)] at h3
        obtain ⟨o', v, ho', hy, h4⟩ := h
        refine wpAnyH_all (ready_row ho h2.1 (lineB_link r (k + 1) (k + 1) _ (Nat.le_refl _) h3)) (by simp) fun j hj => ?_
        obtain rfl : j = k := by simpa using hj
        rw [pre_next hk]
        exact YieldsIf.wpOp ho' hy hS ⟨hS, wpAnyH_line hs hQ r _ _ _ w (Nat.le_refl _) hS h3 h4⟩
      | 2, h3, h =>
        rw [if_pos rfl, Bool.and_eq_true] at h3
        obtain ⟨o', v, ho', hy, h4⟩ := h
        refine wpAnyH_take ho' hs h3.1 ?_ (fun c a w h => hQ c a _ _ w h) hy hS ?_
        · rw [List.contains_iff_mem, Region.ready, List.mem_filter]
          exact ⟨List.mem_range.2 hk, ready_at ho h2.1⟩
        · rw [pre_next hk]
          exact wpAnyH_line hs hQ r _ _ _ w (by omega) hS h3.2 h4
      | m + 3, h3, h =>
        rw [if_neg (by omega)] at h3
        obtain ⟨o', v, ho', hy, h4⟩ := h
        refine wpAnyH_all (ready_row ho h2.1 (lineB_link r (k + 1) (k + 1) _ (Nat.le_refl _) h3)) (by simp) fun j hj => ?_
        obtain rfl : j = k := by simpa using hj
        rw [pre_next hk]
        exact YieldsIf.wpOp ho' hy hS ⟨hS, wpAnyH_line hs hQ r _ _ _ w (Nat.le_refl _) hS h3 h4⟩

theorem wp_region_sched {id : Nat} {a : Act} {w : World} (l : List (Nat × Nat)) (hm : P.follows .mixedOrders = true) (hs : Region.noSelect ops = true) (hB : lineB .any ops ops.size l 0 0 = true)
    (hQ : ∀ c a d v w, Q (.panic c) (a.put d v) w → Q (.panic c) a w) (hS : S w.drew) (h : S w.drew → ∀ ops', Hid (ops = ops') → wpSched P ops' Q S l a w.drew) : (Code.region id ops true).wp P Q a w := by
  refine wp_region_held (S := S) hm ?_
  have hn := lineB_len l _ _ _ hB
  rw [Nat.zero_add] at hn
  rw [← hn, ← pre_zero l.length]
  have := wpAnyH_line hs hQ l 0 0 a w.drew (Nat.le_refl _) hS hB (h hS ops (Lib.hid rfl))
  rwa [← hn] at this

theorem wpSched_nil {a : Act} {w : World} (h : Q .normal a w) : wpSched P ops Q S [] a w := h
theorem wpSched_take {ops0 : Array Oper} {i m : Nat} {o : Oper} {v : Value} {r : List (Nat × Nat)} {a : Act} {w : World} (hO : Hid (ops0 = ops)) (ho : ops0[i]? = some o) (hy : YieldsIf P ops0 S o v a) (h : wpSched P ops Q S r (a.put o.dst v) w) : wpSched P ops Q S ((i, m + 1) :: r) a w := by
  rw [Hid] at hO; subst hO; exact ⟨o, v, ho, hy, h⟩
theorem wpSched_step {ops0 : Array Oper} {i : Nat} {o : Oper} {r : List (Nat × Nat)} {a : Act} {w : World} (hO : Hid (ops0 = ops)) (ho : ops0[i]? = some o)
    (h : ∀ K : Act → World → Prop, Shut (∀ a w, S w → (S w → wpSched P ops Q S r a w) → K a w) → if Region.wanted o (yielded ops0 a.tmps) = true then Oper.wp P o a w K Q else K (a.put o.dst undef) w) : wpSched P ops Q S ((i, 0) :: r) a w := by
  rw [Hid] at hO; subst hO
  have h1 := h (fun a' w' => S w' ∧ wpSched P ops0 Q S r a' w') (fun a w hS hW => ⟨hS, hW hS⟩)
  show wpOp P ops0 Q i _ a w
  unfold wpOp
  simp only [ho]
  split
  · rename_i hw; rw [if_pos hw] at h1; exact .inl h1
  · rename_i hw; rw [if_neg hw] at h1; exact h1
end
end Go.Proofs.Ytnflhogjonlnmaa
