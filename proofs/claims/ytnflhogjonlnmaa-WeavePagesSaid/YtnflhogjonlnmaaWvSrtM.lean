/- slices.SortStableFunc of the call's own packets. -/
import Derived.Test.YtnflhogjonlnmaaWvAllL
import Derived.Test.YtnflhogjonlnmaaSrtStb
import Derived.Test.YtnflhogjonlnmaaOwnS
set_option linter.unusedSimpArgs false
set_option linter.unusedVariables false
namespace Go.Proofs.Ytnflhogjonlnmaa
open Go.RowKit

def ltP (p q : Pk) : Bool := decide (p.at_ < q.at_ ∨ (p.at_ = q.at_ ∧ p.st < q.st))
def eqP (p q : Pk) : Bool := decide (p.at_ = q.at_ ∧ p.st = q.st)
def SrdP (l : List Pk) : Prop := l.Pairwise fun x y => ltP y x = false
def SrtP (l l' : List Pk) : Prop := ∀ z, l'.filter (eqP z) = l.filter (eqP z)
theorem eqP_self (p : Pk) : eqP p p = true := by simp [eqP]
theorem SrtP.mem {l l' : List Pk} (h : SrtP l l') {x : Pk} : x ∈ l' ↔ x ∈ l := by
  have h1 := h x
  constructor
  · intro hx
    have h2 : x ∈ l'.filter (eqP x) := List.mem_filter.2 ⟨hx, eqP_self x⟩
    rw [h1] at h2
    exact (List.mem_filter.1 h2).1
  · intro hx
    have h2 : x ∈ l.filter (eqP x) := List.mem_filter.2 ⟨hx, eqP_self x⟩
    rw [← h1] at h2
    exact (List.mem_filter.1 h2).1
theorem srt_uniq : ∀ (l l' : List Pk), SrdP l → SrdP l' → SrtP l l' → l' = l
  | [], l', _, _, h => by
    cases l' with
    | nil => rfl
    | cons y t =>
      have := (h.mem (x := y)).1 (List.mem_cons_self ..)
      cases this
  | x :: t, l', h1, h2, h => by
    cases l' with
    | nil =>
      have := (h.mem (x := x)).2 (List.mem_cons_self ..)
      cases this
    | cons y t' =>
      have hy := (h.mem (x := y)).1 (List.mem_cons_self ..)
      have hx := (h.mem (x := x)).2 (List.mem_cons_self ..)
      have q1 : ltP y x = false := by
        rcases List.mem_cons.1 hy with e | e
        · subst e; simp [ltP]
        · exact (List.pairwise_cons.1 h1).1 y e
      have q2 : ltP x y = false := by
        rcases List.mem_cons.1 hx with e | e
        · subst e; simp [ltP]
        · exact (List.pairwise_cons.1 h2).1 x e
      have q3 : eqP x y = true := by
        simp only [ltP, eqP, decide_eq_true_eq, decide_eq_false_iff_not] at *; omega
      have h3 := h x
      rw [List.filter_cons_of_pos q3, List.filter_cons_of_pos (eqP_self x)] at h3
      injection h3 with e1 e2
      subst e1
      have ht : SrtP t t' := fun z => by
        have h4 := h z
        by_cases hz : eqP z y = true
        · rw [List.filter_cons_of_pos hz, List.filter_cons_of_pos hz] at h4
          injection h4
        · rw [List.filter_cons_of_neg hz, List.filter_cons_of_neg hz] at h4
          exact h4
      rw [srt_uniq t t' (List.pairwise_cons.1 h1).2 (List.pairwise_cons.1 h2).2 ht]
def okAll (rs : List (List Pk)) : Prop := ∀ i, i < rs.length → ∀ q ∈ rs.getD i [], q.st = (i : Int)
def ascAll (rs : List (List Pk)) : Prop := ∀ i, i < rs.length → (rs.getD i []).Pairwise (fun p q => p.at_ ≤ q.at_)
theorem getD_rs {rs : List (List Pk)} {i : Nat} (h : i < rs.length) : rs.getD i [] = rs[i] := by rw [List.getD_eq_getElem?_getD, List.getElem?_eq_getElem h]; rfl
theorem getD_set_l {rs : List (List Pk)} {m i : Nat} {l : List Pk} (h : m < rs.length) : (rs.set m l).getD i [] = if m = i then l else rs.getD i [] := by
  rw [List.getD_eq_getElem?_getD, List.getElem?_set, List.getD_eq_getElem?_getD]
  by_cases hmi : m = i
  · subst hmi; simp [h]
  · simp [hmi]
theorem split_rs {rs : List (List Pk)} {m : Nat} (h : m < rs.length) : rs = rs.take m ++ rs[m] :: rs.drop (m + 1) := by
  rw [← List.drop_eq_getElem_cons h, List.take_append_drop]
theorem set_rs {rs : List (List Pk)} {m : Nat} (h : m < rs.length) (l : List Pk) : rs.set m l = rs.take m ++ l :: rs.drop (m + 1) := by
  rw [List.set_eq_take_append_cons_drop, if_pos h]
theorem mem_rs {rs : List (List Pk)} {q : Pk} : q ∈ rs.flatten ↔ ∃ j, j < rs.length ∧ q ∈ rs.getD j [] := by
  rw [List.mem_flatten]
  constructor
  · rintro ⟨l, hl, hq⟩
    obtain ⟨j, hj, rfl⟩ := List.mem_iff_getElem.1 hl
    exact ⟨j, hj, by rw [getD_rs hj]; exact hq⟩
  · rintro ⟨j, hj, hq⟩
    exact ⟨rs[j], List.getElem_mem hj, by rw [getD_rs hj] at hq; exact hq⟩
theorem total_flat (rs : List (List Pk)) : rs.flatten.length = total rs := by rw [List.length_flatten]; rfl
theorem filter_none {rs : List (List Pk)} {z : Pk} (h : ∀ l ∈ rs, ∀ q ∈ l, eqP z q = false) : rs.flatten.filter (eqP z) = [] := by
  rw [List.filter_eq_nil_iff]
  intro q hq
  obtain ⟨l, hl, hq⟩ := List.mem_flatten.1 hq
  rw [h l hl q hq]; simp
theorem okAll_tail {rs : List (List Pk)} {m : Nat} {p : Pk} {l : List Pk} (hm : m < rs.length) (hr : rs[m] = p :: l) (h : okAll rs) : okAll (rs.set m l) := fun i hi q hq => by
  rw [List.length_set] at hi
  rw [getD_set_l hm] at hq
  by_cases hmi : m = i
  · rw [if_pos hmi] at hq
    subst hmi
    exact h m hm q (by rw [getD_rs hm, hr]; exact List.mem_cons_of_mem _ hq)
  · rw [if_neg hmi] at hq
    exact h i hi q hq
theorem ascAll_tail {rs : List (List Pk)} {m : Nat} {p : Pk} {l : List Pk} (hm : m < rs.length) (hr : rs[m] = p :: l) (h : ascAll rs) : ascAll (rs.set m l) := fun i hi => by
  rw [List.length_set] at hi
  rw [getD_set_l hm]
  by_cases hmi : m = i
  · rw [if_pos hmi]
    subst hmi
    have := h m hm
    rw [getD_rs hm, hr] at this
    exact (List.pairwise_cons.1 this).2
  · rw [if_neg hmi]
    exact h i hi
/-- The first one lies before all that are left. -/
theorem first_le {rs : List (List Pk)} {m : Nat} {p : Pk} {l : List Pk} (hf : firstQ rs = (m : Int)) (hm : m < rs.length) (hr : rs[m] = p :: l) (ho : okAll rs) (ha : ascAll rs) : ∀ q ∈ rs.flatten, ltP q p = false := fun q hq => by
  obtain ⟨j, hj, hq⟩ := mem_rs.1 hq
  have hne : rs.getD j [] ≠ [] := fun e => by rw [e] at hq; cases hq
  have hl := firstUp_least rs rs.length (by show 0 ≤ firstQ rs; rw [hf]; omega) j hj hne
  have hf' : firstUp rs rs.length = (m : Int) := hf
  rw [hf', Int.toNat_natCast, getD_rs hm, hr] at hl
  have hqs := ho j hj q hq
  have hps := ho m hm p (by rw [getD_rs hm, hr]; exact List.mem_cons_self ..)
  have hh : headAt (rs.getD j []) ≤ q.at_ := by
    have hj2 := ha j hj
    revert hq hj2
    cases rs.getD j [] with
    | nil => intro hq; cases hq
    | cons a t =>
      intro hq hj2
      rcases List.mem_cons.1 hq with e | e
      · subst e; exact Int.le_refl _
      · exact (List.pairwise_cons.1 hj2).1 q e
  have hp : headAt (p :: l) = p.at_ := rfl
  rw [hp] at hl
  simp only [ltP, decide_eq_false_iff_not]
  omega
theorem merge_srt : ∀ (n : Nat) (rs : List (List Pk)), total rs = n → okAll rs → ascAll rs → SrdP (merge n rs) ∧ SrtP rs.flatten (merge n rs)
  | 0, rs, hn, _, _ => by
    have h : rs.flatten = [] := List.eq_nil_of_length_eq_zero (by rw [total_flat]; exact hn)
    rw [merge, h]
    exact ⟨List.Pairwise.nil, fun _ => rfl⟩
  | n + 1, rs, hn, ho, ha => by
    by_cases h0 : firstQ rs < 0
    · have := total_zero h0; omega
    · obtain ⟨m, hf⟩ := Int.eq_ofNat_of_zero_le (show 0 ≤ firstQ rs by omega)
      obtain ⟨hm, p, l, hr⟩ := first_at hf
      have ht := total_set hm hr
      have hs := merge_step hf hm hr
      rw [hn] at hs
      have ih := merge_srt n (rs.set m l) (by omega) (okAll_tail hm hr ho) (ascAll_tail hm hr ha)
      rw [show total (rs.set m l) = n by omega] at hs
      rw [hs]
      have hle := first_le hf hm hr ho ha
      have hflat : rs.flatten = (rs.take m).flatten ++ ((p :: l) ++ (rs.drop (m + 1)).flatten) := by
        rw [← hr, ← List.flatten_cons, ← List.flatten_append, ← split_rs hm]
      have hflat2 : (rs.set m l).flatten = (rs.take m).flatten ++ (l ++ (rs.drop (m + 1)).flatten) := by
        rw [set_rs hm, List.flatten_append, List.flatten_cons]
      constructor
      · refine List.pairwise_cons.2 ⟨fun q hq => hle q ?_, ih.1⟩
        have h2 := ih.2.mem.1 hq
        rw [hflat2] at h2
        rw [hflat]
        simp only [List.mem_append, List.mem_cons] at h2 ⊢
        rcases h2 with h2 | h2 | h2
        · exact .inl h2
        · exact .inr (.inl (.inr h2))
        · exact .inr (.inr h2)
      · intro z
        have h2 := ih.2 z
        rw [hflat2, List.filter_append, List.filter_append] at h2
        rw [hflat, List.filter_append, List.filter_append]
        by_cases hz : eqP z p = true
        · have hp0 : (rs.take m).flatten.filter (eqP z) = [] := filter_none fun k hk q hq => by
            obtain ⟨j, hj, rfl⟩ := List.mem_iff_getElem.1 hk
            have hjm : j < m := by simp at hj; omega
            rw [List.getElem_take] at hq
            have h3 := ho j (by omega) q (by rw [getD_rs (by omega)]; exact hq)
            have h4 := ho m hm p (by rw [getD_rs hm, hr]; exact List.mem_cons_self ..)
            simp only [eqP, decide_eq_true_eq, decide_eq_false_iff_not] at *
            omega
          rw [hp0, List.nil_append] at h2 ⊢
          rw [List.filter_cons_of_pos hz, List.filter_cons_of_pos hz, h2]
          rfl
        · rw [List.filter_cons_of_neg hz, List.filter_cons_of_neg hz, h2]
theorem weaveOk_all {ls : List (List Pk)} (h : weaveOk ls) : okAll ls := fun i hi q hq => by
  obtain ⟨j, hj, rfl⟩ := List.mem_iff_getElem.1 hq
  have h1 := (h i hi j hj).2
  rwa [List.getD_eq_getElem?_getD, List.getElem?_eq_getElem hj] at h1
theorem asc_mono {l : List Pk} (h : ascTo l l.length) : ∀ (d i : Nat), i + d < l.length → (l.getD i zp).at_ ≤ (l.getD (i + d) zp).at_
  | 0, i, _ => Int.le_refl _
  | d + 1, i, hd => by
    have h1 := asc_mono h d i (by omega)
    have h2 := h (i + d) (by omega)
    rw [show i + (d + 1) = i + d + 1 by omega]
    omega
theorem pk_get {l : List Pk} {t : Nat} (h : t < l.length) : l.getD t zp = l[t] := by rw [List.getD_eq_getElem?_getD, List.getElem?_eq_getElem h]; rfl
theorem weaveAsc_all {ls : List (List Pk)} (h : weaveAsc ls) : ascAll ls := fun i hi => by
  rw [List.pairwise_iff_getElem]
  intro a b ha hb hab
  have h1 := asc_mono (h i hi) (b - a) a (by omega)
  rw [show a + (b - a) = b by omega, pk_get ha, pk_get hb] at h1
  exact h1
/-- What a stable sort leaves is the row. -/
theorem weave_sorted {ls : List (List Pk)} (hE : weaveE ls = 0) {l' : List Pk} (h1 : SrdP l') (h2 : SrtP ls.flatten l') : l' = weaveP ls := by
  have hok : weaveOk ls ∧ weaveAsc ls := by
    unfold weaveE at hE
    split at hE
    · omega
    · rename_i h
      split at hE
      · omega
      · rename_i h'
        exact ⟨Classical.not_not.1 (fun h9 => h (.inr (.inr h9))), Classical.not_not.1 h'⟩
  rw [weaveP, if_pos hE]
  have h3 := merge_srt (total ls) ls rfl (weaveOk_all hok.1) (weaveAsc_all hok.2)
  exact srt_uniq _ _ h3.1 h1 (fun z => (h2 z).trans (h3.2 z).symm)
end Go.Proofs.Ytnflhogjonlnmaa

namespace Go.Proofs.Ytnflhogjonlnmaa
open Go.RowKit

theorem cells_sp {w : World} {S : Nat → Prop} : ∀ (xs : List Pk) (cells : List Value), Cells PkR 6 w S cells xs → ∃ sps : List SP, cells = sps.flatMap SP.cs ∧ sps.map SP.p = xs ∧ ∀ x ∈ sps, PkR w S x.cs x.p
  | [], cells, h => ⟨[], by have h1 := h.1; simp at h1; simp [h1], rfl, by simp⟩
  | p :: xs, cells, h => by
    have h0 := h.2 0 (by simp)
    simp only [Nat.zero_mul, List.drop_zero, List.getElem_cons_zero] at h0
    have h1 : Cells PkR 6 w S (cells.drop 6) xs := by
      refine ⟨by rw [List.length_drop, h.1, List.length_cons]; omega, fun j hj => ?_⟩
      have h2 := h.2 (j + 1) (by simpa using hj)
      rw [List.drop_drop, show 6 + j * 6 = (j + 1) * 6 by omega]
      simpa using h2
    obtain ⟨sps, e1, e2, e3⟩ := cells_sp xs _ h1
    obtain ⟨A, c, hc, hr⟩ := h0
    refine ⟨⟨p, A, c⟩ :: sps, ?_, by rw [List.map_cons, e2], fun x hx => ?_⟩
    · rw [List.flatMap_cons, ← e1, ← List.take_append_drop 6 cells, hc]
      simp [SP.cs, Pk.cells]
    · rcases List.mem_cons.1 hx with hx | hx
      · subst hx; exact ⟨A, c, rfl, hr⟩
      · exact e3 x hx
theorem cells_of {w : World} {S : Nat → Prop} {sps : List SP} (h : ∀ x ∈ sps, PkR w S x.cs x.p) : Cells PkR 6 w S (sps.flatMap SP.cs) (sps.map SP.p) := by
  induction sps with
  | nil => exact Cells.nil_
  | cons x sps ih =>
    rw [List.flatMap_cons, List.map_cons]
    exact Cells.append (Cells.one PkR.good (h x (List.mem_cons_self ..))) (ih fun y hy => h y (List.mem_cons_of_mem _ hy))
theorem OwnG.srow {w : World} {base : Nat} {D : Nat → Prop} {v : Value} {xs : List Pk} (h : OwnG PkR 6 40 w base D v xs) :
    (v = .slice none 0 0 ∧ xs = []) ∨ ∃ gb c sps tl, v = .slice (some ⟨gb, 0, none⟩) xs.length c ∧ xs.length ≤ c ∧ base ≤ gb ∧ SRow w gb sps tl ∧ sps.map SP.p = xs ∧ (∀ x ∈ sps, PkR w (fun b => D b ∧ v.ownBlock ≠ some b) x.cs x.p) ∧
      (∀ w' sps', SRow w' gb sps' tl → sps'.length = xs.length → (∀ x ∈ sps', PkR w' (fun b => D b ∧ v.ownBlock ≠ some b) x.cs x.p) → OwnG PkR 6 40 w' base D v (sps'.map SP.p)) := by
  obtain ⟨cells, ho, hcs⟩ := h
  obtain ⟨h1, h2⟩ := ho
  rcases h2 with ⟨hv, hn⟩ | ⟨gb, cap, cur, hv, hb, hg, hnc, hcm, hsz, htk⟩
  · exact .inl ⟨hv, List.eq_nil_of_length_eq_zero hn⟩
  · right
    obtain ⟨sps, e1, e2, e3⟩ := cells_sp xs cells hcs
    have hl : sps.length = xs.length := by rw [← e2, List.length_map]
    refine ⟨gb, cap, sps, cur.toList.drop (xs.length * 6), hv, hnc, hb, ?_, e2, e3, fun w' sps' hr hl' hp => ?_⟩
    · show w.heap[gb]? = _
      rw [← e1, ← htk, List.take_append_drop]
      simpa using hg
    · refine ⟨sps'.flatMap SP.cs, ⟨by rw [flat_len, List.length_map], .inr ⟨gb, cap, _, by rw [hv, List.length_map, hl'], hb, hr, by rw [List.length_map, hl']; exact hnc, hcm, ?_, ?_⟩⟩, cells_of hp⟩
      · have hcl : cur.toList.length = cap * 6 := by rw [Array.length_toList, hsz]
        have h9 := Nat.mul_le_mul_right 6 hnc
        simp only [List.size_toArray, List.length_append, flat_len, List.length_drop]
        rw [hcl, hl']
        omega
      · rw [List.length_map, List.toList_toArray, ← flat_len, List.take_left]
theorem lt_p (x y : SP) : ltAll x y = ltP x.p y.p := by
  unfold ltAll ltP
  rw [decide_eq_decide, cfAll_neg]
theorem eqv_p (x y : SP) : eqv ltAll x y = eqP x.p y.p := by
  rw [eqv, lt_p, lt_p, Bool.eq_iff_iff]
  simp only [ltP, eqP, Bool.and_eq_true, Bool.not_eq_true', decide_eq_false_iff_not, decide_eq_true_eq]
  omega
theorem srd_p {l : List SP} (h : Srd ltAll l) : SrdP (l.map SP.p) := by
  unfold SrdP
  rw [List.pairwise_map]
  exact List.Pairwise.imp (fun {a b} h => by rw [← lt_p]; exact h) h
theorem srt_p {l l' : List SP} (h : Srt ltAll l l') : SrtP (l.map SP.p) (l'.map SP.p) := fun z => by
  have h1 := h ⟨z, none, 0⟩
  have e : ∀ k : List SP, (k.map SP.p).filter (eqP z) = (k.filter (eqv ltAll ⟨z, none, 0⟩)).map SP.p := fun k => by
    rw [List.filter_map]
    congr 1
    apply List.filter_congr
    intro x _
    rw [eqv_p]; rfl
  rw [e, e, h1]
set_option maxHeartbeats 2000000 in
theorem sort_nil (w : World) : Calls Try.prog 50 #[.slice none 0 0, .func (.func 51) #[] #[]] w fun e w' => e = .returned (.tuple #[]) ∧ w = w' := by
  have HI : Calls Try.prog 77 #[.slice none 0 0, .int .i64 0, .int .i64 0, .func (.func 51) #[] #[]] w fun e w' => e = .returned (.tuple #[]) ∧ w = w' := by
    go_enter Try.func77, Try.ntmps77
    go_wp2
    refine wp_loop_rounds 1 ?_
    rw [rounds_succ]
    go_wp2
    go_end0
    exact ⟨rfl, rfl⟩
  have HI := Lib.hid HI
  have HS : Calls Try.prog 66 #[.slice none 0 0, .int .i64 0, .func (.func 51) #[] #[]] w fun e w' => e = .returned (.tuple #[]) ∧ w = w' := by
    go_enter Try.func66, Try.ntmps66
    go_wp2
    refine wp_loop_rounds 1 ?_
    rw [rounds_succ]
    go_wp2_with (first
      | (go_at_call 77; (with_reducible refine HI.out.mono ?_); rintro e w1 ⟨rfl, rfl⟩))
    refine wp_loop_rounds 1 ?_
    rw [rounds_succ]
    go_wp2
    go_end0
    exact ⟨rfl, rfl⟩
  have HS := Lib.hid HS
  go_enter Try.func50, Try.ntmps50
  go_wp2_with (first
    | (go_at_call 66; (with_reducible refine HS.out.mono ?_); rintro e w1 ⟨rfl, rfl⟩))
  go_end0
  exact ⟨rfl, rfl⟩
/-- The call's own packets are sorted in place. -/
theorem sortown_any {w : World} {base : Nat} {D : Nat → Prop} {v : Value} {xs : List Pk} (h : OwnG PkR 6 40 w base D v xs) (hl : xs.length ≤ 4000000000) :
    Calls Try.prog 50 #[v, .func (.func 51) #[] #[]] w fun e w' => e = .returned (.tuple #[]) ∧ ∃ xs', OwnG PkR 6 40 w' base D v xs' ∧ SrdP xs' ∧ SrtP xs xs' ∧ xs'.length = xs.length ∧ Below base w w' := by
  rcases h.srow with ⟨rfl, rfl⟩ | ⟨gb, c, sps, tl, hv, hc, hb, hr, hmap, hpk, hback⟩
  · refine (sort_nil w).mono ?_
    rintro e w' ⟨rfl, rfl⟩
    exact ⟨rfl, [], h, List.Pairwise.nil, fun _ => rfl, rfl, Below.refl _ _⟩
  · have hsl : sps.length = xs.length := by rw [← hmap, List.length_map]
    have hgl : gb < w.heap.size := Blk.lt hr
    have hs := sort_any hr hsl c hl hc
    rw [← hv] at hs
    refine hs.mono ?_
    rintro e w' ⟨rfl, sps', q1, q2, q3, q4, q5⟩
    refine ⟨rfl, sps'.map SP.p, hback w' sps' q1 q2 (fun x hx => ?_), srd_p q4, hmap ▸ srt_p q3, by rw [List.length_map, q2], q5.below (by have := h.own_ge gb (by rw [hv]; rfl); omega) (fun b hb' => by have e : b = gb := hb'; omega)⟩
    have hx' := (q3.mem ltAll_leO).1 hx
    exact PkR.good.keep (hpk x hx') q5 (fun b hb' _ e => hb'.2 (by rw [hv]; exact congrArg some e.symm))
end Go.Proofs.Ytnflhogjonlnmaa
