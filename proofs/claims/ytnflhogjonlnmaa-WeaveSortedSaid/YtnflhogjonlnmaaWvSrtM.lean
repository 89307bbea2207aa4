/- slices.SortStableFunc of the call's own packets. -/
import Derived.Test.YtnflhogjonlnmaaSrtStb
import Derived.Test.YtnflhogjonlnmaaWvSrtL
import Derived.Test.YtnflhogjonlnmaaOwnS
set_option linter.unusedSimpArgs false
set_option linter.unusedVariables false
namespace Go.Proofs.Ytnflhogjonlnmaa
open Go.RowKit

theorem cells_sp {w : World} {S : Nat → Prop} : ∀ (xs : List Pk) (cells : List Value), Cells PkR 6 w S cells xs → ∃ sps : List SP, cells = sps.flatMap SP.cs ∧ sps.map SP.p = xs ∧ ∀ x ∈ sps, PkR w S x.cs x.p
  | [], cells, h => ⟨[], by have h1 := h.1; simp at h1; simp [h1], rfl, by simp⟩
  | p :: xs, cells, h => by
    have h0 := h.2 0 (by simp)
    simp only [Nat.zero_mul, List.drop_zero, List.getElem_cons_zero] at h0
    have h1 : Cells PkR 6 w S (cells.drop 6) xs := by
      refine ⟨by rw [List.length_drop, h.1, List.length_cons]; omega, fun j hj => ?_⟩
      have h2 := h.2 (j + 1) (by simpa using hj)
      rw [List.drop_drop, show 6 + j * 6 = (j + 1) * 6 by omega]
      simpa using h2
    obtain ⟨sps, e1, e2, e3⟩ := cells_sp xs _ h1
    obtain ⟨A, c, hc, hr⟩ := h0
    refine ⟨⟨p, A, c⟩ :: sps, ?_, by rw [List.map_cons, e2], fun x hx => ?_⟩
    · rw [List.flatMap_cons, ← e1, ← List.take_append_drop 6 cells, hc]
      simp [SP.cs, Pk.cells]
    · rcases List.mem_cons.1 hx with hx | hx
      · subst hx; exact ⟨A, c, rfl, hr⟩
      · exact e3 x hx
theorem cells_of {w : World} {S : Nat → Prop} {sps : List SP} (h : ∀ x ∈ sps, PkR w S x.cs x.p) : Cells PkR 6 w S (sps.flatMap SP.cs) (sps.map SP.p) := by
  induction sps with
  | nil => exact Cells.nil_
  | cons x sps ih =>
    rw [List.flatMap_cons, List.map_cons]
    exact Cells.append (Cells.one PkR.good (h x (List.mem_cons_self ..))) (ih fun y hy => h y (List.mem_cons_of_mem _ hy))
theorem OwnG.srow {w : World} {base : Nat} {D : Nat → Prop} {v : Value} {xs : List Pk} (h : OwnG PkR 6 40 w base D v xs) :
    (v = .slice none 0 0 ∧ xs = []) ∨ ∃ gb c sps tl, v = .slice (some ⟨gb, 0, none⟩) xs.length c ∧ xs.length ≤ c ∧ base ≤ gb ∧ SRow w gb sps tl ∧ sps.map SP.p = xs ∧ (∀ x ∈ sps, PkR w (fun b => D b ∧ v.ownBlock ≠ some b) x.cs x.p) ∧
      (∀ w' sps', SRow w' gb sps' tl → sps'.length = xs.length → (∀ x ∈ sps', PkR w' (fun b => D b ∧ v.ownBlock ≠ some b) x.cs x.p) → OwnG PkR 6 40 w' base D v (sps'.map SP.p)) := by
  obtain ⟨cells, ho, hcs⟩ := h
  obtain ⟨h1, h2⟩ := ho
  rcases h2 with ⟨hv, hn⟩ | ⟨gb, cap, cur, hv, hb, hg, hnc, hcm, hsz, htk⟩
  · exact .inl ⟨hv, List.eq_nil_of_length_eq_zero hn⟩
  · right
    obtain ⟨sps, e1, e2, e3⟩ := cells_sp xs cells hcs
    have hl : sps.length = xs.length := by rw [← e2, List.length_map]
    refine ⟨gb, cap, sps, cur.toList.drop (xs.length * 6), hv, hnc, hb, ?_, e2, e3, fun w' sps' hr hl' hp => ?_⟩
    · show w.heap[gb]? = _
      rw [← e1, ← htk, List.take_append_drop]
      simpa using hg
    · refine ⟨sps'.flatMap SP.cs, ⟨by rw [flat_len, List.length_map], .inr ⟨gb, cap, _, by rw [hv, List.length_map, hl'], hb, hr, by rw [List.length_map, hl']; exact hnc, hcm, ?_, ?_⟩⟩, cells_of hp⟩
      · have hcl : cur.toList.length = cap * 6 := by rw [Array.length_toList, hsz]
        have h9 := Nat.mul_le_mul_right 6 hnc
        simp only [List.size_toArray, List.length_append, flat_len, List.length_drop]
        rw [hcl, hl']
        omega
      · rw [List.length_map, List.toList_toArray, ← flat_len, List.take_left]
theorem lt_p (x y : SP) : ltAll x y = ltP x.p y.p := by
  unfold ltAll ltP
  rw [decide_eq_decide, cfAll_neg]
theorem eqv_p (x y : SP) : eqv ltAll x y = eqP x.p y.p := by
  rw [eqv, lt_p, lt_p, Bool.eq_iff_iff]
  simp only [ltP, eqP, Bool.and_eq_true, Bool.not_eq_true', decide_eq_false_iff_not, decide_eq_true_eq]
  omega
theorem srd_p {l : List SP} (h : Srd ltAll l) : SrdP (l.map SP.p) := by
  unfold SrdP
  rw [List.pairwise_map]
  exact List.Pairwise.imp (fun {a b} h => by rw [← lt_p]; exact h) h
theorem srt_p {l l' : List SP} (h : Srt ltAll l l') : SrtP (l.map SP.p) (l'.map SP.p) := fun z => by
  have h1 := h ⟨z, none, 0⟩
  have e : ∀ k : List SP, (k.map SP.p).filter (eqP z) = (k.filter (eqv ltAll ⟨z, none, 0⟩)).map SP.p := fun k => by
    rw [List.filter_map]
    congr 1
    apply List.filter_congr
    intro x _
    rw [eqv_p]; rfl
  rw [e, e, h1]
set_option maxHeartbeats 2000000 in
theorem sort_nil (w : World) : Calls Try.prog 50 #[.slice none 0 0, .func (.func 51) #[] #[]] w fun e w' => e = .returned (.tuple #[]) ∧ w = w' := by
  have HI : Calls Try.prog 77 #[.slice none 0 0, .int .i64 0, .int .i64 0, .func (.func 51) #[] #[]] w fun e w' => e = .returned (.tuple #[]) ∧ w = w' := by
    go_enter Try.func77, Try.ntmps77
    go_wp2
    refine wp_loop_rounds 1 ?_
    rw [rounds_succ]
    go_wp2
    go_end0
    exact ⟨rfl, rfl⟩
  have HI := Lib.hid HI
  have HS : Calls Try.prog 66 #[.slice none 0 0, .int .i64 0, .func (.func 51) #[] #[]] w fun e w' => e = .returned (.tuple #[]) ∧ w = w' := by
    go_enter Try.func66, Try.ntmps66
    go_wp2
    refine wp_loop_rounds 1 ?_
    rw [rounds_succ]
    go_wp2_with (first
      | (go_at_call 77; (with_reducible refine HI.out.mono ?_); rintro e w1 ⟨rfl, rfl⟩))
    refine wp_loop_rounds 1 ?_
    rw [rounds_succ]
    go_wp2
    go_end0
    exact ⟨rfl, rfl⟩
  have HS := Lib.hid HS
  go_enter Try.func50, Try.ntmps50
  go_wp2_with (first
    | (go_at_call 66; (with_reducible refine HS.out.mono ?_); rintro e w1 ⟨rfl, rfl⟩))
  go_end0
  exact ⟨rfl, rfl⟩
/-- The call's own packets are sorted in place. -/
theorem sortown_any {w : World} {base : Nat} {D : Nat → Prop} {v : Value} {xs : List Pk} (h : OwnG PkR 6 40 w base D v xs) (hl : xs.length ≤ 4000000000) :
    Calls Try.prog 50 #[v, .func (.func 51) #[] #[]] w fun e w' => e = .returned (.tuple #[]) ∧ ∃ xs', OwnG PkR 6 40 w' base D v xs' ∧ SrdP xs' ∧ SrtP xs xs' ∧ xs'.length = xs.length ∧ Below base w w' := by
  rcases h.srow with ⟨rfl, rfl⟩ | ⟨gb, c, sps, tl, hv, hc, hb, hr, hmap, hpk, hback⟩
  · refine (sort_nil w).mono ?_
    rintro e w' ⟨rfl, rfl⟩
    exact ⟨rfl, [], h, List.Pairwise.nil, fun _ => rfl, rfl, Below.refl _ _⟩
  · have hsl : sps.length = xs.length := by rw [← hmap, List.length_map]
    have hgl : gb < w.heap.size := Blk.lt hr
    have hs := sort_any hr hsl c hl hc
    rw [← hv] at hs
    refine hs.mono ?_
    rintro e w' ⟨rfl, sps', q1, q2, q3, q4, q5⟩
    refine ⟨rfl, sps'.map SP.p, hback w' sps' q1 q2 (fun x hx => ?_), srd_p q4, hmap ▸ srt_p q3, by rw [List.length_map, q2], q5.below (by have := h.own_ge gb (by rw [hv]; rfl); omega) (fun b hb' => by have e : b = gb := hb'; omega)⟩
    have hx' := (q3.mem ltAll_leO).1 hx
    exact PkR.good.keep (hpk x hx') q5 (fun b hb' _ e => hb'.2 (by rw [hv]; exact congrArg some e.symm))
end Go.Proofs.Ytnflhogjonlnmaa
