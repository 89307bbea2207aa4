/- The reference's PalRanked. -/
import Derived.Test.YtbbflddhbamjbaaPlBackL
import Derived.Test.YtbbflddhbamjbaaPlKnown
import Derived.Test.YtbbflddhbamjbaaPlRIdx
import Derived.Test.YtbbflddhbamjbaaPlRJoin
set_option linter.unusedSimpArgs false
set_option linter.unusedVariables false
namespace Go.Proofs.Ytbbflddhbamjbaa
open Go.RowKit
variable {N : Nat}
/-- of the first i numbers those that are told n times -/
def rkP (C : List Int) (N : Nat) (n : Int) (i : Nat) : List (SI N) := ((List.finRange (N + 1)).take i).filter fun k => decide (C.getD k.val 0 = n)
/-- behind j rounds -/
def rkA (C : List Int) (N m j : Nat) : List (SI N) := (List.range j).flatMap fun t : Nat => rkP C N ((m : Int) - (t : Int)) (N + 1)
def rkO (C : List Int) (N m : Nat) (cs : List (List Int)) (j i : Nat) : List (List Int) := (rkA C N m j ++ rkP C N ((m : Int) - (j : Int)) i).map fun k => cs.getD k.val []
theorem rkP_len (C : List Int) (n : Int) (i : Nat) : (rkP C N n i).length ≤ N + 1 := by
  refine Nat.le_trans (List.length_filter_le _ _) ?_
  rw [List.length_take, List.length_finRange]
  omega
theorem rkA_len (C : List Int) (m : Nat) : ∀ j, (rkA C N m j).length ≤ j * (N + 1)
  | 0 => by simp [rkA]
  | j + 1 => by
    have h := rkA_len C m j
    rw [rkA, List.range_succ, List.flatMap_append, List.length_append]
    have h2 := rkP_len (N := N) C ((m : Int) - (j : Int)) (N + 1)
    have e : ([j].flatMap fun t : Nat => rkP C N ((m : Int) - (t : Int)) (N + 1)) = rkP C N ((m : Int) - (j : Int)) (N + 1) := by simp
    rw [e, Nat.succ_mul]
    exact Nat.add_le_add h h2
theorem rkO_len (C : List Int) (m : Nat) (cs : List (List Int)) {j i : Nat} (hj : j ≤ 5000) (hN : N + 1 ≤ 256) : (rkO C N m cs j i).length ≤ 2000000 := by
  rw [rkO, List.length_map, List.length_append]
  have h1 := rkA_len (N := N) C m j
  have h2 := rkP_len (N := N) C ((m : Int) - (j : Int)) i
  have h3 : j * (N + 1) ≤ 5000 * 256 := Nat.mul_le_mul hj hN
  omega
theorem rkO_zero (C : List Int) (m : Nat) (cs : List (List Int)) : rkO C N m cs 0 0 = [] := by simp [rkO, rkA, rkP]
theorem rkO_next (C : List Int) (m : Nat) (cs : List (List Int)) (j : Nat) : rkO C N m cs (j + 1) 0 = rkO C N m cs j (N + 1) := by
  rw [rkO, rkO]
  have e : rkA C N m (j + 1) = rkA C N m j ++ rkP C N ((m : Int) - (j : Int)) (N + 1) := by
    rw [rkA, List.range_succ, List.flatMap_append]
    simp [rkA]
  rw [e]
  simp [rkP]
theorem rkP_succ (C : List Int) (n : Int) {i : Nat} (hi : i < N + 1) : rkP C N n (i + 1) = rkP C N n i ++ if C.getD i 0 = n then [⟨i, hi⟩] else [] := by
  have h : i < (List.finRange (N + 1)).length := by rw [List.length_finRange]; exact hi
  rw [rkP, List.take_succ_eq_append_getElem h, List.filter_append, List.getElem_finRange]
  rw [rkP]
  congr 1
  by_cases hc : C.getD i 0 = n
  · rw [if_pos hc]
    simp only [List.filter_cons, List.filter_nil]
    rw [if_pos (by simpa using hc)]
    rfl
  · rw [if_neg hc]
    simp only [List.filter_cons, List.filter_nil]
    rw [if_neg (by simpa using hc)]
theorem rkO_in (C : List Int) (m : Nat) (cs : List (List Int)) {j i : Nat} (hi : i < N + 1) (h : C.getD i 0 = (m : Int) - (j : Int)) : rkO C N m cs j (i + 1) = rkO C N m cs j i ++ [cs.getD i []] := by
  rw [rkO, rkO, rkP_succ _ _ hi, if_pos h, ← List.append_assoc, List.map_append]
  rfl
theorem rkO_out (C : List Int) (m : Nat) (cs : List (List Int)) {j i : Nat} (hi : i < N + 1) (h : ¬ C.getD i 0 = (m : Int) - (j : Int)) : rkO C N m cs j (i + 1) = rkO C N m cs j i := by
  rw [rkO, rkO, rkP_succ _ _ hi, if_neg h, List.append_nil]
theorem rkP_mem {C : List Int} {n : Int} {k : SI N} : k ∈ rkP C N n (N + 1) ↔ C.getD k.val 0 = n := by
  rw [rkP, List.take_of_length_le (by rw [List.length_finRange]; exact Nat.le_refl _), List.mem_filter, decide_eq_true_eq]
  exact ⟨fun h => h.2, fun h => ⟨List.mem_finRange _, h⟩⟩
theorem rk_srd (C : List Int) (m : Nat) : ∀ j, Srd (ltC C) (rkA C N m j) ∧ ∀ k ∈ rkA C N m j, (m : Int) - (j : Int) < C.getD k.val 0
  | 0 => ⟨List.Pairwise.nil, fun k hk => absurd hk (by simp [rkA])⟩
  | j + 1 => by
    obtain ⟨h1, h2⟩ := rk_srd C m j
    have e : rkA C N m (j + 1) = rkA C N m j ++ rkP C N ((m : Int) - (j : Int)) (N + 1) := by
      rw [rkA, List.range_succ, List.flatMap_append]
      simp [rkA]
    rw [e]
    refine ⟨Srd.app.2 ⟨h1, ?_, fun x hx y hy => ?_⟩, fun k hk => ?_⟩
    · refine List.Pairwise.imp_of_mem (R := fun _ _ => True) (fun {a b} ha hb _ => ?_) (List.pairwise_of_forall fun _ _ => trivial)
      simp only [ltC, decide_eq_false_iff_not, cfC_neg]
      rw [rkP_mem.1 ha, rkP_mem.1 hb]
      omega
    · simp only [ltC, decide_eq_false_iff_not, cfC_neg]
      rw [rkP_mem.1 hy]
      have := h2 x hx
      omega
    · rcases List.mem_append.1 hk with h | h
      · have := h2 k h
        omega
      · rw [rkP_mem.1 h]
        omega
theorem flat_one {α : Type} (f : Nat → List α) (t : Nat) : ∀ n, (∀ s, s < n → s ≠ t → f s = []) → (List.range n).flatMap f = if t < n then f t else []
  | 0, _ => by simp
  | n + 1, h => by
    rw [List.range_succ, List.flatMap_append, flat_one f t n (fun s hs => h s (by omega))]
    have e : [n].flatMap f = f n := by simp
    rw [e]
    by_cases h1 : t < n
    · rw [if_pos h1, if_pos (by omega), h n (by omega) (by omega), List.append_nil]
    · rw [if_neg h1]
      by_cases h2 : t = n
      · subst h2
        rw [if_pos (by omega)]
        rfl
      · rw [if_neg (by omega), h n (by omega) (fun e => h2 e.symm)]
        rfl
theorem rk_srt {C : List Int} {m : Nat} (h : ∀ k : SI N, 0 ≤ C.getD k.val 0 ∧ C.getD k.val 0 ≤ m) : Srt (ltC C) (List.finRange (N + 1)) (rkA C N m (m + 1)) := fun x => by
  have hx := h x
  obtain ⟨t, ht⟩ : ∃ t : Nat, (t : Int) = (m : Int) - C.getD x.val 0 := ⟨((m : Int) - C.getD x.val 0).toNat, by omega⟩
  have heq : ∀ y : SI N, eqv (ltC C) x y = decide (C.getD y.val 0 = C.getD x.val 0) := fun y => by
    simp only [eqv, ltC, cfC_neg]
    generalize C.getD y.val 0 = a
    generalize C.getD x.val 0 = b
    by_cases hy : a = b
    · rw [hy]; simp
    · rcases Int.lt_or_gt_of_ne hy with h1 | h1
      · rw [decide_eq_true h1, decide_eq_false hy]; simp
      · rw [decide_eq_true (show b < a from h1), decide_eq_false hy]; simp
  rw [rkA, List.filter_flatMap]
  rw [flat_one _ t (m + 1) (fun s hs hst => ?_), if_pos (by omega)]
  · have e : (m : Int) - (t : Int) = C.getD x.val 0 := by omega
    rw [e, rkP, List.take_of_length_le (by rw [List.length_finRange]; exact Nat.le_refl _), List.filter_filter]
    refine List.filter_congr fun y _ => ?_
    rw [heq]
    simp
  · rw [List.filter_eq_nil_iff]
    intro y hy
    rw [heq, rkP_mem.1 hy, decide_eq_true_eq]
    omega
/-- all of it -/
theorem rkO_is {q : Pc} {P : Pal} (hb : idxB q P = true) (hN : P.c.length = N + 1) : RankIs q P ⟨P.d, P.n, rkO (cntL (idxL q P) (N + 1)) N (idxL q P).length P.c ((idxL q P).length + 1) 0⟩ true := by
  refine ⟨hb.symm, ?_⟩
  rw [if_pos hb]
  have hC : ∀ k : SI N, 0 ≤ (cntL (idxL q P) (N + 1)).getD k.val 0 ∧ (cntL (idxL q P) (N + 1)).getD k.val 0 ≤ ((idxL q P).length : Int) := fun k => by
    rw [cntL_get k.isLt]
    have := List.count_le_length (a := ((k.val : Nat) : Int)) (l := idxL q P)
    omega
  refine ⟨rfl, rfl, N, _, hN, rk_srt hC, (rk_srd _ _ _).1, ?_⟩
  simp [rkO, rkP]
theorem RankIs.unique {q : Pc} {P Q Q' : Pal} {b b' : Bool} (h : RankIs q P Q b) (h' : RankIs q P Q' b') : Q = Q' ∧ b = b' := by
  obtain ⟨h1, h2⟩ := h
  obtain ⟨h1', h2'⟩ := h'
  refine ⟨?_, h1.trans h1'.symm⟩
  by_cases hb : idxB q P = true
  · rw [if_pos hb] at h2 h2'
    obtain ⟨e1, e2, N, os, hN, hs, hd, e3⟩ := h2
    obtain ⟨e1', e2', N', os', hN', hs', hd', e3'⟩ := h2'
    have hNN : N = N' := by omega
    subst hNN
    have e : os' = os := srtI_uniq (ltC_leO _) _ _ hd hd' (fun x => by rw [hs' x, hs x])
    subst e
    obtain ⟨d, n, c⟩ := Q
    obtain ⟨d', n', c'⟩ := Q'
    simp only at e1 e2 e3 e1' e2' e3'
    rw [e1, e2, e3, e1', e2', e3']
  · rw [if_neg hb] at h2 h2'
    rw [h2, h2']
end Go.Proofs.Ytbbflddhbamjbaa

namespace Go.Proofs.Ytbbflddhbamjbaa
open Go.RowKit

set_option maxHeartbeats 16000000 in
set_option maxRecDepth 100000 in
theorem rranked_any {q : Pc} {A A2 : Option Addr} {c c2 : Nat} {P : Pal} {w : World} {B : Nat} (hr : RdLL w B .i64 A q.p) (hr2 : RdLL w B .i64 A2 P.c) (hB : B ≤ w.heap.size) (hc2 : P.c.length ≤ c2) (h63 : Len63 P.c) (h63q : Len63 q.p) :
    Calls Try.prog 40 #[picV q A c, palV P A2 c2] w (RankPost w q P) := by
  have HIx := fun W (hb : Below w.heap.size w W) => ridx_any (c := c) (c2 := c2) (hr.below hb hB) (hr2.below hb hB) (Nat.le_trans hB hb.size) hc2 h63 h63q
  have HZ := Lib.hid (show Blk (((w.alloc (.cells #[.int .i64 q.w, .int .i64 q.h, .int .i64 q.d, .slice A q.p.length c] 30)).alloc (.cells #[.int .i64 P.d, .int .i64 P.n, .slice A2 P.c.length c2] 25)).alloc (.cells #[.int .i64 0, .int .i64 0, .slice none 0 0] 25)) (w.heap.size + 1 + 1) 25 #[.int .i64 0, .int .i64 0, .slice none 0 0] from Blk.new2 w _ _ _ _)
  have HB0 := Lib.hid (show Below w.heap.size w (((w.alloc (.cells #[.int .i64 q.w, .int .i64 q.h, .int .i64 q.d, .slice A q.p.length c] 30)).alloc (.cells #[.int .i64 P.d, .int .i64 P.n, .slice A2 P.c.length c2] 25)).alloc (.cells #[.int .i64 0, .int .i64 0, .slice none 0 0] 25)) from below_alloc (below_alloc (below_alloc (Below.refl _ _) _) _) _)
  have HP0 := Lib.hid (show Blk (((w.alloc (.cells #[.int .i64 q.w, .int .i64 q.h, .int .i64 q.d, .slice A q.p.length c] 30)).alloc (.cells #[.int .i64 P.d, .int .i64 P.n, .slice A2 P.c.length c2] 25)).alloc (.cells #[.int .i64 0, .int .i64 0, .slice none 0 0] 25)) (w.heap.size + 1) 25 #[.int .i64 P.d, .int .i64 P.n, .slice A2 P.c.length c2] from (Blk.new1 w _ _ _).alloc _)
  have HQ0 := Lib.hid (show Blk (((w.alloc (.cells #[.int .i64 q.w, .int .i64 q.h, .int .i64 q.d, .slice A q.p.length c] 30)).alloc (.cells #[.int .i64 P.d, .int .i64 P.n, .slice A2 P.c.length c2] 25)).alloc (.cells #[.int .i64 0, .int .i64 0, .slice none 0 0] 25)) w.heap.size 30 #[.int .i64 q.w, .int .i64 q.h, .int .i64 q.d, .slice A q.p.length c] from ((Blk.new w _ _).alloc _).alloc _)
  cases hib : idxB q P with
  | false =>
    have HNo := Lib.hid (show RankIs q P palZ false from ⟨hib.symm, by rw [hib]; rfl⟩)
    rw [hib] at HIx
    simp only [picV, palV] at HIx ⊢
    replace HIx := Lib.hid HIx
    generalize idxL q P = L at *
    clear hib
    obtain ⟨qw, qh, qd, qp⟩ := q
    obtain ⟨d, n, cs⟩ := P
    simp only at *
    go_enter Try.func40, Try.ntmps40
    go_upto_region 1 with fail
    generalize ((w.alloc (.cells #[.int .i64 qw, .int .i64 qh, .int .i64 qd, .slice A qp.length c] 30)).alloc (.cells #[.int .i64 d, .int .i64 n, .slice A2 cs.length c2] 25)).alloc (.cells #[.int .i64 0, .int .i64 0, .slice none 0 0] 25) = w0 at *
    obtain ⟨x0, x1, x2, x3, _⟩ := HQ0.out.four
    have y0 := HP0.out.cell 0
    have y1 := HP0.out.cell 1
    have y2 := HP0.out.cell 2
    go_wp2_with (first
      | (go_at_call 41; (with_reducible refine (HIx.out _ HB0.out).mono ?_); rintro e w1 ⟨A6, c6, rfl, hc6, hr6, hb1⟩; have kz := HZ.out.below hb1 HZ.out.lt; have z0 := kz.cell 0; have z1 := kz.cell 1; have z2 := kz.cell 2; have f0 := kz.frozen 0; have f1 := kz.frozen 1; have f2 := kz.frozen 2))
    refine bodyPost_ret (v := .tuple #[.agg #[.int .i64 0, .int .i64 0, .slice none 0 0], .bool false]) (by simp [results, Try.results40, go_sem, z0, z1, z2]) rfl ?_
    exact ⟨palZ, false, none, 0, rfl, HNo.out, Nat.le_refl _, fun j hj => absurd hj (by simp [palZ]), below_then HB0.out hb1 |>.setCell (by simp; omega) _ |>.setCell (by simp; omega) _ |>.setCell (by simp; omega) _⟩
  | true =>
    obtain ⟨N, hN⟩ : ∃ N, P.c.length = N + 1 := ⟨P.c.length - 1, by have := idx_pos hib; omega⟩
    have hLl := idxL_len (q := q) (P := P)
    have HLi := Lib.hid (idxL_in (q := q) (P := P))
    have h20 : P.c.length ≤ 256 := by
      have h := hib
      rw [idxB, Bool.and_eq_true] at h
      have h1 := h.1
      simp only [idxOk, Bool.and_eq_true] at h1
      have h2 := (palB_iff.1 h1.1.1.1).1
      simp only [headB, decide_eq_true_eq] at h2
      omega
    have hrow : ∀ x ∈ P.c, x.length ≤ 4 := fun x hx => by
      have h := hib
      rw [idxB, Bool.and_eq_true] at h
      have h1 := h.1
      simp only [idxOk, Bool.and_eq_true] at h1
      have h2 := (palB_iff.1 h1.1.1.1).1
      simp only [headB, decide_eq_true_eq] at h2
      have h3 := ((rows_of h1.1.1.1).1 x hx).1
      omega
    have hRK := rkO_is hib hN
    have hperm := (rank_perm hRK hib).2.2.2
    have HRK := Lib.hid hRK
    have HK0 := Lib.hid (rkO_zero (N := N) (cntL (idxL q P) (N + 1)) (idxL q P).length P.c)
    have HKn := Lib.hid (rkO_next (N := N) (cntL (idxL q P) (N + 1)) (idxL q P).length P.c)
    have HKi := Lib.hid (fun j i (hi : i < N + 1) h => rkO_in (N := N) (cntL (idxL q P) (N + 1)) (idxL q P).length P.c (j := j) hi h)
    have HKo := Lib.hid (fun j i (hi : i < N + 1) h => rkO_out (N := N) (cntL (idxL q P) (N + 1)) (idxL q P).length P.c (j := j) hi h)
    have HKl := Lib.hid (fun j i (hj : j ≤ 5000) => rkO_len (N := N) (cntL (idxL q P) (N + 1)) (idxL q P).length P.c (i := i) hj (by omega))
    have HCb : ∀ k, k < N + 1 → 0 ≤ (cntL (idxL q P) (N + 1)).getD k 0 := fun k hk => by rw [cntL_get hk]; omega
    rw [hib] at HIx
    have HRw := Lib.hid hrow
    have hend : (rkO (cntL (idxL q P) (N + 1)) N (idxL q P).length P.c ((idxL q P).length + 1) 0).length ≤ 256 := by
      have := hperm.length_eq
      simp only at this
      omega
    have hendr : ∀ x ∈ rkO (cntL (idxL q P) (N + 1)) N (idxL q P).length P.c ((idxL q P).length + 1) 0, x.length ≤ 4 := fun x hx => hrow x (hperm.mem_iff.1 hx)
    have HEr := Lib.hid hendr
    have HEl := Lib.hid hend
    clear hib hrow hRK hperm hendr hend
    have HLg := Lib.hid (show ∀ j, j < (idxL q P).length → ∃ i : Nat, (idxL q P).getD j 0 = i ∧ i < N + 1 from fun j hj => by
      have h1 : (idxL q P)[j] ∈ idxL q P := List.getElem_mem hj
      obtain ⟨i, e, hi⟩ := HLi.out _ h1
      rw [hN] at hi
      exact ⟨i, by rw [List.getD_eq_getElem?_getD, List.getElem?_eq_getElem hj]; exact e, hi⟩)
    generalize rkO (cntL (idxL q P) (N + 1)) N (idxL q P).length P.c = RK at *
    generalize idxL q P = L at *
    obtain ⟨qw, qh, qd, qp⟩ := q
    obtain ⟨d, n, cs⟩ := P
    simp only [picV, palV] at *
    obtain ⟨M, hM⟩ : ∃ M, N + 1 = M := ⟨_, rfl⟩
    rw [hM] at hN HLg HKi HKo HKn HCb
    have HLs := Lib.hid (fun j i (hj : j < L.length) (hi : L.getD j 0 = ((i : Nat) : Int)) (h : i < M) => cntL_step (n := M) hj hi h)
    have HCl := Lib.hid (fun l => cntL_len l M)
    have hcb := Lib.hid (fun (j : Nat) => cntL_bd (l := L.take j) (n := M) (by rw [List.length_take]; omega))
    obtain ⟨CT, hCT⟩ : ∃ CT, CT = cntL L M := ⟨_, rfl⟩
    have HCT := Lib.hid hCT
    rw [← hCT] at HKi HKo HCb
    have HCB := Lib.hid HCb
    clear hCT HCb
    have HNl := Lib.hid hN
    have hmi := fun W => run_make_ints (P := Try.prog) W 22 Try.underlying22 info_int (by omega) .i64 M M (Nat.le_refl _) (by omega)
    rw [hN] at HIx HQ0 HP0 HB0 HZ ⊢
    replace HIx := Lib.hid HIx
    have hM20 : M ≤ 256 ∧ 1 ≤ M := by omega
    clear hM hN h20 HLi
    go_enter Try.func40, Try.ntmps40
    go_upto_region 1 with fail
    generalize ((w.alloc (.cells #[.int .i64 qw, .int .i64 qh, .int .i64 qd, .slice A qp.length c] 30)).alloc (.cells #[.int .i64 d, .int .i64 n, .slice A2 M c2] 25)).alloc (.cells #[.int .i64 0, .int .i64 0, .slice none 0 0] 25) = w0 at *
    obtain ⟨x0, x1, x2, x3, _⟩ := HQ0.out.four
    have y0 := HP0.out.cell 0
    have y1 := HP0.out.cell 1
    have y2 := HP0.out.cell 2
    go_upto_region 4 with (first
      | (go_at_call 41; (with_reducible refine (HIx.out _ HB0.out).mono ?_); rintro e w1 ⟨A6, c6, rfl, hc6, hr6, hb1⟩))
    have kp := HP0.out.below hb1 HP0.out.lt
    have kz := HZ.out.below hb1 HZ.out.lt
    have bb := below_then HB0.out hb1
    have hkp := kp.lt
    have hkz := kz.lt
    clear x0 x1 x2 x3 y0 y1 y2 HB0 HQ0 HP0 HZ HIx
    have p2 := kp.cell 2
    have HR6 := Lib.hid (fun W (h : Below w1.heap.size w1 W) => hr6.below h (Nat.le_refl _))
    clear hr6 hb1
    go_upto_region 5 with fail
    have kg0 := Blk.new w1 3 (Array.replicate M (.int .i64 0))
    have b12 := below_alloc (Below.refl w1.heap.size w1) (.cells (Array.replicate M (.int .i64 0)) 3)
    rw [show Array.replicate M (Value.int .i64 0) = (ic .i64 (cntL [] M)).toArray by rw [cntL_nil]; simp [ic]] at kg0 b12 ⊢
    generalize w1.alloc (.cells (ic .i64 (cntL [] M)).toArray 3) = w2 at *
    have hs2 := kg0.lt
    clear p2 hmi
    go_wp2
    go_loopw [9] (fun iv wr => ∃ j : Nat, j ≤ L.length ∧ iv = .int .i64 j ∧ Blk wr w1.heap.size 3 (ic .i64 (cntL (L.take j) M)).toArray ∧ Mod (· = w1.heap.size) w2 wr) (fun iv _ => L.length - (intOf iv).toNat)
    case atStart => exact ⟨0, Nat.zero_le _, rfl, by rw [List.take_zero]; exact kg0, Mod.refl _ _⟩
    case round =>
      obtain ⟨j, hj, rfl, hkg, hM⟩ := hrel
      have hbr : Below w1.heap.size w1 wr := b12.trans (hM.below (by omega) (fun b hb => by omega))
      by_cases hlt : j < L.length
      · obtain ⟨ad, rfl, _, k0⟩ := (HR6.out wr hbr).at_ hlt
        obtain ⟨i, hi, hiM⟩ := HLg.out j hlt
        rw [hi] at k0
        have hst := HLs.out j i hlt hi hiM
        have hz1 := hkg.cell i
        rw [List.getElem?_toArray, ic_get (by rw [HCl.out]; exact hiM)] at hz1
        have hf1 := hkg.frozen i
        have hcv : 0 ≤ (cntL (L.take j) M).getD i 0 ∧ (cntL (L.take j) M).getD i 0 ≤ 1000000000 := by
          have h1 : i < (cntL (L.take j) M).length := by rw [HCl.out]; exact hiM
          rw [List.getD_eq_getElem?_getD, List.getElem?_eq_getElem h1]
          exact hcb.out j _ (List.getElem_mem h1)
        have hset := hkg.set_ i (.int .i64 ((cntL (L.take j) M).getD i 0 + 1))
        have e9 : (ic .i64 (cntL (L.take j) M)).toArray.setIfInBounds i (.int .i64 ((cntL (L.take j) M).getD i 0 + 1)) = (ic .i64 (cntL (L.take (j + 1)) M)).toArray := by
          rw [← hst]; simp [ic, List.map_set]
        rw [e9] at hset
        have HSe := Lib.hid hset
        have hMi : (i : Int) < (M : Int) := by omega
        clear hst hset e9 hkg hi
        generalize (cntL (L.take j) M).getD i 0 = cv at *
        have hw9 : IntKind.i64.wrap (cv + 1) = cv + 1 := IntWalk.i64_in _ (by omega)
        go_wp2
        go_roundw
        case rel => exact ⟨j + 1, by omega, by go_num, HSe.out, mod_put hM (fun _ => rfl)⟩
        case measure => simp [intOf]; omega
      · have hjl : j = L.length := by omega
        subst hjl
        rw [List.take_length, ← HCT.out] at hkg
        have kgr := hkg
        have hCl := HCl.out L
        rw [← HCT.out] at hCl
        have hbr9 := below_then bb hbr
        obtain ⟨w3, rfl⟩ : ∃ w3 : World, w3 = wr := ⟨_, rfl⟩
        have kp3 := kp.below hbr hkp
        have kz3 := kz.below hbr hkz
        have hs3 := hbr.size
        have hsw := bb.size
        have hCL := Lib.hid hCl
        have HKg := Lib.hid kgr
        clear hCl kgr hkg hM hj hlt hbr b12 kg0
        obtain ⟨m, hm⟩ : ∃ m, L.length = m := ⟨_, rfl⟩
        rw [hm] at HKi HKo HRK HEr HEl hLl hc6 ⊢
        have hm1 : m ≤ 4096 := by omega
        clear hm
        have hkg3 := HKg.out.lt
        go_wp2
        go_loopw [10, 11] (fun o nv wo => ∃ j : Nat, j ≤ m + 1 ∧ nv = .int .i64 ((m : Int) - (j : Int)) ∧ OwnG IsR 1 22 wo w3.heap.size (fun x => x < wo.heap.size) o (RK j 0) ∧ Below w3.heap.size w3 wo) (fun _ nv _ => (intOf nv + 1).toNat)
        case atStart => exact ⟨0, Nat.zero_le _, by simp, by rw [HK0.out]; exact OwnG.nil_ _ _ _ _ _ _, Below.refl _ _⟩
        case round =>
          obtain ⟨j, hj, rfl, hO, hbo⟩ := hrel
          have HO := Lib.hid hO
          clear hO
          by_cases hlt : j < m + 1
          · have g0 : decide ((0 : Int) ≤ (m : Int) - (j : Int)) = true := decide_eq_true (by omega)
            obtain ⟨nz, hnz⟩ : ∃ nz : Int, (m : Int) - (j : Int) = nz := ⟨_, rfl⟩
            have HNz := Lib.hid hnz
            rw [hnz] at g0 ⊢
            have hnr : 0 ≤ nz ∧ nz ≤ 4096 := by omega
            clear hnz
            obtain ⟨wo, rfl⟩ : ∃ wo : World, wo = wr := ⟨_, rfl⟩
            go_wp2
            go_loopw [10, 12] (fun o iv wi => ∃ i : Nat, i ≤ M ∧ iv = .int .i64 i ∧ OwnG IsR 1 22 wi w3.heap.size (fun x => x < wi.heap.size) o (RK j i) ∧ Below w3.heap.size w3 wi) (fun _ iv _ => M - (intOf iv).toNat)
            case atStart => exact ⟨0, Nat.zero_le _, rfl, HO.out, hbo⟩
            case round =>
              obtain ⟨i, hi, rfl, hOi, hbi⟩ := hrel
              have HOi := Lib.hid hOi
              clear hOi
              have b0i := below_then hbr9 hbi
              have hsi := hbi.size
              by_cases hli : i < M
              · have kgi := HKg.out.below hbi hkg3
                have hz1 := kgi.cell i
                rw [List.getElem?_toArray, ic_get (by rw [hCL.out]; exact hli)] at hz1
                have kpi := kp3.below hbi (Nat.lt_of_lt_of_le hkp hs3)
                have hiM : (i : Int) < (M : Int) := by omega
                have HKi2 := Lib.hid (HKi.out j i hli)
                have HKo2 := Lib.hid (HKo.out j i hli)
                have hl2 := HKl.out j i (by omega)
                clear kgi
                generalize CT.getD i 0 = ct at *
                rw [HNz.out] at HKi2 HKo2
                by_cases hct : ct = nz
                · have g1 : (ct == nz) = true := by rw [hct]; exact beq_self_eq_true _
                  have HK := Lib.hid (HKi2.out hct)
                  obtain ⟨ad9, Aj, cj, rfl, hadB, hcell, hcj, hrj⟩ := (hr2.below b0i hB) i (by rw [HNl.out]; exact hli)
                  have p2 := kpi.cell 2
                  obtain ⟨Av, cv, rfl, hcv, _, hov⟩ := HOi.out.form IsR.good
                  have HOv := Lib.hid hov
                  have HRj := Lib.hid hrj
                  clear hov hrj hct HKi2 HKo2 HO
                  generalize cs.getD i [] = row at *
                  go_wp2_with (first
                    | (at_builtin; (refine wpList_push_G rfl (.tmp 59) (.tmp 65) _ rfl IsR.good wr (.slice none 0 0) 24 Try.underlying23 info_ints rfl (by omega) rfl HOi.out (fun b => b < B) _ 1 [.slice Aj row.length cj] row rfl rfl (show IsR _ _ _ _ from ⟨Aj, cj, rfl, hcj, HRj.out.rds⟩) (fun x => x ≤ wr.heap.size) (fun b hb _ => Nat.le_of_lt hb) (fun b hb hl => Nat.le_of_lt hl) (fun b hb h => by have h1 := (HOv.out b hb).1; omega) (fun b hb => hb) (Nat.le_refl _) (by omega) (by omega) ?_); intro v8 w8 ow8 hg8 hv8))
                  have hs8 := hg8.size
                  simp at hs8
                  have b8 : Below w3.heap.size w3 w8 := Below.grown (below_alloc hbi _) hg8 (by simp; omega) (fun b hb => (HOv.out b hb).1)
                  have HO8 := Lib.hid (ow8.weak IsR.good (D' := fun x => x < w8.heap.size) (fun b hb hl => hl))
                  go_roundw
                  case rel => exact ⟨i + 1, by omega, by go_num, by rw [HK.out]; exact HO8.out, b8⟩
                  case measure => simp [intOf]; omega
                · have g1 : (ct == nz) = false := by simpa using hct
                  have HK := Lib.hid (HKo2.out hct)
                  clear hct HKi2 HKo2 HO
                  go_wp2
                  go_roundw
                  case rel => exact ⟨i + 1, by omega, by go_num, by rw [HK.out]; exact HOi.out, hbi⟩
                  case measure => simp [intOf]; omega
              · have hil : i = M := by omega
                subst hil
                have hOi := HOi.out
                rw [← HKn.out] at hOi
                have HOn := Lib.hid hOi
                clear hOi HOi HO
                have hnw : IntKind.i64.wrap (nz - 1) = nz - 1 := IntWalk.i64_in _ (by omega)
                go_wp2
                go_roundw
                case rel => exact ⟨j + 1, by omega, by rw [← HNz.out]; congr 1; omega, HOn.out, hbi⟩
                case measure => simp [intOf]; omega
          · have hjm : j = m + 1 := by omega
            subst hjm
            have g0 : decide ((0 : Int) ≤ (m : Int) - ((m + 1 : Nat) : Int)) = false := decide_eq_false (by omega)
            obtain ⟨Av, cv, rfl, hcv, hrd, hov⟩ := HO.out.form IsR.good
            have b0o := below_then hbr9 hbo
            have kpo := kp3.below hbo (Nat.lt_of_lt_of_le hkp hs3)
            have kzo := kz3.below hbo (Nat.lt_of_lt_of_le hkz hs3)
            have y0 := kpo.cell 0
            have y1 := kpo.cell 1
            have z0 := kzo.cell 0
            have z1 := kzo.cell 1
            have z2 := kzo.cell 2
            have HRL := Lib.hid ((hrd.rdLL (B := wr.heap.size) (fun b hb => by
              rcases hb with hb | hb
              · exact hb.1
              · exact (hov b hb).2)))
            have HEl2 := HEl.out
            have HCall := Lib.hid (rcolours_any (c := cv) (HRL.out.below (Below.refl wr.heap.size wr).drew (Nat.le_refl _)) (Nat.le_refl _) (by omega) (fun l hl => by have := HEr.out l hl; omega))
            have kp0 := kpo.cell 0
            have kp1 := kpo.cell 1
            have H0 : ∀ w9, Mod (· = w.heap.size + 1 + 1) wr w9 → w9.cell? ⟨w.heap.size + 1, 0, none⟩ = some (.int .i64 d) := fun w9 h => (kpo.mod h (by omega)).cell 0
            have H1 : ∀ w9, Mod (· = w.heap.size + 1 + 1) wr w9 → w9.cell? ⟨w.heap.size + 1, 1, none⟩ = some (.int .i64 n) := fun w9 h => (kpo.mod h (by omega)).cell 1
            replace H0 := Lib.hid H0
            replace H1 := Lib.hid H1
            clear hrd hov HO kp0 kp1 y0 y1 z0 z1 z2
            go_upto_region 18 with fail
            refine wp_region_held_drew (S := (fun w' => Mod (· = w.heap.size + 1 + 1) wr w')) (by kernel_rfl) ?_ (fun hHeld => ?_)
            focus exact Mod.of_fresh (Below.refl _ _).drew
            refine wpAnyH_take (i := 0) (v := ?_) rfl (by kernel_rfl) (by kernel_rfl) (by kernel_rfl) (fun _ _ _ h => h) (Or.inl ⟨by kernel_rfl, ?_⟩) (by assumption) ?_
            rotate_left
            focus
              intro w9 hSw
              (try dsimp only at hSw)
              go_simp
              (try with_reducible rfl)
            (try simp only [Act.put, List.getElem_toArray, List.getElem_cons_succ, List.getElem_cons_zero, List.setIfInBounds_toArray, List.set_cons_zero, List.set_cons_succ])
            refine wpAnyH_take (i := 1) (v := ?_) rfl (by kernel_rfl) (by kernel_rfl) (by kernel_rfl) (fun _ _ _ h => h) (Or.inl ⟨by kernel_rfl, ?_⟩) (by assumption) ?_
            rotate_left
            focus
              intro w9 hSw'
              (try dsimp only at hSw')
              have zr := H0.out w9 hSw'
              clear hSw'
              go_simp
              (try with_reducible rfl)
            (try simp only [Act.put, List.getElem_toArray, List.getElem_cons_succ, List.getElem_cons_zero, List.setIfInBounds_toArray, List.set_cons_zero, List.set_cons_succ])
            refine wpAnyH_take (i := 2) (v := ?_) rfl (by kernel_rfl) (by kernel_rfl) (by kernel_rfl) (fun _ _ _ h => h) (Or.inl ⟨by kernel_rfl, ?_⟩) (by assumption) ?_
            rotate_left
            focus
              intro w9 hSw
              (try dsimp only at hSw)
              go_simp
              (try with_reducible rfl)
            (try simp only [Act.put, List.getElem_toArray, List.getElem_cons_succ, List.getElem_cons_zero, List.setIfInBounds_toArray, List.set_cons_zero, List.set_cons_succ])
            refine wpAnyH_take (i := 3) (v := ?_) rfl (by kernel_rfl) (by kernel_rfl) (by kernel_rfl) (fun _ _ _ h => h) (Or.inl ⟨by kernel_rfl, ?_⟩) (by assumption) ?_
            rotate_left
            focus
              intro w9 hSw'
              (try dsimp only at hSw')
              have zr := H1.out w9 hSw'
              clear hSw'
              go_simp
              (try with_reducible rfl)
            (try simp only [Act.put, List.getElem_toArray, List.getElem_cons_succ, List.getElem_cons_zero, List.setIfInBounds_toArray, List.set_cons_zero, List.set_cons_succ])
            refine wpAnyH_take (i := 4) (v := ?_) rfl (by kernel_rfl) (by kernel_rfl) (by kernel_rfl) (fun _ _ _ h => h) (Or.inl ⟨by kernel_rfl, ?_⟩) (by assumption) ?_
            rotate_left
            focus
              intro w9 hSw
              (try dsimp only at hSw)
              go_simp
              (try with_reducible rfl)
            (try simp only [Act.put, List.getElem_toArray, List.getElem_cons_succ, List.getElem_cons_zero, List.setIfInBounds_toArray, List.set_cons_zero, List.set_cons_succ])
            refine wpAnyH_ready (rs := [5]) (by kernel_rfl) (by simp) (AllReadyH.cons rfl (fun K hK => ?_) AllReadyH.nil)
            go_simp
            go_at_call 62
            refine HCall.out.mono ?_
            rintro e w5 ⟨A5, c5, rfl, hc5, hO5, hb5'⟩
            have hb5 := below_undr hb5'
            have kz5 := kzo.below hb5 kzo.lt
            have z0 := kz5.cell 0
            have z1 := kz5.cell 1
            have z2 := kz5.cell 2
            have f0 := kz5.frozen 0
            have f1 := kz5.frozen 1
            have f2 := kz5.frozen 2
            have HO5 := Lib.hid hO5
            clear hO5 hb5'
            refine hK.out _ _ ?_ (fun hHeld => ?_)
            focus exact Mod.of_fresh hb5
            clear hK K
            (try simp only [Act.put, List.getElem_toArray, List.getElem_cons_succ, List.getElem_cons_zero, List.setIfInBounds_toArray, List.set_cons_zero, List.set_cons_succ])
            refine wpAnyH_take (i := 6) (v := ?_) rfl (by kernel_rfl) (by kernel_rfl) (by kernel_rfl) (fun _ _ _ h => h) (Or.inl ⟨by kernel_rfl, ?_⟩) (by assumption) ?_
            rotate_left
            focus
              intro w9 hSw
              (try dsimp only at hSw)
              go_simp
              (try with_reducible rfl)
            (try simp only [Act.put, List.getElem_toArray, List.getElem_cons_succ, List.getElem_cons_zero, List.setIfInBounds_toArray, List.set_cons_zero, List.set_cons_succ])
            refine wpAnyH_ready (rs := [7]) (by kernel_rfl) (by simp) (AllReadyH.cons rfl (fun K hK => ?_) AllReadyH.nil)
            go_simp
            have hm9 : Mod (· = w.heap.size + 1 + 1) w5 (((w5.setCell ⟨w.heap.size + 1 + 1, 0, none⟩ (.int .i64 d)).setCell ⟨w.heap.size + 1 + 1, 1, none⟩ (.int .i64 n)).setCell ⟨w.heap.size + 1 + 1, 2, none⟩ (.slice A5 (RK (m + 1) 0).length c5)) := mod_put (mod_put (mod_put (Mod.refl _ _) (fun _ => rfl)) (fun _ => rfl)) (fun _ => rfl)
            refine hK.out _ _ ?_ (fun hHeld => ?_)
            focus exact (Mod.of_fresh hb5).then_ hm9
            clear hK K
            (try simp only [Act.put, List.getElem_toArray, List.getElem_cons_succ, List.getElem_cons_zero, List.setIfInBounds_toArray, List.set_cons_zero, List.set_cons_succ])
            refine wpAnyH_take (i := 8) (v := ?_) rfl (by kernel_rfl) (by kernel_rfl) (by kernel_rfl) (fun _ _ _ h => h) (Or.inl ⟨by kernel_rfl, ?_⟩) (by assumption) ?_
            rotate_left
            focus
              intro w9 hSw
              (try dsimp only at hSw)
              go_simp
              (try with_reducible rfl)
            (try simp only [Act.put, List.getElem_toArray, List.getElem_cons_succ, List.getElem_cons_zero, List.setIfInBounds_toArray, List.set_cons_zero, List.set_cons_succ])
            refine wpAnyH_done (by kernel_rfl) ?_ _
            (try simp only [Act.put, List.getElem_toArray, List.getElem_cons_succ, List.getElem_cons_zero, List.setIfInBounds_toArray, List.set_cons_zero, List.set_cons_succ])
            go_wp2
            refine bodyPost_ret (v := .tuple #[.agg #[.int .i64 d, .int .i64 n, .slice A5 (RK (m + 1) 0).length c5], .bool true]) (by simp [results, Try.results40, go_sem, z0, z1, z2]) rfl ?_
            have hwd : wr.drew.heap.size = wr.heap.size := rfl
            have hs0r := b0o.size
            have hs3r := hbo.size
            have hfin := HO5.out.keep IsR.good hm9 (fun b hb _ e => by have := hb.1; omega) (fun b hb e => by have := (HO5.out.own_ge b hb).1; omega)
            obtain ⟨A9, c9, hv, _, hrd⟩ := hfin.reads IsR.good (S := fun b => b < (((w5.setCell ⟨w.heap.size + 1 + 1, 0, none⟩ (.int .i64 d)).setCell ⟨w.heap.size + 1 + 1, 1, none⟩ (.int .i64 n)).setCell ⟨w.heap.size + 1 + 1, 2, none⟩ (.slice A5 (RK (m + 1) 0).length c5)).heap.size) (fun b _ hl => hl)
            simp only [Value.slice.injEq] at hv
            obtain ⟨rfl, _, rfl⟩ := hv
            exact ⟨⟨d, n, RK (m + 1) 0⟩, true, A5, c5, rfl, HRK.out, hc5, hrd.rdLL (fun b hb => hb), ((below_then b0o hb5).setCell (p := ⟨w.heap.size + 1 + 1, 0, none⟩) (by simp; omega) (.int .i64 d)).setCell (p := ⟨w.heap.size + 1 + 1, 1, none⟩) (by simp; omega) (.int .i64 n) |>.setCell (p := ⟨w.heap.size + 1 + 1, 2, none⟩) (by simp; omega) (.slice A5 (RK (m + 1) 0).length c5)⟩
end Go.Proofs.Ytbbflddhbamjbaa
