/- The reference's Ints, Rows, PicSame. -/
import Derived.Test.YtbbflddhbamjbaaPicRow
import Derived.Test.YtbbflddhbamjbaaPicFacts
set_option linter.unusedSimpArgs false
set_option linter.unusedVariables false
namespace Go.Proofs.Ytbbflddhbamjbaa
open Go.RowKit

theorem quiet_add_more {P : Program} {f : FuncId} {args : Array Value} {w : World} {a n : Nat} {v : Value}
    (h : Calls P f args (w.drewN (a + n)) fun e w' => e = .returned v ∧ ∃ m, w' = (w.drewN (a + n)).drewN m) :
    Calls P f args (w.drewN (a + n)) fun e w'' => e = .returned v ∧ ∃ m, w'' = w.drewN (a + m) :=
  h.mono fun _ _ ⟨he, m, hm⟩ => ⟨he, n + m, by rw [hm, World.drewN_drewN, Nat.add_assoc]⟩
theorem take_eq_step {a b : List Int} {j : Nat} (h : a.length = b.length) (hj : j < a.length) (ht : a.take j = b.take j) (hx : a.getD j 0 = b.getD j 0) : a.take (j + 1) = b.take (j + 1) := by
  rw [List.take_succ_eq_append_getElem hj, List.take_succ_eq_append_getElem (by omega), ht]
  simp only [List.getD, List.getElem?_eq_getElem hj, List.getElem?_eq_getElem (show j < b.length by omega), Option.getD_some] at hx
  rw [hx]

set_option maxHeartbeats 2000000 in
theorem ints_any {w : World} {B : Nat} {A A2 : Option Addr} {c c2 : Nat} {a b : List Int} (hr : RdI w B .i64 A a) (hr2 : RdI w B .i64 A2 b) (h63 : a.length ≤ 9223372036854775807) :
    Calls Try.prog 26 #[.slice A a.length c, .slice A2 b.length c2] w fun e w' => e = .returned (.bool (decide (a = b))) ∧ ∃ n, w' = w.drewN n := by
  by_cases hl : a.length = b.length
  · have hlen := Lib.hid hl
    have hrl : Hid (RdI w B .i64 A2 b) := hr2
    clear hr2
    rw [← hl]
    clear hl
    go_enter Try.func26, Try.ntmps26
    go_wp2
    go_loopw [5] (fun i wr => ∃ (j n : Nat), j ≤ a.length ∧ i = .int .i64 j ∧ wr = w.drewN n ∧ a.take j = b.take j) (fun i _ => a.length - (intOf i).toNat)
    case atStart => exact ⟨0, 0, Nat.zero_le _, rfl, rfl, by simp⟩
    case round =>
      obtain ⟨j, n, hj, rfl, rfl, ht⟩ := hrel
      have HT := Lib.hid ht
      clear ht
      by_cases hlt : j < a.length
      · obtain ⟨ad, rfl, _, k0⟩ := hr.at_ hlt
        obtain ⟨ad2, rfl, _, k1⟩ := hrl.out.at_ (show j < b.length by rw [← hlen.out]; exact hlt)
        by_cases hx : a.getD j 0 = b.getD j 0
        · have HX := Lib.hid hx
          rw [← hx] at k1
          clear hx
          generalize a.getD j 0 = x at k0 k1
          go_wp2
          go_quiet (fail)
          go_wp2
          go_roundw
          case rel => exact ⟨j + 1, _, by omega, by go_num, rfl, take_eq_step hlen.out hlt HT.out HX.out⟩
          case measure => simp [intOf]; omega
        · have HF := Lib.hid (show decide (a = b) = false by
            rw [decide_eq_false_iff_not]
            intro h
            rw [h] at hx
            exact hx rfl)
          have hxf : (a.getD j 0 == b.getD j 0) = false := by simpa using hx
          generalize a.getD j 0 = x at *
          generalize b.getD j 0 = y at *
          go_wp2
          go_quiet (fail)
          go_wp2
          go_ret
          exact ⟨ret_bool HF.out.symm, _, World.drewN_drewN _ _ _⟩
      · have hjl : j = a.length := by omega
        subst hjl
        have HF := Lib.hid (show decide (a = b) = true by
          rw [decide_eq_true_eq]
          have h1 := HT.out
          rw [List.take_length, hlen.out, List.take_length] at h1
          exact h1)
        go_wp2
        go_ret
        exact ⟨ret_bool HF.out.symm, _, rfl⟩
  · have HF := Lib.hid (show decide (a = b) = false by
      rw [decide_eq_false_iff_not]
      intro h
      exact hl (by rw [h]))
    have hlf : ((a.length : Int) == (b.length : Int)) = false := by rw [beq_eq_false_iff_ne]; omega
    have hne : ¬ ((a.length : Int) = (b.length : Int)) := by omega
    go_enter Try.func26, Try.ntmps26
    go_wp2
    go_ret
    exact ⟨ret_bool HF.out.symm, 0, rfl⟩

theorem RdLL.at_ {w : World} {B : Nat} {k : IntKind} {A : Option Addr} {ls : List (List Int)} (h : RdLL w B k A ls) {j : Nat} (hj : j < ls.length) :
    ∃ ad Aj cj, A = some ad ∧ ad.block < B ∧ w.cell? (ad.add j) = some (.slice Aj (ls.getD j []).length cj) ∧ (ls.getD j []).length ≤ cj ∧ RdI w B k Aj (ls.getD j []) := h j hj
theorem RdLL.drewN {w : World} {B : Nat} {k : IntKind} {A : Option Addr} {ls : List (List Int)} (h : RdLL w B k A ls) (n : Nat) : RdLL (w.drewN n) B k A ls := h
theorem getDD_mem {ls : List (List Int)} {j : Nat} (h : j < ls.length) : ls.getD j [] ∈ ls := by
  rw [List.getD_eq_getElem?_getD, List.getElem?_eq_getElem h]
  exact List.getElem_mem h
theorem take_eq_stepL {a b : List (List Int)} {j : Nat} (h : a.length = b.length) (hj : j < a.length) (ht : a.take j = b.take j) (hx : a.getD j [] = b.getD j []) : a.take (j + 1) = b.take (j + 1) := by
  rw [List.take_succ_eq_append_getElem hj, List.take_succ_eq_append_getElem (by omega), ht]
  simp only [List.getD, List.getElem?_eq_getElem hj, List.getElem?_eq_getElem (show j < b.length by omega), Option.getD_some] at hx
  rw [hx]

set_option maxHeartbeats 2000000 in
theorem rows_any {w : World} {B : Nat} {A A2 : Option Addr} {c c2 : Nat} {a b : List (List Int)} (hr : RdLL w B .i64 A a) (hr2 : RdLL w B .i64 A2 b) (h63 : Len63 a) :
    Calls Try.prog 35 #[.slice A a.length c, .slice A2 b.length c2] w fun e w' => e = .returned (.bool (decide (a = b))) ∧ ∃ n, w' = w.drewN n := by
  obtain ⟨h1, h2⟩ := h63
  have HL := Lib.hid h2
  clear h2
  by_cases hl : a.length = b.length
  · have hlen := Lib.hid hl
    have hrl : Hid (RdLL w B .i64 A2 b) := hr2
    clear hr2
    rw [← hl]
    clear hl
    go_enter Try.func35, Try.ntmps35
    go_wp2
    go_loopw [5] (fun i wr => ∃ (j n : Nat), j ≤ a.length ∧ i = .int .i64 j ∧ wr = w.drewN n ∧ a.take j = b.take j) (fun i _ => a.length - (intOf i).toNat)
    case atStart => exact ⟨0, 0, Nat.zero_le _, rfl, rfl, by simp⟩
    case round =>
      obtain ⟨j, n, hj, rfl, rfl, ht⟩ := hrel
      have HT := Lib.hid ht
      clear ht
      by_cases hlt : j < a.length
      · obtain ⟨ad, Aj, cj, rfl, _, k0, _, hrj⟩ := hr.at_ hlt
        obtain ⟨ad2, Ak, ck, rfl, _, k1, _, hrk⟩ := hrl.out.at_ (show j < b.length by rw [← hlen.out]; exact hlt)
        have HM := Lib.hid (HL.out _ (getDD_mem hlt))
        by_cases hx : a.getD j [] = b.getD j []
        · have HX := Lib.hid (take_eq_stepL hlen.out hlt HT.out hx)
          rw [← hx] at k1 hrk
          clear hx
          generalize a.getD j [] = x at *
          have HC := Lib.hid (fun m => quiet_add_more (w := w) (a := n) (n := m) (ints_any (c := cj) (c2 := ck) (hrj.drewN (n + m)) (hrk.drewN (n + m)) HM.out))
          simp only [decide_true] at HC
          go_wp2
          go_quiet ((go_at_call 26; exact HC.out _))
          go_wp2
          go_roundw
          case rel => exact ⟨j + 1, _, by omega, by go_num, rfl, HX.out⟩
          case measure => simp [intOf]; omega
        · have HF := Lib.hid (show decide (a = b) = false by
            rw [decide_eq_false_iff_not]
            intro h
            rw [h] at hx
            exact hx rfl)
          generalize a.getD j [] = x at *
          generalize b.getD j [] = y at *
          have HC := fun m => quiet_add_more (w := w) (a := n) (n := m) (ints_any (c := cj) (c2 := ck) (hrj.drewN (n + m)) (hrk.drewN (n + m)) HM.out)
          simp only [hx, decide_false] at HC
          replace HC := Lib.hid HC
          go_wp2
          go_quiet ((go_at_call 26; exact HC.out _))
          go_wp2
          go_ret
          exact ⟨ret_bool HF.out.symm, _, World.drewN_drewN _ _ _⟩
      · have hjl : j = a.length := by omega
        subst hjl
        have HF := Lib.hid (show decide (a = b) = true by
          rw [decide_eq_true_eq]
          have h1 := HT.out
          rw [List.take_length, hlen.out, List.take_length] at h1
          exact h1)
        go_wp2
        go_ret
        exact ⟨ret_bool HF.out.symm, _, rfl⟩
  · have HF := Lib.hid (show decide (a = b) = false by
      rw [decide_eq_false_iff_not]
      intro h
      exact hl (by rw [h]))
    have hne : ¬ ((a.length : Int) = (b.length : Int)) := by omega
    go_enter Try.func35, Try.ntmps35
    go_wp2
    go_ret
    exact ⟨ret_bool HF.out.symm, 0, rfl⟩

def sameB (a b : Pc) : Bool := decide (a.w = b.w ∧ a.h = b.h ∧ a.d = b.d ∧ a.p = b.p)
set_option maxHeartbeats 2000000 in
theorem same_any {w : World} {B : Nat} {A A2 : Option Addr} {c c2 : Nat} {a b : Pc} (hr : RdLL w B .i64 A a.p) (hr2 : RdLL w B .i64 A2 b.p) (hB : B ≤ w.heap.size) (h63 : Len63 a.p) :
    Calls Try.prog 23 #[.agg #[.int .i64 a.w, .int .i64 a.h, .int .i64 a.d, .slice A a.p.length c], .agg #[.int .i64 b.w, .int .i64 b.h, .int .i64 b.d, .slice A2 b.p.length c2]] w fun e w' => e = .returned (.bool (sameB a b)) ∧ Below w.heap.size w w' := by
  obtain ⟨aw, ah, ad, ap⟩ := a
  obtain ⟨bw, bh, bd, bp⟩ := b
  simp only at *
  have HR := Lib.hid (fun W (hb : Below w.heap.size w W) => rows_any (c := c) (c2 := c2) (hr.below hb hB) (hr2.below hb hB) h63)
  have HS := Lib.hid (show sameB ⟨aw, ah, ad, ap⟩ ⟨bw, bh, bd, bp⟩ = (decide (aw = bw) && decide (ah = bh) && decide (ad = bd) && decide (ap = bp)) by simp [sameB, Bool.and_assoc])
  generalize decide (ap = bp) = r at *
  rw [HS.out]
  clear HS
  go_enter Try.func23, Try.ntmps23
  go_wp2_with (first
    | (go_at_call 35; go_must (refine (HR.out _ (by repeat (first | exact Below.refl _ _ | assumption | refine Below.drew ?_ | refine below_drewN ?_ _ | refine below_alloc ?_ _))).mono ?_); rintro e w1 ⟨rfl, n, rfl⟩))
  all_goals
    go_ret
    refine ⟨ret_bool ?_, ?_⟩
    · simp_all
    · first | exact below_drewN (below_alloc (below_alloc (Below.refl _ _) _) _) _ | exact below_alloc (below_alloc (Below.refl _ _) _) _
end Go.Proofs.Ytbbflddhbamjbaa
