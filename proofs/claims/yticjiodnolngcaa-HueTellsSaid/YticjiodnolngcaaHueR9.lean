/- The reference's fore and back of a place, every kind. -/
import Derived.Test.YticjiodnolngcaaHueR4
import Derived.Test.YticjiodnolngcaaHueR5
import Derived.Test.YticjiodnolngcaaHueR6
import Derived.Test.YticjiodnolngcaaHueR7
import Derived.Test.YticjiodnolngcaaHueR8
set_option linter.unusedSimpArgs false
set_option linter.unusedVariables false
namespace Go.Proofs.Yticjiodnolngcaa
open Go.RowKit

set_option maxHeartbeats 4000000 in
set_option maxRecDepth 100000 in
theorem rfore_0 {w : World} {B : Nat} {A : Option Addr} {cc : Nat} (l : List Int) (l1 : 1 ≤ l.length) (l4 : l.length ≤ 4) (hr : RdI w B .i64 A l) (hB : B ≤ w.heap.size) (d : Int) :
    Calls Try.prog 51 #[.slice A l.length cc, .int .i64 0, .int .i64 d] w (PtPost w l) := by
  obtain ⟨ad, rfl, hadB, _⟩ := hr.at_ (j := 0) (by omega)
  have HLn := Lib.hid l4
  go_enter Try.func51, Try.ntmps51
  go_wp2_with (first
    | (at_builtin; go_must (refine wpList_append_int _ rfl (.tmp 14) (.tmp 15) _ rfl w w.heap.size w.heap.size 3 .i64 8 Try.underlying22 info_int _ [] rfl (OwnI.empty w _ _ _ (Nat.le_refl _)) B (some ad) l.length cc l rfl rfl (hr.alloc hB _) (by have := HLn.out; simp; omega) (by omega) (by repeat (first | exact Below.refl _ _ | assumption | refine Below.drew ?_ | refine below_drewN ?_ _ | refine below_alloc ?_ _)) (Nat.le_refl _) (by simp) ?_); intro v1 w1 hown1' hb1; have hown1 : OwnI w1 w.heap.size 3 .i64 v1 l := hown1'; clear hown1'; obtain ⟨A1, cx, rfl, hcx, hrx, hbx⟩ := hown1.form; clear hrx hbx))
  go_ret
  exact ⟨A1, cx, rfl, hown1, hb1⟩

set_option maxHeartbeats 4000000 in
set_option maxRecDepth 100000 in
theorem rback_0 {w : World} {B : Nat} {A : Option Addr} {cc : Nat} (l : List Int) (l1 : 1 ≤ l.length) (l4 : l.length ≤ 4) (hr : RdI w B .i64 A l) (hB : B ≤ w.heap.size) (d : Int) :
    Calls Try.prog 52 #[.slice A l.length cc, .int .i64 0, .int .i64 d] w (PtPost w l) := by
  obtain ⟨ad, rfl, hadB, _⟩ := hr.at_ (j := 0) (by omega)
  have HLn := Lib.hid l4
  go_enter Try.func52, Try.ntmps52
  go_wp2_with (first
    | (at_builtin; go_must (refine wpList_append_int _ rfl (.tmp 13) (.tmp 14) _ rfl w w.heap.size w.heap.size 3 .i64 8 Try.underlying22 info_int _ [] rfl (OwnI.empty w _ _ _ (Nat.le_refl _)) B (some ad) l.length cc l rfl rfl (hr.alloc hB _) (by have := HLn.out; simp; omega) (by omega) (by repeat (first | exact Below.refl _ _ | assumption | refine Below.drew ?_ | refine below_drewN ?_ _ | refine below_alloc ?_ _)) (Nat.le_refl _) (by simp) ?_); intro v1 w1 hown1' hb1; have hown1 : OwnI w1 w.heap.size 3 .i64 v1 l := hown1'; clear hown1'; obtain ⟨A1, cx, rfl, hcx, hrx, hbx⟩ := hown1.form; clear hrx hbx))
  go_ret
  exact ⟨A1, cx, rfl, hown1, hb1⟩

theorem fore4L_ptF {l : List Int} {d : Int} (l2 : 2 ≤ l.length) (l4 : l.length ≤ 4) : fore4L l d (l.length - 1) = ptF (foreC 4 d) l := by
  rcases l with _ | ⟨a, _ | ⟨b, _ | ⟨c, _ | ⟨e, _ | ⟨x, t⟩⟩⟩⟩⟩
  · simp at l2
  · simp at l2
  · rfl
  · rfl
  · rfl
  · simp at l4
theorem rfore_any {w : World} {B : Nat} {A : Option Addr} {cc : Nat} (l : List Int) (k : Int) (hm : mayB l.length k = true) (hr : RdI w B .i64 A l) (hB : B ≤ w.heap.size) (hval : ∀ v ∈ l, 0 ≤ v ∧ v ≤ 65535) (d : Int) (hd : 1 ≤ d ∧ d ≤ 16) :
    Calls Try.prog 51 #[.slice A l.length cc, .int .i64 k, .int .i64 d] w (PtPost w (ptF (foreC k d) l)) := by
  have hm' := hm
  simp only [mayB, decide_eq_true_eq] at hm'
  obtain ⟨n1, n4, hk⟩ := hm'
  have h2 : ∀ x : Int, x / 2 / 2 = x / 4 := fun x => by rw [Int.ediv_ediv_of_nonneg (by decide)]; rfl
  rcases hk with rfl | ⟨rfl, n3⟩ | ⟨rfl, n3⟩ | ⟨rfl, n3⟩ | ⟨rfl, n2⟩
  · have e : ptF (foreC 0 d) l = l := by
      rcases l with _ | ⟨a, _ | ⟨b, _ | ⟨c, _ | ⟨e, _ | ⟨x, t⟩⟩⟩⟩⟩
      · simp at n1
      · rfl
      · rfl
      · rfl
      · rfl
      · simp at n4; omega
    rw [e]
    exact rfore_0 l (by omega) (by omega) hr hB d
  all_goals try
    rcases l with _ | ⟨a, _ | ⟨b, _ | ⟨c, tl⟩⟩⟩
    · simp at n3
    · simp at n3
    · simp at n3
    have htl : tl.length ≤ 1 := by simp at n4; omega
    have ha := hval a (by simp)
    have hb := hval b (by simp)
    have hc := hval c (by simp)
  · have e : ptF (foreC 1 d) (a :: b :: c :: tl) = wrapP (a - b) d :: b :: wrapP (c - b) d :: tl := by
      rcases tl with _ | ⟨e, _ | ⟨x, t⟩⟩
      · rfl
      · rfl
      · simp at htl
    rw [e]
    exact rfore_1 a b c tl htl hr hB ha hb hc d hd
  · have e : ptF (foreC 2 d) (a :: b :: c :: tl) = wrapP (wrapP (c + foldP (wrapP (a - c) d) d / 2) d + foldP (wrapP (b - wrapP (c + foldP (wrapP (a - c) d) d / 2) d) d) d / 2) d :: wrapP (a - c) d :: wrapP (b - wrapP (c + foldP (wrapP (a - c) d) d / 2) d) d :: tl := by
      rcases tl with _ | ⟨e, _ | ⟨x, t⟩⟩
      · rfl
      · rfl
      · simp at htl
    rw [e]
    exact rfore_2 a b c tl htl hr hB ha hb hc d hd
  · have e : ptF (foreC 3 d) (a :: b :: c :: tl) = wrapP (b + (foldP (wrapP (c - b) d) d + foldP (wrapP (a - b) d) d) / 2 / 2) d :: wrapP (c - b) d :: wrapP (a - b) d :: tl := by
      simp only [h2]
      rcases tl with _ | ⟨e, _ | ⟨x, t⟩⟩
      · rfl
      · rfl
      · simp at htl
    rw [e]
    exact rfore_3 a b c tl htl hr hB ha hb hc d hd
  · rw [← fore4L_ptF (by omega) (by omega)]
    exact rfore_4 l (by omega) (by omega) hr hB (fun j hj => hval _ (by rw [List.getD_eq_getElem?_getD, List.getElem?_eq_getElem hj]; exact List.getElem_mem hj)) d hd

theorem back4L_ptF {l : List Int} {d : Int} (l2 : 2 ≤ l.length) (l4 : l.length ≤ 4) : back4L l d (l.length - 1) = ptF (backC 4 d) l := by
  rcases l with _ | ⟨a, _ | ⟨b, _ | ⟨c, _ | ⟨e, _ | ⟨x, t⟩⟩⟩⟩⟩
  · simp at l2
  · simp at l2
  · rfl
  · rfl
  · rfl
  · simp at l4
theorem rback_any {w : World} {B : Nat} {A : Option Addr} {cc : Nat} (l : List Int) (k : Int) (hm : mayB l.length k = true) (hr : RdI w B .i64 A l) (hB : B ≤ w.heap.size) (hval : ∀ v ∈ l, 0 ≤ v ∧ v ≤ 65535) (d : Int) (hd : 1 ≤ d ∧ d ≤ 16) :
    Calls Try.prog 52 #[.slice A l.length cc, .int .i64 k, .int .i64 d] w (PtPost w (ptF (backC k d) l)) := by
  have hm' := hm
  simp only [mayB, decide_eq_true_eq] at hm'
  obtain ⟨n1, n4, hk⟩ := hm'
  have h2 : ∀ x : Int, x / 2 / 2 = x / 4 := fun x => by rw [Int.ediv_ediv_of_nonneg (by decide)]; rfl
  rcases hk with rfl | ⟨rfl, n3⟩ | ⟨rfl, n3⟩ | ⟨rfl, n3⟩ | ⟨rfl, n2⟩
  · have e : ptF (backC 0 d) l = l := by
      rcases l with _ | ⟨a, _ | ⟨b, _ | ⟨c, _ | ⟨e, _ | ⟨x, t⟩⟩⟩⟩⟩
      · simp at n1
      · rfl
      · rfl
      · rfl
      · rfl
      · simp at n4; omega
    rw [e]
    exact rback_0 l (by omega) (by omega) hr hB d
  all_goals try
    rcases l with _ | ⟨a, _ | ⟨b, _ | ⟨c, tl⟩⟩⟩
    · simp at n3
    · simp at n3
    · simp at n3
    have htl : tl.length ≤ 1 := by simp at n4; omega
    have ha := hval a (by simp)
    have hb := hval b (by simp)
    have hc := hval c (by simp)
  · have e : ptF (backC 1 d) (a :: b :: c :: tl) = wrapP (a + b) d :: b :: wrapP (c + b) d :: tl := by
      rcases tl with _ | ⟨e, _ | ⟨x, t⟩⟩
      · rfl
      · rfl
      · simp at htl
    rw [e]
    exact rback_1 a b c tl htl hr hB ha hb hc d hd
  · have e : ptF (backC 2 d) (a :: b :: c :: tl) = wrapP (b + wrapP (wrapP (a - foldP c d / 2) d - foldP b d / 2) d) d :: wrapP (c + wrapP (a - foldP c d / 2) d) d :: wrapP (wrapP (a - foldP c d / 2) d - foldP b d / 2) d :: tl := by
      rcases tl with _ | ⟨e, _ | ⟨x, t⟩⟩
      · rfl
      · rfl
      · simp at htl
    rw [e]
    exact rback_2 a b c tl htl hr hB ha hb hc d hd
  · have e : ptF (backC 3 d) (a :: b :: c :: tl) = wrapP (c + wrapP (a - (foldP b d + foldP c d) / 2 / 2) d) d :: wrapP (a - (foldP b d + foldP c d) / 2 / 2) d :: wrapP (b + wrapP (a - (foldP b d + foldP c d) / 2 / 2) d) d :: tl := by
      simp only [h2]
      rcases tl with _ | ⟨e, _ | ⟨x, t⟩⟩
      · rfl
      · rfl
      · simp at htl
    rw [e]
    exact rback_3 a b c tl htl hr hB ha hb hc d hd
  · rw [← back4L_ptF (by omega) (by omega)]
    exact rback_4 l (by omega) (by omega) hr hB (fun j hj => hval _ (by rw [List.getD_eq_getElem?_getD, List.getElem?_eq_getElem hj]; exact List.getElem_mem hj)) d hd
end Go.Proofs.Yticjiodnolngcaa
