/- all of the law: both rows of streams, compared. -/
import Derived.Test.YtnflhogjonlnmaaWvAll
import Derived.Test.YtnflhogjonlnmaaPkSames
import Derived.Test.YtnflhogjonlnmaaHvP
set_option linter.unusedSimpArgs false
set_option linter.unusedVariables false
namespace Go.Proofs.Ytnflhogjonlnmaa
open Go.RowKit

theorem weaveP_len (ls : List (List Pk)) : (weaveP ls).length ≤ total ls := by
  rw [weaveP]
  split
  · exact merge_len _ _
  · simp
set_option maxHeartbeats 2000000 in
theorem all_any {ls : List (List Pk)} {A : Option Addr} {c : Nat} {w : World} (hr : RdG LpR 1 w (fun b => b < w.heap.size) A ls) (hl : ls.length ≤ 1000000000) (ht : total ls ≤ 1000000000) :
    Calls Try.prog 23 #[.slice A ls.length c] w fun e w' => e = .returned (.bool true) ∧ Below w.heap.size w w' := by
  have HA := wall_any (c := c) hr hl
  have HB := fun W (hb : Below w.heap.size w W) => rweave_any (c := c) ((hr.below LpR.good hb).weak LpR.good (S' := fun b => b < W.heap.size) (fun b hb' _ => Nat.lt_of_lt_of_le hb' hb.size)) hl
  have hPl := weaveP_len ls
  unfold WeavePost at HA HB
  generalize weaveP ls = M at *
  generalize weaveE ls = E at *
  replace HA := Lib.hid HA
  replace HB := Lib.hid HB
  have hM : M.length ≤ 1000000000 := by omega
  clear hr hPl
  go_enter Try.func23, Try.ntmps23
  go_wp2_with (first
    | (go_at_call 24; (with_reducible refine HA.out.mono ?_); rintro e w1 ⟨v1, rfl, ho1, hb1⟩; obtain ⟨A1, c1, rfl, hc1, hr1⟩ := ho1.reads PkR.good (S := fun b => b < w1.heap.size) (fun b _ hl => hl))
    | (go_at_call 49; (with_reducible refine (HB.out _ hb1).mono ?_); rintro e w2 ⟨v2, rfl, ho2, hb2⟩; obtain ⟨A2, c2, rfl, hc2, hr2⟩ := ho2.reads PkR.good (S := fun b => b < w2.heap.size) (fun b _ hl => hl); have HSm := samepks_any c1 c2 (hr1.below PkR.good hb2) hr2 hM hM; rw [decide_eq_true rfl] at HSm)
    | (go_at_call 27; (with_reducible refine HSm.mono ?_); rintro e w3 ⟨rfl, hb3⟩))
  go_ret
  exact ⟨rfl, below_then (below_then hb1 hb2) hb3⟩
end Go.Proofs.Ytnflhogjonlnmaa
