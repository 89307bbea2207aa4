/- pic.inside; the reference's Side, lies. -/
import Derived.Test.YtbbflddhbamjbaaPicIs
set_option linter.unusedSimpArgs false
set_option linter.unusedVariables false
namespace Go.Proofs.Ytbbflddhbamjbaa
open Go.RowKit

def insB (W H x y w h : Int) : Bool := decide (0 ≤ x ∧ 0 ≤ y ∧ 1 ≤ w ∧ 1 ≤ h ∧ w ≤ W - x ∧ h ≤ H - y)
set_option maxHeartbeats 1000000 in
theorem inside_any (W H D : Int) (x y a b : Int) (w1 : 1 ≤ W) (w2 : W ≤ 64) (h1 : 1 ≤ H) (h2 : H ≤ 64) (hx : x ≤ 9223372036854775807) (hy : y ≤ 9223372036854775807) (A : Option Addr) (n c : Nat) (w : World) :
    Calls Try.prog 54 #[.agg #[.int .i64 W, .int .i64 H, .int .i64 D, .slice A n c], .int .i64 x, .int .i64 y, .int .i64 a, .int .i64 b] w fun e w' => e = .returned (.bool (insB W H x y a b)) ∧ Below w.heap.size w w' := by
  go_enter Try.func54, Try.ntmps54
  go_wp2
  all_goals
    go_ret
    exact ⟨ret_bool (by unfold insB; first | (simp; omega) | (rw [decide_eq_decide]; omega)), below_alloc (Below.refl _ _) _⟩

def liesB (t n all : Int) : Bool := decide (0 ≤ t ∧ 1 ≤ n ∧ n ≤ all ∧ t ≤ all - n)
end Go.Proofs.Ytbbflddhbamjbaa
