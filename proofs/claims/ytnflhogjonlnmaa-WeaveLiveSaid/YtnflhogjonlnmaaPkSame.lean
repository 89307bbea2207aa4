/- SamePacket, SamePage of the reference. -/
import Derived.Test.YtnflhogjonlnmaaPkVal
set_option linter.unusedSimpArgs false
set_option linter.unusedVariables false
namespace Go.Proofs.Ytnflhogjonlnmaa
open Go.RowKit

set_option maxHeartbeats 2000000 in
set_option maxRecDepth 100000 in
theorem samepk_any (a b : Pk) (A A' : Option Addr) (c c' : Nat) (w : World) (ha : RdI w w.heap.size .u8 A a.data) (hb : RdI w w.heap.size .u8 A' b.data) (wa : byteB a.data) (wb : byteB b.data) :
    Calls Try.prog 25 #[a.val A c, b.val A' c'] w fun e w' => e = .returned (.bool (decide (a = b))) ∧ Below w.heap.size w w' := by
  obtain ⟨a1, a2, a3, a4, a5, ad⟩ := a
  obtain ⟨b1, b2, b3, b4, b5, bd⟩ := b
  simp only at ha hb wa wb
  unfold Pk.val
  simp only
  have HD := Lib.hid (show decide (Pk.mk a1 a2 a3 a4 a5 ad = Pk.mk b1 b2 b3 b4 b5 bd) = ((a1 == b1) && ((a2 == b2) && ((a3 == b3) && ((a4 == b4) && ((a5 == b5) && decide (ad = bd)))))) by
    rw [Bool.eq_iff_iff]; simp)
  have r1 := fun (o o' : Obj) => run_str (P := Try.prog) Try.underlying38 Try.underlying5 Try.underlying9 ((RdI.alloc ha (Nat.le_refl _) o).alloc (by simp) o') c
  have r2 := fun (o o' : Obj) => run_str (P := Try.prog) Try.underlying38 Try.underlying5 Try.underlying9 ((RdI.alloc hb (Nat.le_refl _) o).alloc (by simp) o') c'
  have rq := str_beq wa wb
  clear wa wb ha hb
  go_enter Try.func25, Try.ntmps25
  go_wp2
  all_goals
    go_ret
    exact ⟨by rw [HD.out]; simp [*], below_alloc (below_alloc (Below.refl _ _) _) _⟩
end Go.Proofs.Ytnflhogjonlnmaa
