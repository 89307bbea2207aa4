/- Numbers that go on by themselves. -/
import Derived.Test.YtnflhogjonlnmaaTapeN
set_option linter.unusedSimpArgs false
set_option linter.unusedVariables false
namespace Go.Proofs.Ytnflhogjonlnmaa
open Go.RowKit

theorem and_31 (c : Int) : 0 ≤ bits .and .i64 c 2147483647 ∧ bits .and .i64 c 2147483647 ≤ 2147483647 := by
  have h1 : (BitVec.ofInt 64 c &&& BitVec.ofInt 64 2147483647).toNat ≤ 2147483647 := by
    rw [BitVec.toNat_and]
    exact Nat.and_le_right
  have h2 : bits .and .i64 c 2147483647 = IntKind.i64.wrap ((BitVec.ofInt 64 c &&& BitVec.ofInt 64 2147483647).toNat : Int) := rfl
  rw [h2, IntKind.wrap_i64]
  omega

set_option maxHeartbeats 1000000 in
theorem rownext_any {w : World} {g : Nat} {s : Int} (h : Blk w g 113 #[.int .i64 s]) (ni : Int) (n0 : 1 ≤ ni) (n1 : ni ≤ 1073741824) :
    Calls Try.prog 59 #[.pointer (some ⟨g, 0, none⟩), .int .i64 ni] w fun e w' => ∃ (r : Nat) (s' : Int), e = .returned (.int .i64 (r : Int)) ∧ (r : Int) < ni ∧ Blk w' g 113 #[.int .i64 s'] ∧ w.grownBy w' (some g) := by
  obtain ⟨n, rfl⟩ := Int.eq_ofNat_of_zero_le (show 0 ≤ ni by omega)
  have k0 := h.cell 0
  have f0 := h.frozen 0
  have hne : (n : Int) ≠ 0 := by omega
  have HB := fun c => Lib.hid (and_31 c)
  go_enter Try.func59, Try.ntmps59
  go_wp2
  have HB2 := (HB (wrap64 (wrap64 (s * 1103515245) + 12345))).out
  generalize bits BinOp.and IntKind.i64 (wrap64 (wrap64 (s * 1103515245) + 12345)) 2147483647 = b at *
  obtain ⟨bn, hbn⟩ := Int.eq_ofNat_of_zero_le (show 0 ≤ b / 256 by omega)
  go_ret
  rw [hbn]
  exact ⟨bn % n, b, rfl, by have := Nat.mod_lt bn (show 0 < n by omega); omega, h.set_ 0 _, only_setCell (only_refl _ _) (.inl rfl) _⟩

theorem grown_new {a b c : World} {row : Option Nat} {x : Nat} (h : a.grownBy b row) (k : b.grownBy c (some x)) (hx : a.heap.size ≤ x) : a.grownBy c row :=
  ⟨k.os.trans h.os, k.tape.trans h.tape, k.output.trans h.output, Nat.le_trans h.size k.size, fun i hi hne => (k.block i (Nat.lt_of_lt_of_le hi h.size) (by simp; omega)).trans (h.block i hi hne)⟩
theorem only_then_below {a b c : World} {row : Option Nat} {B : Nat} (h : a.grownBy b row) (k : Below B b c) (hB : a.heap.size ≤ B) : a.grownBy c row :=
  ⟨k.os.trans h.os, k.tape.trans h.tape, k.output.trans h.output, Nat.le_trans h.size k.size, fun i hi hne => (k.block i (by omega)).trans (h.block i hi hne)⟩

end Go.Proofs.Ytnflhogjonlnmaa
