/- XOR of two bytes. -/
import Derived.Test.YtaimjlnhdobgeaaLib
set_option linter.unusedSimpArgs false
set_option linter.unusedVariables false
namespace Go.Proofs.Ytaimjlnhdobgeaa
open Go.RowKit

theorem xor_byte8 (a b : Int) : 0 ≤ bits .xor .u8 a b ∧ bits .xor .u8 a b ≤ 255 := by
  have h2 : bits .xor .u8 a b = IntKind.u8.wrap ((BitVec.ofInt 8 a ^^^ BitVec.ofInt 8 b).toNat : Int) := rfl
  rw [h2, IntKind.wrap_u8]; omega
theorem xor_same8 {a b : Int} (ha : 0 ≤ a ∧ a ≤ 255) (hb : 0 ≤ b ∧ b ≤ 255) : bits .xor .u8 a b = a ↔ b = 0 := by
  have h2 : bits .xor .u8 a b = IntKind.u8.wrap ((BitVec.ofInt 8 a ^^^ BitVec.ofInt 8 b).toNat : Int) := rfl
  have h3 := (BitVec.ofInt 8 a ^^^ BitVec.ofInt 8 b).isLt
  have ea : ((BitVec.ofInt 8 a).toNat : Int) = a := by rw [BitVec.toNat_ofInt]; omega
  have eb : ((BitVec.ofInt 8 b).toNat : Int) = b := by rw [BitVec.toNat_ofInt]; omega
  rw [h2, IntKind.wrap_u8]
  generalize BitVec.ofInt 8 a = x at *
  generalize BitVec.ofInt 8 b = y at *
  constructor
  · intro h
    have h4 : (x ^^^ y).toNat = x.toNat := by omega
    have h5 : x ^^^ y = x := BitVec.eq_of_toNat_eq h4
    have h6 : y = 0#8 := by
      have : x ^^^ (x ^^^ y) = x ^^^ x := by rw [h5]
      rwa [← BitVec.xor_assoc, BitVec.xor_self, BitVec.zero_xor] at this
    rw [← eb, h6]; rfl
  · intro h
    have h6 : y = 0#8 := BitVec.eq_of_toNat_eq (by simp; omega)
    rw [h6, BitVec.xor_zero, ← ea]; have := x.isLt; omega
end Go.Proofs.Ytaimjlnhdobgeaa
