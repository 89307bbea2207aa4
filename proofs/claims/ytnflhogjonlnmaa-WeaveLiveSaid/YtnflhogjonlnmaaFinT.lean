/- The bound of a slice's capacity, as the form of claims gives it. -/
import Derived.Test.YtnflhogjonlnmaaFin
set_option linter.unusedSimpArgs false
set_option linter.unusedVariables false
namespace Go.Proofs.Ytnflhogjonlnmaa
open Go.ChangeShapes Go.WideShapes Go.ChangeAt Go.RowKit
theorem cap_le {P : Program} {w : World} {r : Reach} {base : Nat} {t e : TypeId} {A : Option Addr} {n c : Nat} (ht : P.underlying t = some (.slice e)) (h : Value.okWide P w r base t (.slice A n c)) : c ≤ 9223372036854775807 := by
  simp only [Value.okWide, ht, Cell.okWide, Cell.ok] at h
  rcases A with _ | a
  · split at h <;> simp_all
  · have h2 := h.2.1
    have : IntKind.i64.max = 9223372036854775807 := by decide
    omega
end Go.Proofs.Ytnflhogjonlnmaa
