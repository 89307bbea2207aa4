/- octet.Reader: Err. -/
import Derived.Test.YtaimjlnhdobgeaaRdr
set_option linter.unusedSimpArgs false
set_option linter.unusedVariables false
namespace Go.Proofs.Ytaimjlnhdobgeaa
open Go.RowKit

theorem err_any {w : World} {lo hi g : Nat} {s : Rs} (h : Rdr w 95 lo hi g s) :
    Calls Try.prog 29 #[.pointer (some ⟨g, 0, none⟩)] w fun e w' => e = .returned (.int .i64 s.err) ∧ w = w' := by
  obtain ⟨A, c, c0, c1, c2, hf, hc, hr, ha, hl, hby, he0, he1⟩ := h.cells
  go_enter Try.func29, Try.ntmps29
  go_wp2
  go_ret
  exact ⟨rfl, rfl⟩
end Go.Proofs.Ytaimjlnhdobgeaa
