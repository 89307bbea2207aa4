/- Rows of the type table. -/
import Derived.Test.YtbbflddhbamjbaaProg
import Derived.Test.YtbbflddhbamjbaaLib
import Derived.KernelRfl
set_option linter.unusedSimpArgs false
set_option linter.unusedVariables false
namespace Go.Proofs.Ytbbflddhbamjbaa
theorem info_u8 : (Try.prog.info? 5).map (fun i => (i.zero, i.size, i.bytes)) = some (some (.int .u8 0), 1, 1) := by kernel_rfl
end Go.Proofs.Ytbbflddhbamjbaa
