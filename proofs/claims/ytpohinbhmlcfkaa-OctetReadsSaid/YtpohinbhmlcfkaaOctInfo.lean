/- Rows of the type table. -/
import Derived.Test.YtpohinbhmlcfkaaProg
import Derived.Test.YtpohinbhmlcfkaaLib
import Derived.KernelRfl
namespace Go.Proofs.Ytpohinbhmlcfkaa
theorem info_u8 : (Try.prog.info? 5).map (fun i => (i.zero, i.size, i.bytes)) = some (some (.int .u8 0), 1, 1) := by kernel_rfl
end Go.Proofs.Ytpohinbhmlcfkaa
