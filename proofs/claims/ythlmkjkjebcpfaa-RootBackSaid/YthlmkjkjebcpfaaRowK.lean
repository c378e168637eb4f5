/- What every row asks of the program itself. No condition. -/
import Derived.Test.YthlmkjkjebcpfaaRows
import Derived.Test.YthlmkjkjebcpfaaRow
namespace Go.Proofs.Ythlmkjkjebcpfaa
theorem ownK : ownKnob Try.prog.godebug = none := by kernel_rfl
theorem laidOutK : laidOutB Try.prog = true := by kernel_rfl
end Go.Proofs.Ythlmkjkjebcpfaa
