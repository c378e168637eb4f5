/- What every row asks of the program itself. No condition. -/
import Derived.Test.YtkifjfjhghogjaaRows
import Derived.Test.YtkifjfjhghogjaaRow
namespace Go.Proofs.Ytkifjfjhghogjaa
theorem ownK : ownKnob Try.prog.godebug = none := by kernel_rfl
theorem laidOutK : laidOutB Try.prog = true := by kernel_rfl
end Go.Proofs.Ytkifjfjhghogjaa
