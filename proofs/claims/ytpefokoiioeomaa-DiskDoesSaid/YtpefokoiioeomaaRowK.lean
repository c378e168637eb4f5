/- What every row asks of the program itself. No condition. -/
import Derived.Test.YtpefokoiioeomaaRows
import Derived.Test.YtpefokoiioeomaaRow
namespace Go.Proofs.Ytpefokoiioeomaa
theorem ownK : ownKnob Try.prog.godebug = none := by kernel_rfl
theorem laidOutK : laidOutB Try.prog = true := by kernel_rfl
end Go.Proofs.Ytpefokoiioeomaa
