/- What every row asks of the program itself. No condition. -/
import Derived.Test.YtmgdnbmepamcoaaRows
import Derived.Test.YtmgdnbmepamcoaaRow
namespace Go.Proofs.Ytmgdnbmepamcoaa
theorem ownK : ownKnob Try.prog.godebug = none := by kernel_rfl
theorem laidOutK : laidOutB Try.prog = true := by kernel_rfl
end Go.Proofs.Ytmgdnbmepamcoaa
