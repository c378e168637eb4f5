/- What every row asks of the program itself. No condition. -/
import Derived.Test.YthcbcolnahbihaaRows
import Derived.Test.YthcbcolnahbihaaRow
namespace Go.Proofs.Ythcbcolnahbihaa
theorem ownK : ownKnob Try.prog.godebug = none := by kernel_rfl
theorem laidOutK : laidOutB Try.prog = true := by kernel_rfl
end Go.Proofs.Ythcbcolnahbihaa
