/- maglev.cursors: a round at each number of cursors. -/
import Derived.Test.YtaofbpldflcjmaaDoorMMM6
set_option linter.unusedVariables false
set_option maxRecDepth 100000
set_option maxHeartbeats 4000000
namespace Go.Proofs.YtaofbpldflcjmaaDoor.Am
open St
theorem cuR13 : CuR 13 := fun N m c n z C i => by kernel_rfl
theorem cuR14 : CuR 14 := fun N m c n z C i => by kernel_rfl
theorem cuR15 : CuR 15 := fun N m c n z C i => by kernel_rfl
theorem cuR16 : CuR 16 := fun N m c n z C i => by kernel_rfl
theorem cuR17 : CuR 17 := fun N m c n z C i => by kernel_rfl
theorem cuR18 : CuR 18 := fun N m c n z C i => by kernel_rfl
end Go.Proofs.YtaofbpldflcjmaaDoor.Am
