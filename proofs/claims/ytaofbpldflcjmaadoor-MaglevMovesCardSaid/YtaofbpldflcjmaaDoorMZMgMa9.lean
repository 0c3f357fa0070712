/- maglev.cursors: a round at each number of cursors. -/
import Derived.Test.YtaofbpldflcjmaaDoorMMM6
set_option linter.unusedVariables false
set_option maxRecDepth 100000
set_option maxHeartbeats 4000000
namespace Go.Proofs.YtaofbpldflcjmaaDoor.Am
open St
theorem cuR19 : CuR 19 := fun N m c n z C i => by kernel_rfl
theorem cuR20 : CuR 20 := fun N m c n z C i => by kernel_rfl
theorem cuR21 : CuR 21 := fun N m c n z C i => by kernel_rfl
theorem cuR22 : CuR 22 := fun N m c n z C i => by kernel_rfl
theorem cuR23 : CuR 23 := fun N m c n z C i => by kernel_rfl
theorem cuR24 : CuR 24 := fun N m c n z C i => by kernel_rfl
end Go.Proofs.YtaofbpldflcjmaaDoor.Am
