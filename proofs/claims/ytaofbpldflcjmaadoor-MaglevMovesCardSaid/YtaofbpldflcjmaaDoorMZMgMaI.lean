/- maglev.Fill: a round at each number of backends. -/
import Derived.Test.YtaofbpldflcjmaaDoorMZMgMaG
set_option linter.unusedVariables false
set_option linter.unusedSimpArgs false
set_option maxRecDepth 100000
set_option maxHeartbeats 4000000
namespace Go.Proofs.YtaofbpldflcjmaaDoor.Am
open St
theorem fiR9 : FiR 9 := fun N m c n s sn z C cs i => by kernel_rfl
theorem fiR10 : FiR 10 := fun N m c n s sn z C cs i => by kernel_rfl
theorem fiR11 : FiR 11 := fun N m c n s sn z C cs i => by kernel_rfl
theorem fiR12 : FiR 12 := fun N m c n s sn z C cs i => by kernel_rfl
theorem fiR13 : FiR 13 := fun N m c n s sn z C cs i => by kernel_rfl
end Go.Proofs.YtaofbpldflcjmaaDoor.Am
