/- maglev.Fill: a round at each number of backends. -/
import Derived.Test.YtaofbpldflcjmaaDoorMZMgMaG
set_option linter.unusedVariables false
set_option linter.unusedSimpArgs false
set_option maxRecDepth 100000
set_option maxHeartbeats 4000000
namespace Go.Proofs.YtaofbpldflcjmaaDoor.Am
open St
theorem fiR1 : FiR 1 := fun N m c n s sn z C cs i => by kernel_rfl
theorem fiR2 : FiR 2 := fun N m c n s sn z C cs i => by kernel_rfl
theorem fiR3 : FiR 3 := fun N m c n s sn z C cs i => by kernel_rfl
theorem fiR4 : FiR 4 := fun N m c n s sn z C cs i => by kernel_rfl
theorem fiR5 : FiR 5 := fun N m c n s sn z C cs i => by kernel_rfl
theorem fiR6 : FiR 6 := fun N m c n s sn z C cs i => by kernel_rfl
theorem fiR7 : FiR 7 := fun N m c n s sn z C cs i => by kernel_rfl
theorem fiR8 : FiR 8 := fun N m c n s sn z C cs i => by kernel_rfl
end Go.Proofs.YtaofbpldflcjmaaDoor.Am
