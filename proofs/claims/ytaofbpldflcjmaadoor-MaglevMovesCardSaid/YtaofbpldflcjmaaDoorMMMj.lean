/- maglev.Fill: a round at each number of backends. -/
import Derived.Test.YtaofbpldflcjmaaDoorMZMgMaG
set_option linter.unusedVariables false
set_option linter.unusedSimpArgs false
set_option maxRecDepth 100000
set_option maxHeartbeats 4000000
namespace Go.Proofs.YtaofbpldflcjmaaDoor.Am
section
open St
theorem fiR14 : FiR 14 := fun N m c n s sn z C cs i => by kernel_rfl
theorem fiR15 : FiR 15 := fun N m c n s sn z C cs i => by kernel_rfl
theorem fiR16 : FiR 16 := fun N m c n s sn z C cs i => by kernel_rfl
theorem fiR17 : FiR 17 := fun N m c n s sn z C cs i => by kernel_rfl
end
section
open St
theorem fiR18 : FiR 18 := fun N m c n s sn z C cs i => by kernel_rfl
theorem fiR19 : FiR 19 := fun N m c n s sn z C cs i => by kernel_rfl
theorem fiR20 : FiR 20 := fun N m c n s sn z C cs i => by kernel_rfl
end
section
open St
theorem fiR21 : FiR 21 := fun N m c n s sn z C cs i => by kernel_rfl
theorem fiR22 : FiR 22 := fun N m c n s sn z C cs i => by kernel_rfl
end
section
open St
theorem fiR23 : FiR 23 := fun N m c n s sn z C cs i => by kernel_rfl
theorem fiR24 : FiR 24 := fun N m c n s sn z C cs i => by kernel_rfl
end
end Go.Proofs.YtaofbpldflcjmaaDoor.Am
