/- linkboylaw10.alive holds. -/
import Derived.Test.YtaofbpldflcjmaaDoorMZMgGen
import Derived.Test.YtaofbpldflcjmaaDoorMMRs
set_option linter.unusedVariables false
set_option maxRecDepth 1000000
set_option maxHeartbeats 4000000
namespace Go.Proofs.YtaofbpldflcjmaaDoor.Am
open St
def isTrue : Option PV -> Bool
  | some (.bool b) => b
  | _ => false
theorem isTrue_eq : ∀ {x : Option PV}, isTrue x = true -> x = some (.bool true)
  | some (.bool true), _ => rfl
theorem alive10 : apartA EN (runA EN 1000009 80) 5 [] = some (.bool true) := isTrue_eq (by kernel_rfl)
end Go.Proofs.YtaofbpldflcjmaaDoor.Am
