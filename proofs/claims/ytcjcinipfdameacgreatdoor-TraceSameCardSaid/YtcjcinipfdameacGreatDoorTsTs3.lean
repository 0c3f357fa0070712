/- TraceSame: the law's tree. -/
import Derived.Test.YtcjcinipfdameacGreatDoorTsTs2
set_option linter.unusedVariables false
set_option maxRecDepth 100000
set_option maxHeartbeats 8000000
namespace Go.Proofs.YtcjcinipfdameacGreatDoor.Am

theorem uLaw (r s : List PV) (N : Nat) : apartS EN TTs H0 N 5 3 [PV.agg (shapeAt KT r 0), PV.agg (shapeAt KT s 0)] =
  (ass (oldL 0 (slCells (Sp.c r 0))) <| ass (textsC (slLen (Sp.c r 0)) (slCells (Sp.c r 0)) && (decide ((0 : Int) ≤ 400) && decide ((400 : Int) ≤ 1000))) <|
  bif Sp.lng 400 0 (Sp.steps r) then some (PV.bool true) else
  (ass (oldL 0 (slCells (Sp.c s 0))) <| ass (textsC (slLen (Sp.c s 0)) (slCells (Sp.c s 0)) && (decide ((0 : Int) ≤ 400) && decide ((400 : Int) ≤ 1000))) <|
  bif Sp.lng 400 0 (Sp.steps s) then some (PV.bool true) else
  (bif Sp.lF (((shapeAt KT r 0).drop 2).take 26) || Sp.lF (((shapeAt KT s 0).drop 2).take 26) then some (PV.bool true) else
  (ass (oldL 2 (slCells (Sp.c r 0))) <| ass (oldL 2 (slCells (Sp.c s 0))) <| ass (oldL 0 (slCells (Sp.c r 0))) <| ass (oldL 0 (slCells (Sp.c s 0))) <| ass (traceC (shapeAt KT r 0) && traceC (shapeAt KT s 0)) <|
  ass (oldL 2 (slCells (Sp.c r 0))) <| ass (oldL 4 (slCells (Sp.c s 0))) <| ass (oldL 0 (slCells (Sp.c r 0))) <| ass (oldL 0 (slCells (Sp.c s 0))) <| ass (traceC (shapeAt KT r 0) && traceC (shapeAt KT s 0)) <|
  bif Sp.same (shapeAt KT r 0) (shapeAt KT s 0) == Sp.same (shapeAt KT r 0) (shapeAt KT s 0) then
    (ass (oldL 6 (slCells (Sp.c r 0))) <| ass (oldL 0 (slCells (Sp.c r 0))) <| ass (traceC (shapeAt KT r 0)) <| ass (oldL 6 (slCells (Sp.c r 0))) <| ass (oldL 0 (slCells (Sp.c r 0))) <| ass (traceC (shapeAt KT r 0)) <|
    some (PV.bool (Sp.line (shapeAt KT r 0) == Sp.line (shapeAt KT r 0))))
  else some (PV.bool false))))) := by kernel_rfl

end Go.Proofs.YtcjcinipfdameacGreatDoor.Am
