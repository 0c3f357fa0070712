/- MaglevMoves: the law's table. -/
import Derived.Test.YtaofbpldflcjmaaDoorMZMgMaQ
import Derived.Test.YtaofbpldflcjmaaDoorMZMgMa0
set_option linter.unusedVariables false
set_option linter.unusedSimpArgs false
set_option maxRecDepth 100000
set_option maxHeartbeats 4000000
namespace Go.Proofs.YtaofbpldflcjmaaDoor.Am
open St
def gYesM (xs : List PV) : Option (Bool × PV) := match xs with
  | [] => some (true, .bool true)
  | _ => none
theorem TR.yesM {T : Table} (hT : TR T) : TR (Tadd T 5 gYesM) := by
  obtain ⟨K, hT⟩ := hT
  refine ⟨K + 80, Tadd_of (hT.le (runA_le' _ (by omega))) (fun xs v hg => ?_) rfl⟩
  unfold gYesM at hg
  split at hg
  . cases hg
    exact apartA_le (runA_le' _ (by omega)) alive10
  . cases hg
noncomputable def TM1 : Table := Tadd T0 5 gYesM
noncomputable def TM2 : Table := TaddT TM1 6 gFi
noncomputable def TM3 : Table := Tadd (Tadd TM2 8 gAt) 7 gMv
theorem TM3ok : TR TM3 := ((TR0.yesM.addT TFiok runFi).add TAtok runAt).add TAtEok runMv
end Go.Proofs.YtaofbpldflcjmaaDoor.Am
