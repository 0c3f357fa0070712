/- maglev.Fill: the table of what it calls. -/
import Derived.Test.YtaofbpldflcjmaaDoorMZMgMaE
import Derived.Test.YtaofbpldflcjmaaDoorMZMgMaA
import Derived.Test.YtaofbpldflcjmaaDoorMZMgMaB
set_option linter.unusedVariables false
set_option linter.unusedSimpArgs false
set_option maxRecDepth 100000
set_option maxHeartbeats 4000000
namespace Go.Proofs.YtaofbpldflcjmaaDoor.Am
open St
def Sp.srt (c : List PV) (n : Nat) : List PV := (sortP (chunks 18 n c)).flatten
def Sp.srn (c : List PV) (n : Nat) : Nat := (sortP (chunks 18 n c)).length
def gSoQ (xs : List PV) : Option (Bool × PV) := match xs with
  | [.sl c e n none] => some (Nat.beq e 18 && goodP n c, .sl (Sp.srt c n) 18 (Sp.srn c n) none)
  | _ => none
noncomputable def TFi0 : Table := Tadd (Tadd (Tadd T0 14 gSoQ) 15 gSz) 16 gCo
noncomputable def TFi1 : Table := TaddT TFi0 17 gCu
noncomputable def TFi2 : Table := TaddT TFi1 18 gRep
noncomputable def TFi : Table := TaddT TFi2 19 gTk
theorem TFiok : TR TFi := ((((((TR0.add TCmok' runSortPt).add TIsok (runSz0 tSzM)).add TIfok runCo).addF TCuok runCu).addF TR0 runRep)).addF TR0 runTk
where TCmok' : TR CP.TCm := CP.TCmok
end Go.Proofs.YtaofbpldflcjmaaDoor.Am
