/- TraceSame: traces' cells, spec functions, summaries, tables. -/
import Derived.Test.YtcjcinipfdameacGreatDoorTsLaidE
import Derived.Test.YtcjcinipfdameacGreatDoorSt2
set_option linter.unusedVariables false
set_option linter.unusedSimpArgs false
set_option maxRecDepth 100000
set_option maxHeartbeats 4000000
namespace Go.Proofs.YtcjcinipfdameacGreatDoor.Am

def KFr : List Kd := [.int .i64, .bool, .int .u8, .int .u8, .int .u8, .int .u8, .int .u8, .int .u8, .int .u8, .int .u8, .int .u8, .int .u8, .int .u8, .int .u8, .int .u8, .int .u8, .int .u8, .int .u8, .int .i64, .str, .str, .str, .int .i64, .bool, .bool, .int .i64]
/-- A trace's cells. -/
def KT : List Kd := [.sl 1, .int .i64, .int .i64, .bool, .int .u8, .int .u8, .int .u8, .int .u8, .int .u8, .int .u8, .int .u8, .int .u8, .int .u8, .int .u8, .int .u8, .int .u8, .int .u8, .int .u8, .int .u8, .int .u8, .int .i64, .str, .str, .str, .int .i64, .bool, .bool, .int .i64,
  .bool, .int .u8, .int .u8, .int .u8, .int .u8, .int .u8, .int .u8, .int .u8, .int .u8, .int .u8, .int .u8, .int .u8, .int .u8, .int .u8, .int .u8, .int .u8, .int .u8, .int .i64]

def Sp.c (r : List PV) (i : Nat) : PV := r.getD i .nilp
def Sp.strs (a : List PV) : List (List UInt8) := a.map asS
def Sp.steps (r : List PV) : List (List UInt8) := Sp.strs (slCells (Sp.c r 0))
/-- Texts, in a slice. -/
def textsC (n : Nat) (a : List PV) : Bool := decide (a.length = n) && a.all Kd.str.ok
/-- Are texts more than so many bytes? -/
def Sp.lng (m : Int) : Int → List (List UInt8) → Bool
  | _, [] => false
  | acc, s :: r => decide ((s.length : Int) > m) || (decide (acc + (1 + (s.length : Int)) > m) || Sp.lng m (acc + (1 + (s.length : Int))) r)

def gLng (xs : List PV) : Option (Bool × PV) := match xs with
  | [.sl a 1 n none, .int .i64 m] => some (textsC n a && (decide (0 ≤ m) && decide (m ≤ 1000)), .bool (Sp.lng m 0 (Sp.strs a)))
  | _ => none
def gEq (xs : List PV) : Option (Bool × PV) := match xs with
  | [.sl a 1 n none, .sl b 1 m none] => some (textsC n a && (textsC m b && (decide (n ≤ 1000) && decide (m ≤ 1000))), .bool (Sp.strs a == Sp.strs b))
  | _ => none
def gJn (xs : List PV) : Option (Bool × PV) := match xs with
  | [.sl a 1 n none, .str sep] => some (textsC n a && (decide (n ≤ 1000) && decide ((Sp.joined sep (Sp.strs a)).length ≤ 140737488355328)), .str (Sp.joined sep (Sp.strs a)))
  | _ => none

/-- Are two traces' fronts, backends the same? -/
def Sp.fr (r s : List PV) : Bool := asI (Sp.c r 2) == asI (Sp.c s 2) && (asB (Sp.c r 3) == asB (Sp.c s 3) && (asI (Sp.c r 4) == asI (Sp.c s 4) && (asI (Sp.c r 5) == asI (Sp.c s 5) && (asI (Sp.c r 6) == asI (Sp.c s 6) && (asI (Sp.c r 7) == asI (Sp.c s 7) && (asI (Sp.c r 8) == asI (Sp.c s 8) && (asI (Sp.c r 9) == asI (Sp.c s 9) && (asI (Sp.c r 10) == asI (Sp.c s 10) && (asI (Sp.c r 11) == asI (Sp.c s 11) && (asI (Sp.c r 12) == asI (Sp.c s 12) && (asI (Sp.c r 13) == asI (Sp.c s 13) && (asI (Sp.c r 14) == asI (Sp.c s 14) && (asI (Sp.c r 15) == asI (Sp.c s 15) && (asI (Sp.c r 16) == asI (Sp.c s 16) && (asI (Sp.c r 17) == asI (Sp.c s 17) && (asI (Sp.c r 18) == asI (Sp.c s 18) && (asI (Sp.c r 19) == asI (Sp.c s 19) && true))))))))))))))) && true) && (asI (Sp.c r 20) == asI (Sp.c s 20) && true) && (asS (Sp.c r 21) == asS (Sp.c s 21) && (asS (Sp.c r 22) == asS (Sp.c s 22) && true) && (asS (Sp.c r 23) == asS (Sp.c s 23) && (asI (Sp.c r 24) == asI (Sp.c s 24) && (asB (Sp.c r 25) == asB (Sp.c s 25) && (asB (Sp.c r 26) == asB (Sp.c s 26) && (asI (Sp.c r 27) == asI (Sp.c s 27) && true)))))))
def Sp.bk (r s : List PV) : Bool := (asB (Sp.c r 28) == asB (Sp.c s 28) && (asI (Sp.c r 29) == asI (Sp.c s 29) && (asI (Sp.c r 30) == asI (Sp.c s 30) && (asI (Sp.c r 31) == asI (Sp.c s 31) && (asI (Sp.c r 32) == asI (Sp.c s 32) && (asI (Sp.c r 33) == asI (Sp.c s 33) && (asI (Sp.c r 34) == asI (Sp.c s 34) && (asI (Sp.c r 35) == asI (Sp.c s 35) && (asI (Sp.c r 36) == asI (Sp.c s 36) && (asI (Sp.c r 37) == asI (Sp.c s 37) && (asI (Sp.c r 38) == asI (Sp.c s 38) && (asI (Sp.c r 39) == asI (Sp.c s 39) && (asI (Sp.c r 40) == asI (Sp.c s 40) && (asI (Sp.c r 41) == asI (Sp.c s 41) && (asI (Sp.c r 42) == asI (Sp.c s 42) && (asI (Sp.c r 43) == asI (Sp.c s 43) && (asI (Sp.c r 44) == asI (Sp.c s 44) && true))))))))))))))) && true) && (asI (Sp.c r 45) == asI (Sp.c s 45) && true))
def Sp.same (r s : List PV) : Bool := bif Sp.steps r == Sp.steps s then (bif asI (Sp.c r 1) == asI (Sp.c s 1) then (bif Sp.fr r s then Sp.bk r s else false) else false) else false
/-- A verdict's word. -/
def Sp.vw (k : Int) : List UInt8 := bif decide (0 ≤ k) && decide (k ≤ 6) then fwdWordsC.getD k.toNat [] else [63]
def Sp.line (r : List PV) : List UInt8 := Sp.joined [62] (Sp.steps r) ++ (32 :: Sp.vw (asI (Sp.c r 1)))
/-- Traces that aren't long. -/
def traceC (r : List PV) : Bool := wk KT r && (oldL 0 r && (textsC (slLen (Sp.c r 0)) (slCells (Sp.c r 0)) && (decide (slLen (Sp.c r 0) ≤ 400) && decide ((Sp.joined [62] (Sp.steps r)).length ≤ 400))))
def Sp.lF (r : List PV) : Bool := decide (((asS (Sp.c r 19)).length : Int) > 100) || (decide (((asS (Sp.c r 20)).length : Int) > 100) || decide (((asS (Sp.c r 21)).length : Int) > 100))
def gSame (xs : List PV) : Option (Bool × PV) := match xs with
  | [.agg r, .agg s] => some (traceC r && traceC s, .bool (Sp.same r s))
  | _ => none
def gLine (xs : List PV) : Option (Bool × PV) := match xs with
  | [.agg r] => some (traceC r, .str (Sp.line r))
  | _ => none
def gL22 (xs : List PV) : Option (Bool × PV) := match xs with
  | [.agg [.sl f 26 2 none, .sl [] 8 0 none, .sl [] 3 0 none], .int .i64 m] => some (decide (f.length = 52) && (wk KFr (f.take 26) && (wk KFr (f.drop 26) && decide (m = 2))), .bool (Sp.lF (f.take 26) || Sp.lF (f.drop 26)))
  | _ => none
def gYes (xs : List PV) : Option (Bool × PV) := match xs with
  | [] => some (true, .bool true)
  | _ => none

noncomputable def TJn : Table := Tadd T0 17 gJn
noncomputable def TEq : Table := Tadd (Tadd TJn 14 gEq) 15 gEq
noncomputable def TSame : Table := Tadd (Tadd TEq 7 gSame) 8 gSame
noncomputable def TLine : Table := Tadd (Tadd TSame 10 gLine) 11 gLine
noncomputable def TLng : Table := Tadd (Tadd TLine 5 gLng) 6 gL22
noncomputable def TTs : Table := Tadd TLng 4 gYes

end Go.Proofs.YtcjcinipfdameacGreatDoor.Am
