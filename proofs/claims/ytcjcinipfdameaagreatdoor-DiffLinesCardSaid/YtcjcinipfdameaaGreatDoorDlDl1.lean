/- DiffLines: ops' cells, spec functions, summaries, tables. -/
import Derived.Test.YtcjcinipfdameaaGreatDoorDlNm4
import Derived.Test.YtcjcinipfdameaaGreatDoorSt2
set_option linter.unusedVariables false
set_option linter.unusedSimpArgs false
set_option maxRecDepth 100000
set_option maxHeartbeats 4000000
namespace Go.Proofs.YtcjcinipfdameaaGreatDoor.Am

/-- An op's cells. -/
def KO : List Kd := [.int .i64, .int .i64, .bool, .int .u8, .int .u8, .int .u8, .int .u8, .int .u8, .int .u8, .int .u8, .int .u8, .int .u8, .int .u8, .int .u8, .int .u8, .int .u8, .int .u8, .int .u8, .int .u8, .int .i64, .str, .str, .str, .int .i64, .bool, .bool, .int .i64,
  .str, .str, .str, .bool, .bool, .int .i64, .sl 18, .sl 1, .str, .str, .sl 18]

def Sp.c (r : List PV) (i : Nat) : PV := r.getD i .nilp
def Sp.kind (r : List PV) : Int := asI (Sp.c r 0)
def Sp.svA (r : List PV) : List UInt8 := bif Sp.kind r == 1 || Sp.kind r == 2 then asS (Sp.c r 20) else bif Sp.kind r == 3 || Sp.kind r == 4 then asS (Sp.c r 27) else bif Sp.kind r == 5 || Sp.kind r == 6 then asS (Sp.c r 35) else []
def Sp.svB (r : List PV) : List UInt8 := bif Sp.kind r == 1 || Sp.kind r == 2 then asS (Sp.c r 21) else bif Sp.kind r == 3 || Sp.kind r == 4 then asS (Sp.c r 28) else bif Sp.kind r == 5 || Sp.kind r == 6 then asS (Sp.c r 36) else []
def Sp.word (k : Int) : List UInt8 := bif decide (1 ≤ k) && decide (k ≤ 6) then txnWordsC.getD k.toNat [] else []
/-- Is there more of a front, a group, a filter than is asked? Their cells from a place on. -/
def Sp.lF (r : List PV) (o : Nat) : Bool := decide (((asS (Sp.c r (o + 19))).length : Int) > 100) || (decide (((asS (Sp.c r (o + 20))).length : Int) > 100) || decide (((asS (Sp.c r (o + 21))).length : Int) > 100))
def Sp.lG (r : List PV) (o : Nat) : Bool := decide (((asS (Sp.c r o)).length : Int) > 100) || (decide (((asS (Sp.c r (o + 1))).length : Int) > 100) || (decide (((asS (Sp.c r (o + 2))).length : Int) > 100) || (decide ((slLen (Sp.c r (o + 6)) : Int) > 30) || decide ((slLen (Sp.c r (o + 7)) : Int) > 260))))
def Sp.lH (r : List PV) (o : Nat) : Bool := decide (((asS (Sp.c r o)).length : Int) > 100) || (decide (((asS (Sp.c r (o + 1))).length : Int) > 100) || decide ((slLen (Sp.c r (o + 2)) : Int) > 20))
def Sp.longR (r : List PV) : Bool := Sp.lF r 1 || (Sp.lG r 27 || Sp.lH r 35)
/-- A key's text; nothing, if it is none. -/
def Sp.keyText (a b : List UInt8) : List UInt8 := bif Sp.label a && Sp.label b then a ++ 47 :: b else []
def Sp.line (r : List PV) : List UInt8 := Sp.word (Sp.kind r) ++ (32 :: (bif Sp.keyText (Sp.svA r) (Sp.svB r) == [] then [45] else Sp.keyText (Sp.svA r) (Sp.svB r)))
def Sp.put (r : List PV) : Int := bif Sp.kind r == 1 || (Sp.kind r == 3 || Sp.kind r == 5) then 1 else 0
def Sp.drop (r : List PV) : Int := bif Sp.kind r == 2 || (Sp.kind r == 4 || Sp.kind r == 6) then 1 else 0
def Sp.sum (f : List PV → Int) : List (List PV) → Int
  | [] => 0
  | r :: R => f r + Sp.sum f R

def KFr : List Kd := [.int .i64, .bool, .int .u8, .int .u8, .int .u8, .int .u8, .int .u8, .int .u8, .int .u8, .int .u8, .int .u8, .int .u8, .int .u8, .int .u8, .int .u8, .int .u8, .int .u8, .int .u8, .int .i64, .str, .str, .str, .int .i64, .bool, .bool, .int .i64]
def KGr : List Kd := [.str, .str, .str, .bool, .bool, .int .i64, .sl 18, .sl 1]
def KFi : List Kd := [.str, .str, .sl 18]

def rowsC (K : List Kd) (n : Nat) (cells : List PV) : Bool := decide (cells.length = n * K.length) && rowsOk K (chunks K.length n cells)
/-- Rows that aren't long. -/
def rowsS (n : Nat) (cells : List PV) : Bool := decide (n ≤ 20) && (rowsC KO n cells && !(chunks 38 n cells).any Sp.longR)

def gL22 (xs : List PV) : Option (Bool × PV) := match xs with
  | [.agg [.sl f 26 1 none, .sl g 8 1 none, .sl h 3 1 none], .int .i64 m] => some (wk KFr f && (wk KGr g && (wk KFi h && (decide (m = 1) && (oldL 0 g && oldL 0 h)))), .bool (Sp.lF f 0 || (Sp.lG g 0 || Sp.lH h 0)))
  | _ => none
def gSvc (xs : List PV) : Option (Bool × PV) := match xs with
  | [.agg r] => some (wk KO r, .agg [.str (Sp.svA r), .str (Sp.svB r)])
  | _ => none
def gWord (xs : List PV) : Option (Bool × PV) := match xs with
  | [.int .i64 k] => some (true, .str (Sp.word k))
  | _ => none
def gLine (xs : List PV) : Option (Bool × PV) := match xs with
  | [.agg r] => some (wk KO r && (oldL 0 r && !Sp.longR r), .str (Sp.line r))
  | _ => none
def gLong (xs : List PV) : Option (Bool × PV) := match xs with
  | [.sl cells 38 n none, .int .i64 m] => some (rowsC KO n cells && (decide (0 ≤ m) && decide (m ≤ 1000)), .bool (decide ((n : Int) > m) || (chunks 38 n cells).any Sp.longR))
  | _ => none
def gLines (xs : List PV) : Option (Bool × PV) := match xs with
  | [.sl cells 38 n none] => some (rowsS n cells, .sl ((chunks 38 n cells).map fun r => .str (Sp.line r)) 1 n none)
  | _ => none
def gCount (xs : List PV) : Option (Bool × PV) := match xs with
  | [.sl cells 38 n none] => some (rowsS n cells, .tup [.int .i64 (Sp.sum Sp.put (chunks 38 n cells)), .int .i64 (Sp.sum Sp.drop (chunks 38 n cells))])
  | _ => none
def gOf (xs : List PV) : Option (Bool × PV) := match xs with
  | [.sl cells 38 n none] => some (rowsS n cells, .sl cells 38 n none)
  | _ => none
def gFmt (xs : List PV) : Option (Bool × PV) := match xs with
  | [.agg [.str a, .str b]] => some (decide (a.length ≤ 1000000) && decide (b.length ≤ 1000000), .str (Sp.keyText a b))
  | _ => none
def gYes (xs : List PV) : Option (Bool × PV) := match xs with
  | [] => some (true, .bool true)
  | _ => none

noncomputable def TFmt : Table := Tadd TRKey 13 gFmt
noncomputable def TWord : Table := Tadd TFmt 15 gWord
noncomputable def TSvc : Table := Tadd TWord 14 gSvc
noncomputable def TSvc2 : Table := Tadd TSvc 17 gSvc
noncomputable def TLine : Table := Tadd TSvc2 10 gLine
noncomputable def TL22 : Table := Tadd TLine 12 gL22
noncomputable def TLong : Table := Tadd TL22 5 gLong
noncomputable def TLines : Table := Tadd TLong 6 gLines
noncomputable def TCount : Table := Tadd TLines 7 gCount
noncomputable def TOf : Table := Tadd TCount 9 gOf
noncomputable def TDl : Table := Tadd TOf 4 gYes

/-- Where appends go. -/
def HDl : FuncId → Hint := fun f t => match f, t with
  | 6, 26 => [some false, some false]
  | 9, 25 => [some false, some false]
  | _, _ => []

end Go.Proofs.YtcjcinipfdameaaGreatDoor.Am
