/- Names and keys: spec functions, summaries. -/
import Derived.Test.YtbnfofcbajaiiaaDoorDEnv
set_option linter.unusedVariables false
namespace Go.Proofs.YtbnfofcbajaiiaaDoor.Am

/-- A byte of labels. -/
def Sp.lb (b : UInt8) : Bool := (decide (97 ≤ b.toNat) && decide (b.toNat ≤ 122)) || ((decide (48 ≤ b.toNat) && decide (b.toNat ≤ 57)) || decide (b.toNat = 45))

def Sp.label (s : List UInt8) : Bool := decide (1 ≤ s.length) && (decide (s.length ≤ 15) && (decide (s.getD 0 0 ≠ 45) && (decide (s.getD (s.length - 1) 0 ≠ 45) && s.all Sp.lb)))

/-- Ahead of the first slash, behind it. -/
def Sp.fore (s : List UInt8) : List UInt8 := s.takeWhile (· != 47)
def Sp.aft (s : List UInt8) : List UInt8 := (s.dropWhile (· != 47)).drop 1
def Sp.isKey (s : List UInt8) : Bool := Sp.label (Sp.fore s) && Sp.label (Sp.aft s)
def Sp.keyText (a b : List UInt8) : List UInt8 := if Sp.label a && Sp.label b then a ++ [47] ++ b else []

def Sp.inSet (cells : List PV) (b : UInt8) : Bool := asB (cells.getD b.toNat .nilp)
def Sp.trimL (cells : List PV) (s : List UInt8) : List UInt8 := s.dropWhile (Sp.inSet cells)
def Sp.trimR (cells : List PV) (s : List UInt8) : List UInt8 := (s.reverse.dropWhile (Sp.inSet cells)).reverse
def Sp.isSet (cells : List PV) : Bool := decide (cells.length = 256) && cells.all fun x => match x with
  | .bool _ => true
  | _ => false
def Sp.idx (s : List UInt8) (c : Int) : Int := Lib.indexByte s c.toNat.toUInt8

/-- The bytes of labels, as the program names them. -/
def Sp.CS : List UInt8 := [97, 98, 99, 100, 101, 102, 103, 104, 105, 106, 107, 108, 109, 110, 111, 112, 113, 114, 115, 116, 117, 118, 119, 120, 121, 122, 48, 49, 50, 51, 52, 53, 54, 55, 56, 57, 45]
def Sp.asCells : List PV := (List.range 256).map fun i => PV.bool (Sp.lb (UInt8.ofNat i))
def Sp.trim (s : List UInt8) : List UInt8 := Sp.trimL Sp.asCells (Sp.trimR Sp.asCells s)
def gTrim (xs : List PV) : Option (Bool × PV) := match xs with
  | [.str s, .str cs] => some (decide (cs = Sp.CS) && decide (s.length ≤ 1000000), .str (Sp.trim s))
  | _ => none

def errV (g : Nat) : PV := .iface 188 (.gptr g)

def gIx (xs : List PV) : Option (Bool × PV) := match xs with
  | [.str s, .int .u8 c] => some (true, .int .i64 (Sp.idx s c))
  | _ => none
def gTL (xs : List PV) : Option (Bool × PV) := match xs with
  | [.str s, .eptr cells 0] => some (Sp.isSet cells && decide (s.length ≤ 1000000), .str (Sp.trimL cells s))
  | _ => none
def gTR (xs : List PV) : Option (Bool × PV) := match xs with
  | [.str s, .eptr cells 0] => some (Sp.isSet cells && decide (s.length ≤ 1000000), .str (Sp.trimR cells s))
  | _ => none
def gLab (xs : List PV) : Option (Bool × PV) := match xs with
  | [.str s] => some (decide (s.length ≤ 1000000), .bool (Sp.label s))
  | _ => none
def gKey (xs : List PV) : Option (Bool × PV) := match xs with
  | [.agg [.str a, .str b]] => some (decide (a.length ≤ 1000000) && decide (b.length ≤ 1000000), .bool (Sp.label a && Sp.label b))
  | _ => none
def gPar (xs : List PV) : Option Tr := match xs with
  | [.str s] => some (.br (Sp.isKey s) (.leaf (decide (s.length ≤ 1000000)) (.tup [.agg [.str (Sp.fore s), .str (Sp.aft s)], .nilif])) (.leaf (decide (s.length ≤ 1000000)) (.tup [.agg [.str [], .str []], errV 5])))
  | _ => none
def gRef (xs : List PV) : Option Tr := match xs with
  | [.str s] => some (.br (Sp.isKey s) (.leaf (decide (s.length ≤ 1000000)) (.tup [.agg [.str (Sp.fore s), .str (Sp.aft s)], .bool true])) (.leaf (decide (s.length ≤ 1000000)) (.tup [.agg [.str [], .str []], .bool false])))
  | _ => none
def gFmt (xs : List PV) : Option (Bool × PV) := match xs with
  | [.agg [.str a, .str b]] => some (decide (a.length ≤ 1000000) && decide (b.length ≤ 1000000), .str (Sp.keyText a b))
  | _ => none
def gNum (xs : List PV) : Option (Bool × PV) := match xs with
  | [.nilif] => some (true, .int .i64 0)
  | [.iface t (.gptr g)] => some (Nat.beq t 188 && Nat.blt g 18, .int .i64 ((g : Int) + 1))
  | _ => none
def gYes (xs : List PV) : Option (Bool × PV) := match xs with
  | [] => some (true, .bool true)
  | _ => none

noncomputable def TIx : Table := Tadd T0 86 gIx
noncomputable def TTL : Table := Tadd TIx 50 gTL
noncomputable def TTR : Table := Tadd TTL 51 gTR
noncomputable def TTrim : Table := Tadd TTR 31 gTrim
noncomputable def TLab : Table := Tadd TTrim 19 gLab
noncomputable def TRLab : Table := Tadd TLab 20 gLab
noncomputable def TKey : Table := Tadd TRLab 21 gKey
noncomputable def TRKey : Table := Tadd TKey 22 gKey
noncomputable def TPar : Table := TaddT TRKey 17 gPar
noncomputable def TRPar : Table := TaddT TPar 18 gRef
noncomputable def TFmt : Table := Tadd TRPar 23 gFmt
noncomputable def TNum : Table := Tadd TFmt 11 gNum
noncomputable def TAll : Table := Tadd TNum 16 gYes

end Go.Proofs.YtbnfofcbajaiiaaDoor.Am
