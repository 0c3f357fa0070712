/- Labels and keys: spec functions, summaries. -/
import Derived.Test.YtcjcinipfdameaaGreatDoorDlEnvN
set_option linter.unusedVariables false
namespace Go.Proofs.YtcjcinipfdameaaGreatDoor.Am

def Sp.lb (b : UInt8) : Bool := (decide (97 ≤ b.toNat) && decide (b.toNat ≤ 122)) || ((decide (48 ≤ b.toNat) && decide (b.toNat ≤ 57)) || decide (b.toNat = 45))

def Sp.label (s : List UInt8) : Bool := decide (1 ≤ s.length) && (decide (s.length ≤ 15) && (decide (s.getD 0 0 ≠ 45) && (decide (s.getD (s.length - 1) 0 ≠ 45) && s.all Sp.lb)))

def Sp.inSet (cells : List PV) (b : UInt8) : Bool := asB (cells.getD b.toNat .nilp)
def Sp.trimL (cells : List PV) (s : List UInt8) : List UInt8 := s.dropWhile (Sp.inSet cells)
def Sp.trimR (cells : List PV) (s : List UInt8) : List UInt8 := (s.reverse.dropWhile (Sp.inSet cells)).reverse
def Sp.isSet (cells : List PV) : Bool := decide (cells.length = 256) && cells.all fun x => match x with
  | .bool _ => true
  | _ => false
def Sp.CS : List UInt8 := [97, 98, 99, 100, 101, 102, 103, 104, 105, 106, 107, 108, 109, 110, 111, 112, 113, 114, 115, 116, 117, 118, 119, 120, 121, 122, 48, 49, 50, 51, 52, 53, 54, 55, 56, 57, 45]
def Sp.asCells : List PV := (List.range 256).map fun i => PV.bool (Sp.lb (UInt8.ofNat i))
def Sp.trim (s : List UInt8) : List UInt8 := Sp.trimL Sp.asCells (Sp.trimR Sp.asCells s)
def gTrim (xs : List PV) : Option (Bool × PV) := match xs with
  | [.str s, .str cs] => some (decide (cs = Sp.CS) && decide (s.length ≤ 1000000), .str (Sp.trim s))
  | _ => none

def gTL (xs : List PV) : Option (Bool × PV) := match xs with
  | [.str s, .eptr cells 0] => some (Sp.isSet cells && decide (s.length ≤ 1000000), .str (Sp.trimL cells s))
  | _ => none
def gTR (xs : List PV) : Option (Bool × PV) := match xs with
  | [.str s, .eptr cells 0] => some (Sp.isSet cells && decide (s.length ≤ 1000000), .str (Sp.trimR cells s))
  | _ => none
def gLab (xs : List PV) : Option (Bool × PV) := match xs with
  | [.str s] => some (decide (s.length ≤ 1000000), .bool (Sp.label s))
  | _ => none
def gKey (xs : List PV) : Option (Bool × PV) := match xs with
  | [.agg [.str a, .str b]] => some (decide (a.length ≤ 1000000) && decide (b.length ≤ 1000000), .bool (Sp.label a && Sp.label b))
  | _ => none
noncomputable def TTL : Table := Tadd T0 111 gTL
noncomputable def TTR : Table := Tadd TTL 112 gTR
noncomputable def TTrim : Table := Tadd TTR 93 gTrim
noncomputable def TLab : Table := Tadd TTrim 70 gLab
noncomputable def TRLab : Table := Tadd TLab 44 gLab
noncomputable def TKey : Table := Tadd TRLab 42 gKey
noncomputable def TRKey : Table := Tadd TKey 18 gKey

end Go.Proofs.YtcjcinipfdameaaGreatDoor.Am
