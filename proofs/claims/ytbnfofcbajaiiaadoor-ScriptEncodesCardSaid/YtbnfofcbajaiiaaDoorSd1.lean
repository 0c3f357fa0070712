/- Scripts at the Door seat: acts, and what is known of Of and Decode. -/
import Derived.Test.YtbnfofcbajaiiaaDoorDEnv
set_option linter.unusedVariables false
namespace Go.Proofs.YtbnfofcbajaiiaaDoor.Am

/-- An act. -/
structure Act where
  kind : Int
  n : Int
  bytes : List UInt8

def Act.enc (a : Act) : List PV := [.int .i64 a.kind, .int .i64 a.n, .sl (a.bytes.map bpv) 1 a.bytes.length none]

/-- The byte at a place; nought, if there is none. -/
def Sp.getB (l : List UInt8) (i : Nat) : Int := ((l.getD i 0).toNat : Int)

/-- All bytes as acts. -/
def Sp.decF : Nat → List UInt8 → List Act
  | 0, _ => []
  | _, [] => []
  | f + 1, x :: r =>
    if x.toNat = 1 ∨ x.toNat = 3 then ⟨x.toNat, 0, (r.drop 2).take ((r.getD 0 0).toNat * 256 + (r.getD 1 0).toNat)⟩ :: decF f ((r.drop 2).drop ((r.getD 0 0).toNat * 256 + (r.getD 1 0).toNat))
    else if x.toNat = 2 then ⟨2, if 0 < r.length ∧ (r.getD 0 0).toNat ≠ 255 then ((r.getD 0 0).toNat : Int) else -1, []⟩ :: decF f (r.drop 1)
    else if x.toNat = 4 then ⟨4, (((r.getD 0 0).toNat * 256 + (r.getD 1 0).toNat : Nat) : Int), []⟩ :: decF f (r.drop 2)
    else ⟨x.toNat, 0, []⟩ :: decF f r

def Sp.dec (l : List UInt8) : List Act := Sp.decF l.length l

noncomputable def Sp.okActs (n : Nat) (c : List PV) : Bool := isRows Act.enc n c
noncomputable def Sp.acts (c : List PV) : List Act := rowsOf Act.enc c

noncomputable def g10 (xs : List PV) : Option (Bool × PV) := match xs with
  | [.sl c 3 n none] => some (Sp.okActs n c && decide (n ≤ 1000000), .sl c 3 n none)
  | _ => none
def Sp.decC (l : List UInt8) : List PV := (Sp.dec l).flatMap Act.enc
def Sp.decN (l : List UInt8) : Nat := (Sp.dec l).length
noncomputable def g11 (xs : List PV) : Option (Bool × PV) := match xs with
  | [.sl b 1 n none] => some (isBytes n b && decide (n ≤ 500000), .sl (Sp.decC (bytesL b)) 3 (Sp.decN (bytesL b)) none)
  | _ => none

def P10 : List Bool := [true, false, true, true, false, false, true, true, true, true] ++ List.replicate 9 false
noncomputable def L10a (H : FuncId → Hint) (N m : Nat) (cells : List PV) (n : Nat) (i : Int) : Option PV := loopS EN T0 H N 0 10 Tryd.f10 [1, 1, 0, 1, 0] P10 0 m ([some (PV.sl cells 3 n none), none, some PV.nils, some (PV.sl [] 3 0 (some 0)), none, none, some (PV.sl [] 3 0 (some 0)), some (PV.sl cells 3 n none), some (PV.int IntKind.i64 ↑n), some (PV.int IntKind.i64 i)] ++ List.replicate 9 none) []
noncomputable def L10b (H : FuncId → Hint) (N m : Nat) (cells : List PV) (n : Nat) (i : Int) (out : List PV) (j : Nat) : Option PV := loopS EN T0 H N 0 10 Tryd.f10 [1, 1, 0, 1, 0] P10 0 m ([some (PV.sl cells 3 n none), none, some PV.nils, some (PV.osl 0 j 0 3 j none), none, none, some (PV.sl [] 3 0 (some 0)), some (PV.sl cells 3 n none), some (PV.int IntKind.i64 ↑n), some (PV.int IntKind.i64 i)] ++ List.replicate 9 none) [.mem ⟨out, 3, j, false, false, false⟩]

def P11 : List Bool := [true, false, true, true, true, true, true, true] ++ List.replicate 12 false
noncomputable def L11a (H : FuncId → Hint) (N m : Nat) (b0 : List PV) (n0 : Nat) (b : List PV) (n : Nat) : Option PV := loopS EN T0 H N 5 12 Tryd.f12 [1, 1, 1, 0, 0] P11 1 m ([some (PV.sl b0 1 n0 none), none, some PV.nils, some PV.nils, some (PV.ptr 0 1 0), some (PV.sl b0 1 n0 none), some (PV.agg [PV.sl b0 1 n0 none]), some (PV.ptr 0 1 0)] ++ List.replicate 12 none) [.mem ⟨[PV.sl b 1 n none], 1, 1, true, false, true⟩]
noncomputable def L11b (H : FuncId → Hint) (N m : Nat) (b0 : List PV) (n0 : Nat) (b : List PV) (n : Nat) (out : List PV) (j : Nat) : Option PV := loopS EN T0 H N 5 12 Tryd.f12 [1, 1, 1, 0, 0] P11 1 m ([some (PV.sl b0 1 n0 none), none, some PV.nils, some (PV.osl 1 j 0 3 j none), some (PV.ptr 0 1 0), some (PV.sl b0 1 n0 none), some (PV.agg [PV.sl b0 1 n0 none]), some (PV.ptr 0 1 0)] ++ List.replicate 12 none) [.mem ⟨[PV.sl b 1 n none], 1, 1, true, false, true⟩, .mem ⟨out, 3, j, false, false, false⟩]

end Go.Proofs.YtbnfofcbajaiiaaDoor.Am
