/- Scripts: acts, as the document has them; the loops' states; what is known of the calls. -/
import Derived.Test.YtbnfofcbajaiiaaKin
set_option linter.unusedVariables false
namespace Go.Proofs.Ytbnfofcbajaiiaa.Am

/-- An act. -/
structure Act where
  kind : Int
  n : Int
  bytes : List UInt8

def Act.enc (a : Act) : List PV := [.int .i64 a.kind, .int .i64 a.n, .sl (a.bytes.map bpv) 1 a.bytes.length none]

/-- The byte at a place; nought, if there is none. -/
def Sp.getB (l : List UInt8) (i : Nat) : Int := ((l.getD i 0).toNat : Int)

/-- All bytes as acts. -/
def Sp.decF : Nat → List UInt8 → List Act
  | 0, _ => []
  | _, [] => []
  | f + 1, x :: r =>
    if x.toNat = 1 ∨ x.toNat = 3 then ⟨x.toNat, 0, (r.drop 2).take ((r.getD 0 0).toNat * 256 + (r.getD 1 0).toNat)⟩ :: decF f ((r.drop 2).drop ((r.getD 0 0).toNat * 256 + (r.getD 1 0).toNat))
    else if x.toNat = 2 then ⟨2, if 0 < r.length ∧ (r.getD 0 0).toNat ≠ 255 then ((r.getD 0 0).toNat : Int) else -1, []⟩ :: decF f (r.drop 1)
    else if x.toNat = 4 then ⟨4, (((r.getD 0 0).toNat * 256 + (r.getD 1 0).toNat : Nat) : Int), []⟩ :: decF f (r.drop 2)
    else ⟨x.toNat, 0, []⟩ :: decF f r

def Sp.dec (l : List UInt8) : List Act := Sp.decF l.length l

noncomputable def g38 (xs : List PV) : Option (Bool × PV) := match xs with
  | [.sl b 1 n none, .int .i64 i] => some (isBytes n b && decide (0 ≤ i), .int .i64 (Sp.getB (bytesL b) i.toNat))
  | _ => none
noncomputable def g39 (xs : List PV) : Option (Bool × PV) := match xs with
  | [.int .i64 i, .int .i64 j] => some (true, .int .i64 (min i j))
  | _ => none
noncomputable def T38 : Table := Tadd T0 38 g38
noncomputable def T39 : Table := Tadd T38 39 g39

noncomputable def Sp.okActs (n : Nat) (c : List PV) : Bool := isRows Act.enc n c
noncomputable def Sp.acts (c : List PV) : List Act := rowsOf Act.enc c

noncomputable def g10 (xs : List PV) : Option (Bool × PV) := match xs with
  | [.sl c 3 n none] => some (Sp.okActs n c && decide (n ≤ 1000000), .sl c 3 n none)
  | _ => none
def Sp.decC (l : List UInt8) : List PV := (Sp.dec l).flatMap Act.enc
def Sp.decN (l : List UInt8) : Nat := (Sp.dec l).length
noncomputable def g11 (xs : List PV) : Option (Bool × PV) := match xs with
  | [.sl b 1 n none] => some (isBytes n b && decide (n ≤ 3000), .sl (Sp.decC (bytesL b)) 3 (Sp.decN (bytesL b)) none)
  | _ => none
open Classical in
noncomputable def Sp.same (a b : List PV) : Bool := decide (Sp.acts a = Sp.acts b)
noncomputable def g9 (xs : List PV) : Option (Bool × PV) := match xs with
  | [.sl a 3 n none, .sl b 3 m none] => some (Sp.okActs n a && Sp.okActs m b && decide (n ≤ 1000000) && decide (m ≤ 1000000), .bool (Sp.same a b))
  | _ => none
def g7 (xs : List PV) : Option (Bool × PV) := match xs with
  | [] => some (true, .bool true)
  | _ => none

/-! The loops' states. -/

def P10 : List Bool := [true, false, true, true, false, false, true, true, true, true] ++ List.replicate 9 false
noncomputable def L10a (H : FuncId → Hint) (N m : Nat) (cells : List PV) (n : Nat) (i : Int) : Option PV := loopS EN T0 H N 0 10 Try.f10 [1, 1, 0, 1, 0] P10 0 m ([some (PV.sl cells 3 n none), none, some PV.nils, some (PV.sl [] 3 0 (some 0)), none, none, some (PV.sl [] 3 0 (some 0)), some (PV.sl cells 3 n none), some (PV.int IntKind.i64 ↑n), some (PV.int IntKind.i64 i)] ++ List.replicate 9 none) []
noncomputable def L10b (H : FuncId → Hint) (N m : Nat) (cells : List PV) (n : Nat) (i : Int) (out : List PV) (j : Nat) : Option PV := loopS EN T0 H N 0 10 Try.f10 [1, 1, 0, 1, 0] P10 0 m ([some (PV.sl cells 3 n none), none, some PV.nils, some (PV.osl 0 j 0 3 j none), none, none, some (PV.sl [] 3 0 (some 0)), some (PV.sl cells 3 n none), some (PV.int IntKind.i64 ↑n), some (PV.int IntKind.i64 i)] ++ List.replicate 9 none) [.mem ⟨out, 3, j, false, false, false⟩]

def P12 : List Bool := [true, false, true, true, true, false, false, false, true] ++ List.replicate 84 false
noncomputable def L12a (H : FuncId → Hint) (N m : Nat) (b : List PV) (n : Nat) (at_ : Int) : Option PV := loopS EN T39 H N 0 12 Try.f12 [1, 1, 1, 0, 0] P12 0 m ([some (PV.sl b 1 n none), none, some PV.nils, some (PV.sl [] 3 0 (some 0)), some (PV.int IntKind.i64 at_), none, none, none, some (PV.sl [] 3 0 (some 0))] ++ List.replicate 84 none) []
noncomputable def L12b (H : FuncId → Hint) (N m : Nat) (b : List PV) (n : Nat) (at_ : Int) (out : List PV) (j : Nat) : Option PV := loopS EN T39 H N 0 12 Try.f12 [1, 1, 1, 0, 0] P12 0 m ([some (PV.sl b 1 n none), none, some PV.nils, some (PV.osl 0 j 0 3 j none), some (PV.int IntKind.i64 at_), none, none, none, some (PV.sl [] 3 0 (some 0))] ++ List.replicate 84 none) [.mem ⟨out, 3, j, false, false, false⟩]

def P11 : List Bool := [true, false, true, true, true, true, true, true] ++ List.replicate 12 false
noncomputable def L11a (H : FuncId → Hint) (N m : Nat) (b0 : List PV) (n0 : Nat) (b : List PV) (n : Nat) : Option PV := loopS EN T0 H N 5 11 Try.f11 [1, 1, 1, 0, 0] P11 1 m ([some (PV.sl b0 1 n0 none), none, some PV.nils, some PV.nils, some (PV.ptr 0 1 0), some (PV.sl b0 1 n0 none), some (PV.agg [PV.sl b0 1 n0 none]), some (PV.ptr 0 1 0)] ++ List.replicate 12 none) [.mem ⟨[PV.sl b 1 n none], 1, 1, true, false, true⟩]
noncomputable def L11b (H : FuncId → Hint) (N m : Nat) (b0 : List PV) (n0 : Nat) (b : List PV) (n : Nat) (out : List PV) (j : Nat) : Option PV := loopS EN T0 H N 5 11 Try.f11 [1, 1, 1, 0, 0] P11 1 m ([some (PV.sl b0 1 n0 none), none, some PV.nils, some (PV.osl 1 j 0 3 j none), some (PV.ptr 0 1 0), some (PV.sl b0 1 n0 none), some (PV.agg [PV.sl b0 1 n0 none]), some (PV.ptr 0 1 0)] ++ List.replicate 12 none) [.mem ⟨[PV.sl b 1 n none], 1, 1, true, false, true⟩, .mem ⟨out, 3, j, false, false, false⟩]

def P9 : List Bool := [true, true, false, false, true, false, true, true, true, true, true, true, true, true] ++ List.replicate 42 false
noncomputable def L9 (H : FuncId → Hint) (N m : Nat) (ac bc : List PV) (n : Nat) (i : Int) : Option PV := loopS EN T0 H N 0 9 Try.f9 [1, 1, 0, 1, 0] P9 0 m ([some (PV.sl ac 3 n none), some (PV.sl bc 3 n none), none, none, some (PV.bool false), none, some (PV.sl ac 3 n none), some (PV.int IntKind.i64 ↑n), some (PV.sl bc 3 n none), some (PV.int IntKind.i64 ↑n), some (PV.bool false), some (PV.sl ac 3 n none), some (PV.int IntKind.i64 ↑n), some (PV.int IntKind.i64 i)] ++ List.replicate 42 none) []

noncomputable def T10 : Table := Tadd T39 10 g10
noncomputable def T12 : Table := Tadd T10 12 g11
noncomputable def T11 : Table := Tadd T12 11 g11
noncomputable def T9 : Table := Tadd T11 9 g9
noncomputable def T7 : Table := Tadd T9 7 g7

end Go.Proofs.Ytbnfofcbajaiiaa.Am
