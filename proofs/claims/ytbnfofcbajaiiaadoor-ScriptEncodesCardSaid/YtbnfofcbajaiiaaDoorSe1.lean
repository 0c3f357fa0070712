/- Scripts as bytes: spec functions, summaries, tables. -/
import Derived.Test.YtbnfofcbajaiiaaDoorSd1
set_option linter.unusedVariables false
namespace Go.Proofs.YtbnfofcbajaiiaaDoor.Am

/-- An act's error: its number; nought: it has none. -/
def Sp.entE (k m : Int) (n : Nat) : Nat := if k = 1 ∨ k = 3 then (if n > 65535 then 3 else 0) else if k = 2 then 0 else if k = 4 then (if m < 0 ∨ m > 65535 then 1 else 0) else if k = 5 ∨ k = 6 then 0 else 7

/-- An act's bytes. -/
def Sp.entB (k m : Int) (l : List UInt8) : List UInt8 :=
  if k = 1 ∨ k = 3 then UInt8.ofNat k.toNat :: UInt8.ofNat (l.length / 256) :: UInt8.ofNat (l.length % 256) :: l
  else if k = 2 then [2, if m < 0 ∨ m ≥ 255 then 255 else UInt8.ofNat m.toNat]
  else if k = 4 then [4, UInt8.ofNat (m.toNat / 256), UInt8.ofNat (m.toNat % 256)]
  else [UInt8.ofNat k.toNat]

def Sp.entC (k m : Int) (b : List PV) : List PV := (Sp.entB k m (bytesL b)).map bpv
def Sp.entL (k m : Int) (b : List PV) : Nat := (Sp.entB k m (bytesL b)).length

/-- slices.Concat of three: one byte, two bytes, and more. -/
noncomputable def gCat (xs : List PV) : Option (Bool × PV) := match xs with
  | [.sl [.sl [x] 1 1 _, .sl [y, z] 1 2 _, .sl b 1 n _] 1 3 none] => some (isBytes n b && (decide (n ≤ 100000) && [x, y, z].all okByte), .sl (x :: y :: z :: b) 1 (3 + n) none)
  | _ => none
noncomputable def TCat : Table := Tadd T0 34 gCat

def errV (g : Nat) : PV := .iface 188 (.gptr g)

noncomputable def gEnt (xs : List PV) : Option Tr := match xs with
  | [.agg [.int .i64 k, .int .i64 m, .sl b 1 n none]] => some (.br (Nat.beq (Sp.entE k m n) 0)
      (.leaf (isBytes n b && decide (n ≤ 100000)) (.tup [.sl (Sp.entC k m b) 1 (Sp.entL k m b) none, .nilif]))
      (.leaf (isBytes n b && decide (n ≤ 100000)) (.tup [.sl [] 1 0 none, errV (Sp.entE k m n - 1)])))
  | _ => none
noncomputable def TEnt : Table := TaddT TCat 24 gEnt

/-- All acts' error, all acts' bytes. -/
def Sp.encE : List Act → Nat
  | [] => 0
  | a :: r => if Sp.entE a.kind a.n a.bytes.length = 0 then Sp.encE r else Sp.entE a.kind a.n a.bytes.length
def Sp.encL (l : List Act) : List UInt8 := l.flatMap fun a => Sp.entB a.kind a.n a.bytes

noncomputable def Sp.errOf (c : List PV) : Nat := Sp.encE (Sp.acts c)
noncomputable def Sp.encC (c : List PV) : List PV := (Sp.encL (Sp.acts c)).map bpv
noncomputable def Sp.encN (c : List PV) : Nat := (Sp.encL (Sp.acts c)).length
noncomputable def Sp.short (n : Nat) (c : List PV) : Bool := Sp.okActs n c && (decide (n ≤ 30) && (Sp.acts c).all fun a => decide (a.bytes.length ≤ 1300))
noncomputable def Sp.long (n : Nat) (c : List PV) (k : Int) : Bool := decide ((n : Int) > k) || (Sp.acts c).any fun a => decide (a.bytes.length > 1300)

noncomputable def gEnc (xs : List PV) : Option Tr := match xs with
  | [.sl c 3 n none] => some (.br (Nat.beq (Sp.errOf c) 0) (.leaf (Sp.short n c) (.tup [.sl (Sp.encC c) 1 (Sp.encN c) none, .nilif])) (.leaf (Sp.short n c) (.tup [.sl [] 1 0 none, errV (Sp.errOf c - 1)])))
  | _ => none
noncomputable def gRef (xs : List PV) : Option Tr := match xs with
  | [.sl c 3 n none] => some (.br (Nat.beq (Sp.errOf c) 0) (.leaf (Sp.short n c) (.tup [.sl (Sp.encC c) 1 (Sp.encN c) none, .int .i64 0])) (.leaf (Sp.short n c) (.tup [.sl [] 1 0 none, .int .i64 (Sp.errOf c : Int)])))
  | _ => none
noncomputable def gLong (xs : List PV) : Option (Bool × PV) := match xs with
  | [.sl c 3 n none, .int .i64 k] => some (Sp.okActs n c && (decide ((n : Int) > k) || decide (n ≤ 1000000)), .bool (Sp.long n c k))
  | _ => none
def gNum (xs : List PV) : Option (Bool × PV) := match xs with
  | [.nilif] => some (true, .int .i64 0)
  | [.iface t (.gptr g)] => some (Nat.beq t 188 && Nat.blt g 18, .int .i64 ((g : Int) + 1))
  | _ => none
def gYes (xs : List PV) : Option (Bool × PV) := match xs with
  | [] => some (true, .bool true)
  | _ => none

noncomputable def L8a (H : FuncId → Hint) (N m : Nat) (c : List PV) (n : Nat) (i : Int) : Option PV := loopS EN TEnt H N 5 8 Tryd.f8 [1, 1, 0, 1, 0] ([true, false, true, true, true, false, false, false, false, true, true, true] ++ List.replicate 16 false) 0 m ([some (PV.sl c 3 n none), none, some PV.nils, some PV.nilif, some PV.nils, none, none, none, none, some (PV.sl c 3 n none), some (PV.int IntKind.i64 (↑n : Int)), some (PV.int IntKind.i64 i)] ++ List.replicate 16 none) []
noncomputable def L8b (H : FuncId → Hint) (N m : Nat) (c : List PV) (n : Nat) (i : Int) (out : List PV) (j : Nat) : Option PV := loopS EN TEnt H N 5 8 Tryd.f8 [1, 1, 0, 1, 0] ([true, false, true, true, true, false, false, false, false, true, true, true] ++ List.replicate 16 false) 0 m ([some (PV.sl c 3 n none), none, some PV.nils, some PV.nilif, some (PV.osl 0 j 0 1 j none), none, none, none, none, some (PV.sl c 3 n none), some (PV.int IntKind.i64 (↑n : Int)), some (PV.int IntKind.i64 i)] ++ List.replicate 16 none) [.mem ⟨out, 1, j, false, false, false⟩]
noncomputable def L9a (H : FuncId → Hint) (N m : Nat) (c : List PV) (n : Nat) (i : Int) : Option PV := loopS EN T0 H N 5 9 Tryd.f9 [1, 1, 0, 1, 0] ([true, false, true, true, true, false, false, false, false, true, true, true, true] ++ List.replicate 84 false) 0 m ([some (PV.sl c 3 n none), none, some PV.nils, some (PV.int IntKind.i64 0), some (PV.sl [] 1 0 (some 0)), none, none, none, none, some (PV.sl [] 1 0 (some 0)), some (PV.sl c 3 n none), some (PV.int IntKind.i64 (↑n : Int)), some (PV.int IntKind.i64 i)] ++ List.replicate 84 none) []
noncomputable def L9b (H : FuncId → Hint) (N m : Nat) (c : List PV) (n : Nat) (i : Int) (out : List PV) (j : Nat) : Option PV := loopS EN T0 H N 5 9 Tryd.f9 [1, 1, 0, 1, 0] ([true, false, true, true, true, false, false, false, false, true, true, true, true] ++ List.replicate 84 false) 0 m ([some (PV.sl c 3 n none), none, some PV.nils, some (PV.int IntKind.i64 0), some (PV.osl 0 j 0 1 j none), none, none, none, none, some (PV.sl [] 1 0 (some 0)), some (PV.sl c 3 n none), some (PV.int IntKind.i64 (↑n : Int)), some (PV.int IntKind.i64 i)] ++ List.replicate 84 none) [.mem ⟨out, 1, j, false, false, false⟩]
noncomputable def L7 (H : FuncId → Hint) (N m : Nat) (c : List PV) (n : Nat) (k : Int) (i : Int) : Option PV := loopS EN T0 H N 5 7 Tryd.f7 [1, 1, 0, 1, 0] ([true, true, false, false, true, false, false, true, true, true, true, true, true, true] ++ List.replicate 8 false) 0 m ([some (PV.sl c 3 n none), some (PV.int IntKind.i64 k), none, none, some (PV.bool false), none, none, some (PV.sl c 3 n none), some (PV.int IntKind.i64 (↑n : Int)), some (PV.int IntKind.i64 k), some (PV.bool false), some (PV.sl c 3 n none), some (PV.int IntKind.i64 (↑n : Int)), some (PV.int IntKind.i64 i)] ++ List.replicate 8 none) []

def Sp.sameA (k m : Int) (b : List PV) (k' m' : Int) (b' : List PV) : Bool := k == k' && (m == m' && bytesL b == bytesL b')
noncomputable def gSame (xs : List PV) : Option (Bool × PV) := match xs with
  | [.agg [.int .i64 k, .int .i64 m, .sl b 1 n none], .agg [.int .i64 k', .int .i64 m', .sl b' 1 n' none]] => some (isBytes n b && isBytes n' b', .bool (Sp.sameA k m b k' m' b'))
  | _ => none
noncomputable def TSame : Table := Tadd T0 13 gSame
noncomputable def TLong : Table := Tadd TSame 7 gLong
noncomputable def TNum : Table := Tadd TLong 11 gNum
noncomputable def TOf : Table := Tadd TNum 10 g10
noncomputable def TDec : Table := Tadd TOf 12 g11
noncomputable def TRef : Table := TaddT TDec 9 gRef
noncomputable def TEnc : Table := TaddT TRef 8 gEnc
noncomputable def TAll : Table := Tadd TEnc 6 gYes

end Go.Proofs.YtbnfofcbajaiiaaDoor.Am
