/- RulesOrder: what the functions that hold things against each other compute, by their decision trees. -/
import Derived.Test.YtbnfofcbajaiiaaProg
import Derived.Test.YtbnfofcbajaiiaaCps
import Derived.KernelRfl
set_option linter.unusedVariables false
set_option maxRecDepth 100000
namespace Go.Proofs.Ytbnfofcbajaiiaa.Am

/-- Who is called with a store of its own. -/
def apartOrd : List Nat := [14, 15, 16, 17, 18, 19, 20, 21, 22, 40, 41, 42, 43, 44, 45, 46, 47, 48, 49, 50, 51, 77, 78, 79, 80, 81, 95]

noncomputable def EO : Env := ⟨Try.prog, fun f => if f = 108 then some .compare else none, fun _ => none, [35, 37, 39, 41, 43, 46, 47], fun _ => false, fun f => apartOrd.contains f⟩

def bodyOf (fn : Func) : Code := fn.body.getD .skip

def cmpI (a b : Int) : Int := bif decide (a < b) then -1 else bif decide (a > b) then 1 else 0
def cmpS (s t : List UInt8) : Int := bif Op.bytesLess s t then -1 else bif !(Op.bytesLess s t || s == t) then 1 else 0
def num (b : Bool) : Int := bif b then 1 else 0
def orr : List Int → Int
  | [] => 0
  | x :: xs => bif x != 0 then x else orr xs

def vi (n : Int) : PV := .int .i64 n
def ints : List PV → Option (List Int)
  | [] => some []
  | .int .i64 n :: rest => match ints rest with
    | some l => some (n :: l)
    | none => none
  | _ => none

def byteCells (b : Nat → Int) : List PV := [.int .u8 (b 0), .int .u8 (b 1), .int .u8 (b 2), .int .u8 (b 3), .int .u8 (b 4), .int .u8 (b 5), .int .u8 (b 6), .int .u8 (b 7), .int .u8 (b 8), .int .u8 (b 9), .int .u8 (b 10), .int .u8 (b 11), .int .u8 (b 12), .int .u8 (b 13), .int .u8 (b 14), .int .u8 (b 15)]
def byteOf (b : Nat → Int) (i : Nat) : UInt8 := UInt8.ofNat (b i).toNat
def bytes16 (b : Nat → Int) : List UInt8 := [byteOf b 0, byteOf b 1, byteOf b 2, byteOf b 3, byteOf b 4, byteOf b 5, byteOf b 6, byteOf b 7, byteOf b 8, byteOf b 9, byteOf b 10, byteOf b 11, byteOf b 12, byteOf b 13, byteOf b 14, byteOf b 15]

/-- An address, a point, a key, a front, a group's key. -/
structure Ad where
  six : Bool
  b : Nat → Int
structure Pt where
  ad : Ad
  port : Int
structure Ky where
  space : List UInt8
  name : List UInt8
structure Fr where
  proto : Int
  pt : Pt
  key : Ky
  name : List UInt8
  how : Int
  loc : Bool
  asked : Bool
  ticks : Int
structure Gi where
  key : Ky
  name : List UInt8
  six : Bool
  loc : Bool

def Ad.cs (a : Ad) : List PV := .bool a.six :: byteCells a.b
def Pt.cs (p : Pt) : List PV := p.ad.cs ++ [vi p.port]
def Ky.cs (k : Ky) : List PV := [.str k.space, .str k.name]
def Fr.cs (f : Fr) : List PV := vi f.proto :: (f.pt.cs ++ (f.key.cs ++ [.str f.name, vi f.how, .bool f.loc, .bool f.asked, vi f.ticks]))
def Gi.cs (g : Gi) : List PV := g.key.cs ++ [.str g.name, .bool g.six, .bool g.loc]

/-! ### which values are such -/

def ints8 : List PV → Option (List Int)
  | [] => some []
  | .int .u8 n :: rest => match ints8 rest with
    | some l => some (n :: l)
    | none => none
  | _ => none

theorem ints8_ok : ∀ (cs : List PV) (l : List Int), ints8 cs = some l → cs = l.map (.int .u8)
  | [], l, h => by cases h; rfl
  | c :: cs, l, h => by
    unfold ints8 at h
    split at h
    · rename_i heq; cases heq
    · rename_i n rest heq
      cases heq
      split at h
      · rename_i l' hl
        cases h
        rw [ints8_ok cs l' hl]
        rfl
      · cases h
    · cases h

def asAd : PV → Option Ad
  | .agg (.bool s :: r) => match ints8 r with
    | some [b0, b1, b2, b3, b4, b5, b6, b7, b8, b9, b10, b11, b12, b13, b14, b15] => some ⟨s, fun i => [b0, b1, b2, b3, b4, b5, b6, b7, b8, b9, b10, b11, b12, b13, b14, b15].getD i 0⟩
    | _ => none
  | _ => none

theorem asAd_ok {p : PV} {a : Ad} (h : asAd p = some a) : p = .agg a.cs := by
  unfold asAd at h
  split at h
  · split at h
    · rename_i hr
      cases h
      rw [ints8_ok _ _ hr]
      rfl
    · cases h
  · cases h

def asPt : PV → Option Pt
  | .agg (.bool s :: r) => match ints8 (r.take 16), r.drop 16 with
    | some [b0, b1, b2, b3, b4, b5, b6, b7, b8, b9, b10, b11, b12, b13, b14, b15], [.int .i64 p] => some ⟨⟨s, fun i => [b0, b1, b2, b3, b4, b5, b6, b7, b8, b9, b10, b11, b12, b13, b14, b15].getD i 0⟩, p⟩
    | _, _ => none
  | _ => none

theorem asPt_ok {p : PV} {a : Pt} (h : asPt p = some a) : p = .agg a.cs := by
  unfold asPt at h
  split at h
  · rename_i s r
    split at h
    · rename_i h1 h2
      cases h
      rw [← List.take_append_drop 16 r, h2, ints8_ok _ _ h1]
      rfl
    · cases h
  · cases h

def asKy : PV → Option Ky
  | .agg [.str a, .str b] => some ⟨a, b⟩
  | _ => none

theorem asKy_ok {p : PV} {a : Ky} (h : asKy p = some a) : p = .agg a.cs := by
  unfold asKy at h
  split at h
  · cases h; rfl
  · cases h

def asFr : PV → Option Fr
  | .agg (.int .i64 pr :: .bool s :: r) => match ints8 (r.take 16), r.drop 16 with
    | some [b0, b1, b2, b3, b4, b5, b6, b7, b8, b9, b10, b11, b12, b13, b14, b15], [.int .i64 po, .str sp, .str nm, .str lab, .int .i64 how, .bool loc, .bool asked, .int .i64 ticks] => some ⟨pr, ⟨⟨s, fun i => [b0, b1, b2, b3, b4, b5, b6, b7, b8, b9, b10, b11, b12, b13, b14, b15].getD i 0⟩, po⟩, ⟨sp, nm⟩, lab, how, loc, asked, ticks⟩
    | _, _ => none
  | _ => none

theorem asFr_ok {p : PV} {a : Fr} (h : asFr p = some a) : p = .agg a.cs := by
  unfold asFr at h
  split at h
  · rename_i pr s r
    split at h
    · rename_i h1 h2
      cases h
      rw [← List.take_append_drop 16 r, h2, ints8_ok _ _ h1]
      rfl
    · cases h
  · cases h

def asGi : PV → Option Gi
  | .agg [.str a, .str b, .str n, .bool s, .bool l] => some ⟨⟨a, b⟩, n, s, l⟩
  | _ => none

theorem asGi_ok {p : PV} {a : Gi} (h : asGi p = some a) : p = .agg a.cs := by
  unfold asGi at h
  split at h
  · cases h; rfl
  · cases h

/-! ### what they compute -/

def loopI (a b : Nat → Int) : List Nat → Int
  | [] => 0
  | i :: r => bif decide (a i < b i) then -1 else bif decide (a i > b i) then 1 else loopI a b r

def adR (a b : Ad) : Int := bif !(a.six == b.six) then (bif a.six then 1 else -1) else loopI a.b b.b [0, 1, 2, 3, 4, 5, 6, 7, 8, 9, 10, 11, 12, 13, 14, 15]
def adC (a b : Ad) : Int := bif a.six == b.six then cmpBytes (bytes16 a.b) (bytes16 b.b) else bif a.six then 1 else -1
def ptR (a b : Pt) : Int := bif adR a.ad b.ad != 0 then adR a.ad b.ad else cmpI a.port b.port
def ptC (a b : Pt) : Int := orr [adC a.ad b.ad, cmpI a.port b.port]
def kyR (a b : Ky) : Int := bif Op.bytesLess a.space b.space then -1 else bif a.space == b.space then (bif Op.bytesLess a.name b.name then -1 else bif (a.space == b.space) && ((a.name == b.name) && true) then 0 else 1) else bif (a.space == b.space) && ((a.name == b.name) && true) then 0 else 1
def kyC (a b : Ky) : Int := orr [cmpS a.space b.space, cmpS a.name b.name]
def atC (a b : Fr) : Int := orr [cmpI a.proto b.proto, ptC a.pt b.pt, kyC a.key b.key, cmpS a.name b.name]
def atR (a b : Fr) : Int := orr [cmpI a.proto b.proto, ptR a.pt b.pt, kyR a.key b.key, cmpS a.name b.name]
def allOf (k : Int) (a b : Fr) : Int := orr [k, cmpI a.how b.how, cmpI (num a.loc) (num b.loc), cmpI (num a.asked) (num b.asked), cmpI a.ticks b.ticks]
def giOf (k : Int) (a b : Gi) : Int := orr [k, cmpS a.name b.name, cmpI (num a.six) (num b.six), cmpI (num a.loc) (num b.loc)]
def Fr.id (a : Fr) : PV := .agg [.str a.key.space, .str a.key.name, .str a.name, .bool a.pt.ad.six, .bool a.loc]

def two {A : Type} (f : PV → Option A) (args : List PV) : Option (A × A) :=
  match args with
  | [x, y] => match f x, f y with
    | some a, some b => some (a, b)
    | _, _ => none
  | _ => none

def on2 {A : Type} (f : PV → Option A) (k : A → A → PV) (args : List PV) : Option PV :=
  match two f args with
  | some (a, b) => some (k a b)
  | none => none

def asI : PV → Option Int
  | .int .i64 n => some n
  | _ => none
def asS : PV → Option (List UInt8)
  | .str n => some n
  | _ => none
def asB : PV → Option Bool
  | .bool n => some n
  | _ => none

def onL (lens : List Nat) (args : List PV) : Option PV :=
  match args with
  | [.sl cells 1 n _] => match lens.contains n, ints cells with
    | true, some l => if l.length = n then some (vi (orr l)) else none
    | _, _ => none
  | _ => none

/-- What is known of the calls. -/
def table (f : Nat) (args : List PV) : Option PV :=
  match f with
  | 78 => match args with
    | [.int .i64 _] => some (.bool false)
    | _ => none
  | 81 => match args with
    | [.str _] => some (.bool false)
    | _ => none
  | 45 => on2 asI (fun a b => vi (cmpI a b)) args
  | 42 => on2 asI (fun a b => vi (cmpI a b)) args
  | 49 => on2 asS (fun a b => vi (cmpS a b)) args
  | 51 => on2 asS (fun a b => vi (cmpS a b)) args
  | 79 => match args with
    | [.bool a] => some (vi (num a))
    | _ => none
  | 46 => match args with
    | [.bool a] => some (vi (num a))
    | _ => none
  | 43 => on2 asB (fun a b => vi (cmpI (num a) (num b))) args
  | 40 => onL [2, 4, 5] args
  | 44 => onL [4, 5] args
  | 50 => on2 asKy (fun a b => vi (kyC a b)) args
  | 48 => on2 asKy (fun a b => vi (kyR a b)) args
  | 80 => on2 asAd (fun a b => vi (adR a b)) args
  | 95 => on2 asAd (fun a b => vi (adC a b)) args
  | 47 => on2 asPt (fun a b => vi (ptR a b)) args
  | 77 => on2 asPt (fun a b => vi (ptC a b)) args
  | 41 => on2 asFr (fun a b => vi (atC a b)) args
  | 20 => on2 asFr (fun a b => vi (atR a b)) args
  | 19 => on2 asFr (fun a b => .bool (atC a b == 0)) args
  | 17 => on2 asFr (fun a b => vi (allOf (atC a b) a b)) args
  | 18 => on2 asFr (fun a b => vi (allOf (atR a b) a b)) args
  | 21 => on2 asGi (fun a b => vi (giOf (kyC a.key b.key) a b)) args
  | 22 => on2 asGi (fun a b => vi (giOf (kyR a.key b.key) a b)) args
  | 15 => match args with
    | [x] => (asFr x).map Fr.id
    | _ => none
  | 16 => match args with
    | [x] => (asFr x).map Fr.id
    | _ => none
  | 14 => match args with
    | [] => some (.bool true)
    | _ => none
  | _ => none

/-- How far above the ground a function is. -/
def rank : Nat → Nat
  | 42 | 51 | 95 | 47 => 1
  | 43 | 50 => 2
  | 77 => 3
  | 41 | 20 | 21 | 22 => 4
  | 19 | 17 | 18 => 5
  | _ => 0

def SO (r : Nat) : Rec := fun f args σ fl =>
  match Nat.blt (rank f) r with
  | true => match Nat.beq f 104 with
    | true => match args with
      | [x, y] => (extA σ .compare [x, y]).map fun v => (v, σ)
      | _ => none
    | false => match σ, fl with
      | [], 0 => match table f args with
        | some v => some (v, [])
        | none => none
      | _, _ => none
  | false => none

/-- The trees. -/
theorem t45 (a b : Int) : bodyV EO (SO 0) 0 100 Try.f45 (bodyOf Try.f45) [vi a, vi b] [] = (bif decide (a < b) then some (vi (-1)) else bif decide (a > b) then some (vi 1) else some (vi 0)) := by kernel_rfl
theorem t78 (a : Int) : bodyV EO (SO 0) 0 100 Try.f78 (bodyOf Try.f78) [vi a] [] = some (.bool (a != a)) := by kernel_rfl
theorem t81 (s : List UInt8) : bodyV EO (SO 0) 0 100 Try.f81 (bodyOf Try.f81) [.str s] [] = some (.bool !(s == s)) := by kernel_rfl
theorem t49 (s t : List UInt8) : bodyV EO (SO 0) 0 100 Try.f49 (bodyOf Try.f49) [.str s, .str t] [] = (bif Op.bytesLess s t then some (vi (-1)) else bif !(Op.bytesLess s t || s == t) then some (vi 1) else some (vi 0)) := by kernel_rfl
theorem t79 (a : Bool) : bodyV EO (SO 0) 0 100 Try.f79 (bodyOf Try.f79) [.bool a] [] = (bif a then some (vi 1) else some (vi 0)) := by kernel_rfl
theorem t46 (a : Bool) : bodyV EO (SO 0) 0 100 Try.f46 (bodyOf Try.f46) [.bool a] [] = (bif a then some (vi 1) else some (vi 0)) := by kernel_rfl

theorem t42 (a b : Int) : bodyV EO (SO 1) 0 100 Try.f42 (bodyOf Try.f42) [vi a, vi b] [] = (bif decide (a < b) then some (vi (-1)) else bif decide (a > b) then some (vi 1) else some (vi 0)) := by kernel_rfl
theorem t51 (s t : List UInt8) : bodyV EO (SO 1) 0 100 Try.f51 (bodyOf Try.f51) [.str s, .str t] [] = (bif Op.bytesLess s t then some (vi (-1)) else bif !(Op.bytesLess s t || s == t) then some (vi 1) else some (vi 0)) := by kernel_rfl
theorem t43 (a b : Bool) : bodyV EO (SO 2) 0 100 Try.f43 (bodyOf Try.f43) [.bool a, .bool b] [] = some (vi (cmpI (num a) (num b))) := by kernel_rfl
theorem t40_2 (a b : Int) (xc : Option Nat) : bodyV EO (SO 0) 0 100 Try.f40 (bodyOf Try.f40) [.sl [vi a, vi b] 1 2 xc] [] = (bif a != 0 then some (vi a) else bif b != 0 then some (vi b) else some (vi 0)) := by kernel_rfl
theorem t40_4 (a b c d : Int) (xc : Option Nat) : bodyV EO (SO 0) 0 100 Try.f40 (bodyOf Try.f40) [.sl [vi a, vi b, vi c, vi d] 1 4 xc] [] = (bif a != 0 then some (vi a) else bif b != 0 then some (vi b) else bif c != 0 then some (vi c) else bif d != 0 then some (vi d) else some (vi 0)) := by kernel_rfl
theorem t40_5 (a b c d e : Int) (xc : Option Nat) : bodyV EO (SO 0) 0 100 Try.f40 (bodyOf Try.f40) [.sl [vi a, vi b, vi c, vi d, vi e] 1 5 xc] [] = (bif a != 0 then some (vi a) else bif b != 0 then some (vi b) else bif c != 0 then some (vi c) else bif d != 0 then some (vi d) else bif e != 0 then some (vi e) else some (vi 0)) := by kernel_rfl
theorem t44_4 (a b c d : Int) (xc : Option Nat) : bodyV EO (SO 0) 0 100 Try.f44 (bodyOf Try.f44) [.sl [vi a, vi b, vi c, vi d] 1 4 xc] [] = (bif a != 0 then some (vi a) else bif b != 0 then some (vi b) else bif c != 0 then some (vi c) else bif d != 0 then some (vi d) else some (vi 0)) := by kernel_rfl
theorem t44_5 (a b c d e : Int) (xc : Option Nat) : bodyV EO (SO 0) 0 100 Try.f44 (bodyOf Try.f44) [.sl [vi a, vi b, vi c, vi d, vi e] 1 5 xc] [] = (bif a != 0 then some (vi a) else bif b != 0 then some (vi b) else bif c != 0 then some (vi c) else bif d != 0 then some (vi d) else bif e != 0 then some (vi e) else some (vi 0)) := by kernel_rfl
theorem t50 (a b : Ky) : bodyV EO (SO 2) 0 100 Try.f50 (bodyOf Try.f50) [.agg a.cs, .agg b.cs] [] = some (vi (kyC a b)) := by kernel_rfl

def kyT (a b c d : List UInt8) : Option PV := bif Op.bytesLess a c then some (vi (-1)) else bif a == c then (bif Op.bytesLess b d then some (vi (-1)) else bif (a == c) && ((b == d) && true) then some (vi 0) else some (vi 1)) else bif (a == c) && ((b == d) && true) then some (vi 0) else some (vi 1)

/-- A tree of bytes. -/
def loopT (a b : Nat → Int) : List Nat → Option PV
  | [] => some (vi 0)
  | i :: r => bif decide (a i < b i) then some (vi (-1)) else bif decide (a i > b i) then some (vi 1) else loopT a b r

theorem t48 (a b : Ky) : bodyV EO (SO 0) 0 100 Try.f48 (bodyOf Try.f48) [.agg a.cs, .agg b.cs] [] = kyT a.space a.name b.space b.name := by kernel_rfl
theorem t80 (a b : Ad) : bodyV EO (SO 0) 0 100 Try.f80 (bodyOf Try.f80) [.agg a.cs, .agg b.cs] [] = (bif !(a.six == b.six) then (bif a.six then some (vi 1) else some (vi (-1))) else loopT a.b b.b [0, 1, 2, 3, 4, 5, 6, 7, 8, 9, 10, 11, 12, 13, 14, 15]) := by kernel_rfl
theorem t95 (a b : Ad) : bodyV EO (SO 1) 0 100 Try.f95 (bodyOf Try.f95) [.agg a.cs, .agg b.cs] [] = (bif a.six == b.six then some (vi (cmpBytes (bytes16 a.b) (bytes16 b.b))) else bif a.six then some (vi 1) else some (vi (-1))) := by kernel_rfl
theorem t47 (a b : Pt) : bodyV EO (SO 1) 0 100 Try.f47 (bodyOf Try.f47) [.agg a.cs, .agg b.cs] [] = (bif adR a.ad b.ad != 0 then some (vi (adR a.ad b.ad)) else bif decide (a.port < b.port) then some (vi (-1)) else bif decide (a.port > b.port) then some (vi 1) else some (vi 0)) := by kernel_rfl

end Go.Proofs.Ytbnfofcbajaiiaa.Am
