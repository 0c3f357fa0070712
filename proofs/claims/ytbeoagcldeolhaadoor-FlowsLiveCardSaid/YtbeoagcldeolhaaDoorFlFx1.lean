/- FlowsLive: flows, spec functions, summaries. -/
import Derived.Test.YtbeoagcldeolhaaDoorFlNm4
import Derived.Test.YtbeoagcldeolhaaDoorPl
set_option linter.unusedVariables false
namespace Go.Proofs.YtbeoagcldeolhaaDoor.Am

structure Flw where
  proto : Int
  client : Pt
  front : Pt
  backend : Pt
  key : Ky
  name : List UInt8
  loc : Bool
  last : Int
  closing : Bool

def Flw.cs (f : Flw) : List PV := vi f.proto :: (f.client.cs ++ (f.front.cs ++ (f.backend.cs ++ (f.key.cs ++ [.str f.name, .bool f.loc, vi f.last, .bool f.closing]))))

def takePt : List PV → Option (Pt × List PV)
  | .bool s :: r => match ints8 (r.take 16), r.drop 16 with
    | some [b0, b1, b2, b3, b4, b5, b6, b7, b8, b9, b10, b11, b12, b13, b14, b15], .int .i64 p :: rest => some (⟨⟨s, fun i => [b0, b1, b2, b3, b4, b5, b6, b7, b8, b9, b10, b11, b12, b13, b14, b15].getD i 0⟩, p⟩, rest)
    | _, _ => none
  | _ => none

theorem takePt_ok {l r : List PV} {p : Pt} (h : takePt l = some (p, r)) : l = p.cs ++ r := by
  unfold takePt at h
  split at h
  · rename_i s r0
    split at h
    · rename_i h1 h2
      cases h
      rw [← List.take_append_drop 16 r0, h2, ints8_ok _ _ h1]
      rfl
    · cases h
  · cases h

def asFl : PV → Option Flw
  | .agg (.int .i64 pr :: r) => match takePt r with
    | some (c, r1) => match takePt r1 with
      | some (f, r2) => match takePt r2 with
        | some (b, [.str a, .str n, .str nm, .bool lo, .int .i64 la, .bool cl]) => some ⟨pr, c, f, b, ⟨a, n⟩, nm, lo, la, cl⟩
        | _ => none
      | none => none
    | none => none
  | _ => none

theorem asFl_ok {p : PV} {f : Flw} (h : asFl p = some f) : p = .agg f.cs := by
  unfold asFl at h
  split at h
  · rename_i pr r
    split at h
    · rename_i c r1 h1
      split at h
      · rename_i fr r2 h2
        split at h
        · rename_i b a n nm lo la cl h3
          cases h
          rw [takePt_ok h1, takePt_ok h2, takePt_ok h3]
          rfl
        · cases h
      · cases h
    · cases h
  · cases h

/-- Are the last twelve bytes none? -/
def Sp.zeros (b : Nat → Int) : List Nat → Bool
  | [] => true
  | i :: r => (b i == 0) && Sp.zeros b r
def Sp.adOk (a : Ad) : Bool := a.six || Sp.zeros a.b [4, 5, 6, 7, 8, 9, 10, 11, 12, 13, 14, 15]
def Sp.ptOk (p : Pt) : Bool := Sp.adOk p.ad && (decide (1 ≤ p.port) && decide (p.port ≤ 65535))
def Sp.riS (f : Flw) : Bool := (f.proto == 6 || f.proto == 17) && (Sp.ptOk f.client && (Sp.ptOk f.front && (Sp.ptOk f.backend && ((Sp.label f.key.space && Sp.label f.key.name) && (Sp.label f.name && (decide (0 ≤ f.last) && decide (f.last ≤ 1099511627776)))))))
def Sp.most (f : Flw) : Int := bif f.closing then 10 else bif f.proto == 6 then 120 else 40
def Sp.liS (f : Flw) (now : Int) : Bool := decide (now < f.last) || decide (now - f.last < Sp.most f)
def Sp.fcC (a b : Flw) : Int := orr [cmpI a.proto b.proto, ptC a.client b.client, ptC a.front b.front]
def Sp.fcR (a b : Flw) : Int := bif a.proto != b.proto then (bif decide (a.proto < b.proto) then -1 else 1) else bif ptR a.client b.client != 0 then ptR a.client b.client else ptR a.front b.front

def in64 (n : Int) : Bool := decide (-9223372036854775808 ≤ n) && decide (n ≤ 9223372036854775807)

def gAd2 (k : Ad → Ad → Int) (xs : List PV) : Option (Bool × PV) := (two asAd xs).map fun p => (true, vi (k p.1 p.2))
def gPt2 (k : Pt → Pt → Int) (xs : List PV) : Option (Bool × PV) := (two asPt xs).map fun p => (true, vi (k p.1 p.2))
def gFl2 (k : Flw → Flw → Int) (xs : List PV) : Option (Bool × PV) := (two asFl xs).map fun p => (true, vi (k p.1 p.2))
def gAR (xs : List PV) : Option (Bool × PV) := match xs with
  | [x] => (asAd x).map fun a => (true, .bool (Sp.adOk a))
  | _ => none
def gRi (xs : List PV) : Option (Bool × PV) := match xs with
  | [x] => (asFl x).map fun f => (decide (f.key.space.length ≤ 1000000) && (decide (f.key.name.length ≤ 1000000) && decide (f.name.length ≤ 1000000)), .bool (Sp.riS f))
  | _ => none
def gLi (xs : List PV) : Option (Bool × PV) := match xs with
  | [x, .int .i64 now] => (asFl x).map fun f => (in64 f.last && in64 now, .bool (Sp.liS f now))
  | _ => none
def gYes (xs : List PV) : Option (Bool × PV) := match xs with
  | [] => some (true, .bool true)
  | _ => none

def gNaN (xs : List PV) : Option (Bool × PV) := match xs with
  | [.int .i64 _] => some (true, .bool false)
  | _ => none
def gCmp (xs : List PV) : Option (Bool × PV) := match xs with
  | [.int .i64 a, .int .i64 b] => some (true, vi (cmpI a b))
  | _ => none
def gOr (xs : List PV) : Option (Bool × PV) := match xs with
  | [.sl [.int .i64 a, .int .i64 b] 1 2 _] => some (true, vi (orr [a, b]))
  | [.sl [.int .i64 a, .int .i64 b, .int .i64 c] 1 3 _] => some (true, vi (orr [a, b, c]))
  | _ => none

/-- A byte. -/
def Sp.isU8 : PV → Bool
  | .int .u8 _ => true
  | _ => false
def Sp.isB (k : Int) (x : PV) : Bool := asI x == k
def Sp.trR (k : Int) (c : List PV) : List PV := (c.reverse.dropWhile (Sp.isB k)).reverse
def Sp.trL (k : Int) (c : List PV) : List PV := c.dropWhile (Sp.isB k)
def gTRB (xs : List PV) : Option (Bool × PV) := match xs with
  | [.sl c 1 n none, .int .u8 k] => some (c.all Sp.isU8 && (Nat.beq n c.length && decide (n ≤ 1000000)), .sl (Sp.trR k c) 1 (Sp.trR k c).length none)
  | _ => none
def gTLB (xs : List PV) : Option (Bool × PV) := match xs with
  | [.sl c 1 n none, .int .u8 k] => some (c.all Sp.isU8 && (Nat.beq n c.length && decide (n ≤ 1000000)), .sl (Sp.trL k c) 1 (Sp.trL k c).length none)
  | _ => none

noncomputable def TTRB : Table := Tadd TRKey 88 gTRB
noncomputable def TTLB : Table := Tadd TTRB 87 gTLB
noncomputable def TNaN : Table := Tadd TTLB 54 gNaN
noncomputable def TCmp : Table := Tadd TNaN 34 gCmp
noncomputable def TOr : Table := Tadd TCmp 33 gOr
noncomputable def TA1 : Table := Tadd TOr 55 (gAd2 adC)
noncomputable def TA2 : Table := Tadd TA1 56 (gAd2 adR)
noncomputable def TA3 : Table := Tadd TA2 47 gAR
noncomputable def TA4 : Table := Tadd TA3 52 gAR
noncomputable def TA5 : Table := Tadd TA4 35 (gPt2 ptC)
noncomputable def TA6 : Table := Tadd TA5 36 (gPt2 ptR)
noncomputable def TA7 : Table := Tadd TA6 7 gRi
noncomputable def TA8 : Table := Tadd TA7 8 gRi
noncomputable def TA9 : Table := Tadd TA8 9 gLi
noncomputable def TA10 : Table := Tadd TA9 10 gLi
noncomputable def TA11 : Table := Tadd TA10 11 (gFl2 Sp.fcC)
noncomputable def TA12 : Table := Tadd TA11 12 (gFl2 Sp.fcR)
noncomputable def TFl : Table := Tadd TA12 5 gYes

end Go.Proofs.YtbeoagcldeolhaaDoor.Am
