import Derived.Test.YtbhgibpdhmlamaaMgR
/- The document's Join: all rows, one by one. -/
set_option linter.unusedVariables false
set_option linter.unusedSimpArgs false
set_option maxRecDepth 100000
set_option maxHeartbeats 8000000
namespace Go.Proofs.Ytbhgibpdhmlamaa.Am
open St

/-- What is laid by now, behind some rows of all. -/
structure JS where
  c : List PV
  n : Nat
  i : Int
  bf : Bool
  bg : Bool
  bi : Bool
  af : List PV
  kf : Nat
  ag : List PV
  kg : Nat
  ai : List PV
  ki : Nat
def JS.x (J : JS) : Nat := nx J.bi (nx J.bg (nx J.bf 2))
def nilR : Rw := ⟨0, [], 0, [], 0, []⟩
/-- What a round has laid anew: fronts, groups, filters. -/
structure NS where
  pf : Bool
  aF : List PV
  kF : Nat
  pg : Bool
  aG : List PV
  kG : Nat
  pi : Bool
  aI : List PV
  kI : Nat
def bxN (cells : List PV) (n : Nat) : Ob := .mem ⟨cells, n, 1, true, false, true⟩

/-- One laid in a row of rows: what is asked, and what comes of it. -/
def tailT (cc : List PV) (kk : Nat) (at' : Int) (es : Nat) (y : List PV) (ny : Nat) (K : List PV → Nat → Option PV) : Option PV :=
  asks [kk == kk && decide (0 + kk * es ≤ cc.length), decide (0 ≤ at') && decide (at' ≤ (kk : Int))] <|
  bif decide (at'.toNat = kk) && decide (0 < at'.toNat) then K y ny
  else
    (asks [kk == kk && decide (0 + at'.toNat * es + (kk - at'.toNat) * es ≤ cc.length), ((cc.drop (0 + at'.toNat * es)).take ((kk - at'.toNat) * es)).length == (kk - at'.toNat) * es] <|
    bif decide (kk - at'.toNat = 0) then K y ny
    else asks [ny == ny && (decide (ny ≤ 1048576) && (decide (kk - at'.toNat ≤ 1048576) && decide (0 + ny * es ≤ y.length))), !decide (0 + ny + (kk - at'.toNat) ≤ ny)] <|
      K (y.take (ny * es) ++ (cc.drop (0 + at'.toNat * es)).take ((kk - at'.toNat) * es)) (ny + (kk - at'.toNat)))
def insT (cc : List PV) (kk : Nat) (at' : Int) (es : Nat) (row : List PV) (K : List PV → Nat → Option PV) : Option PV :=
  asks [kk == kk && decide (0 + kk * es ≤ cc.length), decide (0 ≤ at') && decide (at' ≤ ((kk - 0 : Nat) : Int)), !(decide (0 = at'.toNat) && decide (0 < 0)), kk == kk && decide (0 + (at'.toNat - 0) * es ≤ cc.length), ((cc.drop 0).take ((at'.toNat - 0) * es)).length == (at'.toNat - 0) * es] <|
  bif decide (at'.toNat - 0 = 0) then tailT cc kk at' es row 1 K
  else
    asks [es == es && (decide (0 < 0 + (at'.toNat - 0)) && (decide (0 + (at'.toNat - 0) ≤ 1048576) && ([] : List PV).all PV.oneCell)), 0 + (at'.toNat - 0) == 0 + (at'.toNat - 0) && (decide (0 + (at'.toNat - 0) ≤ 1048576) && (decide (1 ≤ 1048576) && decide (0 + (0 + (at'.toNat - 0)) * es ≤ (([] : List PV) ++ (cc.drop 0).take ((at'.toNat - 0) * es)).length))), !decide (0 + (0 + (at'.toNat - 0)) + 1 ≤ 0 + (at'.toNat - 0))] <|
    tailT cc kk at' es ((([] : List PV) ++ (cc.drop 0).take ((at'.toNat - 0) * es)).take ((0 + (at'.toNat - 0)) * es) ++ row) (0 + (at'.toNat - 0) + 1) K

end Go.Proofs.Ytbhgibpdhmlamaa.Am
