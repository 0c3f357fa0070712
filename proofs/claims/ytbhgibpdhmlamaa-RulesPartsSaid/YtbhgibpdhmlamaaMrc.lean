import Derived.Test.YtbhgibpdhmlamaaMrb
/- The document's Join: the groups' loops. -/
set_option linter.unusedVariables false
set_option linter.unusedSimpArgs false
set_option maxRecDepth 100000
set_option maxHeartbeats 8000000
namespace Go.Proofs.Ytbhgibpdhmlamaa.Am
open St

/-- One laid in a row of rows that hold slices. -/
def insT2 (cc : List PV) (kk : Nat) (at' : Int) (es : Nat) (row : List PV) (W0 W1 : List Bool) (K : List PV → Nat → Option PV) : Option PV :=
  asks [kk == kk && decide (0 + kk * es ≤ cc.length), decide (0 ≤ at') && decide (at' ≤ ((kk - 0 : Nat) : Int)), !(decide (0 = at'.toNat) && decide (0 < 0)), kk == kk && decide (0 + (at'.toNat - 0) * es ≤ cc.length), ((cc.drop 0).take ((at'.toNat - 0) * es)).length == (at'.toNat - 0) * es] <|
  bif decide (at'.toNat - 0 = 0) then asks W0 <| tailT cc kk at' es row 1 K
  else
    (asks [es == es && (decide (0 < 0 + (at'.toNat - 0)) && (decide (0 + (at'.toNat - 0) ≤ 1048576) && ([] : List PV).all PV.oneCell))] <| asks W1 <|
    asks [0 + (at'.toNat - 0) == 0 + (at'.toNat - 0) && (decide (0 + (at'.toNat - 0) ≤ 1048576) && (decide (1 ≤ 1048576) && decide (0 + (0 + (at'.toNat - 0)) * es ≤ (([] : List PV) ++ (cc.drop 0).take ((at'.toNat - 0) * es)).length))), !decide (0 + (0 + (at'.toNat - 0)) + 1 ≤ 0 + (at'.toNat - 0))] <|
    tailT cc kk at' es ((([] : List PV) ++ (cc.drop 0).take ((at'.toNat - 0) * es)).take ((0 + (at'.toNat - 0)) * es) ++ row) (0 + (at'.toNat - 0) + 1) K)
theorem insT_eq (cc : List PV) (kk : Nat) (at' : Int) (es : Nat) (row : List PV) (K : List PV → Nat → Option PV) : insT cc kk at' es row K = insT2 cc kk at' es row [] [] K := rfl

end Go.Proofs.Ytbhgibpdhmlamaa.Am
