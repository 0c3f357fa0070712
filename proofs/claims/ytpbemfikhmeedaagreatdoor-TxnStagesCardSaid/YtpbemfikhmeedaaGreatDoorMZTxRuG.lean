/- The document's Join: the groups' and the filters' loops, all. -/
import Derived.Test.YtpbemfikhmeedaaGreatDoorMZTxRuCa
import Derived.Test.YtpbemfikhmeedaaGreatDoorMZTxRuCb
import Derived.Test.YtpbemfikhmeedaaGreatDoorMZTxRuE
import Derived.Test.YtpbemfikhmeedaaGreatDoorMZTxRuEa
import Derived.Test.YtpbemfikhmeedaaGreatDoorMZTxRuF
import Derived.Test.YtpbemfikhmeedaaGreatDoorMZTxRuFa
set_option linter.unusedVariables false
set_option linter.unusedSimpArgs false
set_option maxRecDepth 100000
set_option maxHeartbeats 8000000
namespace Go.Proofs.YtpbemfikhmeedaaGreatDoor.Am
open St
theorem rB (N m q s : Nat) (J : JS) (r : Rw) (pf : Bool) (aF : List PV) (kF : Nat) (pg : Bool) (aG : List PV) (kG : Nat) (e1 j : Int) (at' : Int) (hc : (pg || J.bg) = true) : LRB N m q (s + 1) J r ⟨pf, aF, kF, pg, aG, kG, false, [], 0⟩ e1 j (rowGr r j) at' =
  (bif decide (at' > 0) then
    (asks [decide (0 <= IntKind.i64.wrap (at' - 1)) && decide (IntKind.i64.wrap (at' - 1) < (curN pg J.bg kG J.kg : Int)), curN pg J.bg kG J.kg == curN pg J.bg kG J.kg, okAt KGi (J.curG ⟨pf, aF, kF, pg, aG, kG, false, [], 0⟩) (0 + (IntKind.i64.wrap (at' - 1)).toNat * 8 + 0)] <|
    bif decide (rGi (shapeAt KGi r.gc (j.toNat * 8)) (shapeAt KGi (J.curG ⟨pf, aF, kF, pg, aG, kG, false, [], 0⟩) (0 + (IntKind.i64.wrap (at' - 1)).toNat * 8 + 0)) < 0) then
      (asks (oldJ J (xE J ⟨pf, aF, kF, pg, aG, kG, false, [], 0⟩ + 1) r) <| asks [oldL (xE J ⟨pf, aF, kF, pg, aG, kG, false, [], 0⟩ + 1) r.gc] <| asks [oldL (xE J ⟨pf, aF, kF, pg, aG, kG, false, [], 0⟩ + 1) r.gc] <| asks (wG (xE J ⟨pf, aF, kF, pg, aG, kG, false, [], 0⟩ + 1) (rowGr r j)) <| asksO J <|
      asks (oldR (xE J ⟨pf, aF, kF, pg, aG, kG, false, [], 0⟩ + 1) r) <| asks (ifb pf [oldL 0 aF]) <| asks (ifb pg [oldL 0 aG]) <| asks (wG (xE J ⟨pf, aF, kF, pg, aG, kG, false, [], 0⟩ + 1) (rowGr r j)) <|
      LRB N m q s J r ⟨pf, aF, kF, pg, aG, kG, false, [], 0⟩ e1 j (rowGr r j) (IntKind.i64.wrap (at' - 1)))
    else insT2 (J.curG ⟨pf, aF, kF, pg, aG, kG, false, [], 0⟩) (curN pg J.bg kG J.kg) at' 8 (rowGr r j) (wG (xE J ⟨pf, aF, kF, pg, aG, kG, false, [], 0⟩ + 1) (rowGr r j)) (wG (xE J ⟨pf, aF, kF, pg, aG, kG, false, [], 0⟩ + 2) (rowGr r j)) fun ac k =>
      (asks (oldJ J (xG J ⟨pf, aF, kF, pg, aG, kG, false, [], 0⟩) r) <| asks [oldL (xG J ⟨pf, aF, kF, pg, aG, kG, false, [], 0⟩) r.gc] <| asksO J <| asks (oldR (xG J ⟨pf, aF, kF, pg, aG, kG, false, [], 0⟩) r) <| asks (ifb pf [oldL 0 aF]) <| asks [oldL 0 ac] <| LRG N m q J r ⟨pf, aF, kF, true, ac, k, false, [], 0⟩ e1 (IntKind.i64.wrap (j + 1))))
  else insT2 (J.curG ⟨pf, aF, kF, pg, aG, kG, false, [], 0⟩) (curN pg J.bg kG J.kg) at' 8 (rowGr r j) (wG (xE J ⟨pf, aF, kF, pg, aG, kG, false, [], 0⟩ + 1) (rowGr r j)) (wG (xE J ⟨pf, aF, kF, pg, aG, kG, false, [], 0⟩ + 2) (rowGr r j)) fun ac k =>
      (asks (oldJ J (xG J ⟨pf, aF, kF, pg, aG, kG, false, [], 0⟩) r) <| asks [oldL (xG J ⟨pf, aF, kF, pg, aG, kG, false, [], 0⟩) r.gc] <| asksO J <| asks (oldR (xG J ⟨pf, aF, kF, pg, aG, kG, false, [], 0⟩) r) <| asks (ifb pf [oldL 0 aF]) <| asks [oldL 0 ac] <| LRG N m q J r ⟨pf, aF, kF, true, ac, k, false, [], 0⟩ e1 (IntKind.i64.wrap (j + 1)))) := by
  obtain ⟨c, n, i, bf, bg, bi, af, kf, ag, kg, ai, ki⟩ := J
  cases bf <;> cases bg <;> cases bi <;> cases pf <;> cases pg
  . cases hc
  . exact rB_00001 ..
  . cases hc
  . exact rB_00011 ..
  . cases hc
  . exact rB_00101 ..
  . cases hc
  . exact rB_00111 ..
  . exact rB_01000 ..
  . exact rB_01001 ..
  . exact rB_01010 ..
  . exact rB_01011 ..
  . exact rB_01100 ..
  . exact rB_01101 ..
  . exact rB_01110 ..
  . exact rB_01111 ..
  . cases hc
  . exact rB_10001 ..
  . cases hc
  . exact rB_10011 ..
  . cases hc
  . exact rB_10101 ..
  . cases hc
  . exact rB_10111 ..
  . exact rB_11000 ..
  . exact rB_11001 ..
  . exact rB_11010 ..
  . exact rB_11011 ..
  . exact rB_11100 ..
  . exact rB_11101 ..
  . exact rB_11110 ..
  . exact rB_11111 ..
theorem rC (N m q s : Nat) (J : JS) (r : Rw) (pf : Bool) (aF : List PV) (kF : Nat) (pg : Bool) (aG : List PV) (kG : Nat) (pi : Bool) (aI : List PV) (kI : Nat) (e1 e2 j : Int) (at' : Int) (hc : (pi || J.bi) = true) : LRC N m q (s + 1) J r ⟨pf, aF, kF, pg, aG, kG, pi, aI, kI⟩ e1 e2 j (rowI r j) at' =
  (bif decide (at' > 0) then
    (asks [decide (0 <= IntKind.i64.wrap (at' - 1)) && decide (IntKind.i64.wrap (at' - 1) < (curN pi J.bi kI J.ki : Int)), curN pi J.bi kI J.ki == curN pi J.bi kI J.ki, okAt KKy (J.curI ⟨pf, aF, kF, pg, aG, kG, pi, aI, kI⟩) (0 + (IntKind.i64.wrap (at' - 1)).toNat * 3 + 0)] <|
    bif decide (rKy (shapeAt KKy r.ic (j.toNat * 3)) (shapeAt KKy (J.curI ⟨pf, aF, kF, pg, aG, kG, pi, aI, kI⟩) (0 + (IntKind.i64.wrap (at' - 1)).toNat * 3 + 0)) < 0) then
      (asks (oldJ J (xE J ⟨pf, aF, kF, pg, aG, kG, pi, aI, kI⟩ + 1) r) <| asks [oldL (xE J ⟨pf, aF, kF, pg, aG, kG, pi, aI, kI⟩ + 1) r.gc] <| asks [oldL (xE J ⟨pf, aF, kF, pg, aG, kG, pi, aI, kI⟩ + 1) r.ic] <| asks [oldL (xE J ⟨pf, aF, kF, pg, aG, kG, pi, aI, kI⟩ + 1) r.ic] <| asks (wI (xE J ⟨pf, aF, kF, pg, aG, kG, pi, aI, kI⟩ + 1) (rowI r j)) <| asksO J <|
      asks (oldR (xE J ⟨pf, aF, kF, pg, aG, kG, pi, aI, kI⟩ + 1) r) <| asks (ifb pf [oldL 0 aF]) <| asks (ifb pg [oldL 0 aG]) <| asks (ifb pi [oldL 0 aI]) <| asks (wI (xE J ⟨pf, aF, kF, pg, aG, kG, pi, aI, kI⟩ + 1) (rowI r j)) <|
      LRC N m q s J r ⟨pf, aF, kF, pg, aG, kG, pi, aI, kI⟩ e1 e2 j (rowI r j) (IntKind.i64.wrap (at' - 1)))
    else insT2 (J.curI ⟨pf, aF, kF, pg, aG, kG, pi, aI, kI⟩) (curN pi J.bi kI J.ki) at' 3 (rowI r j) (wI (xE J ⟨pf, aF, kF, pg, aG, kG, pi, aI, kI⟩ + 1) (rowI r j)) (wI (xE J ⟨pf, aF, kF, pg, aG, kG, pi, aI, kI⟩ + 2) (rowI r j)) fun ac k =>
      (asks (oldJ J (xI J ⟨pf, aF, kF, pg, aG, kG, pi, aI, kI⟩) r) <| asks [oldL (xI J ⟨pf, aF, kF, pg, aG, kG, pi, aI, kI⟩) r.gc] <| asks [oldL (xI J ⟨pf, aF, kF, pg, aG, kG, pi, aI, kI⟩) r.ic] <| asksO J <| asks (oldR (xI J ⟨pf, aF, kF, pg, aG, kG, pi, aI, kI⟩) r) <| asks (ifb pf [oldL 0 aF]) <| asks (ifb pg [oldL 0 aG]) <| asks [oldL 0 ac] <| LRI N m q J r ⟨pf, aF, kF, pg, aG, kG, true, ac, k⟩ e1 e2 (IntKind.i64.wrap (j + 1))))
  else insT2 (J.curI ⟨pf, aF, kF, pg, aG, kG, pi, aI, kI⟩) (curN pi J.bi kI J.ki) at' 3 (rowI r j) (wI (xE J ⟨pf, aF, kF, pg, aG, kG, pi, aI, kI⟩ + 1) (rowI r j)) (wI (xE J ⟨pf, aF, kF, pg, aG, kG, pi, aI, kI⟩ + 2) (rowI r j)) fun ac k =>
      (asks (oldJ J (xI J ⟨pf, aF, kF, pg, aG, kG, pi, aI, kI⟩) r) <| asks [oldL (xI J ⟨pf, aF, kF, pg, aG, kG, pi, aI, kI⟩) r.gc] <| asks [oldL (xI J ⟨pf, aF, kF, pg, aG, kG, pi, aI, kI⟩) r.ic] <| asksO J <| asks (oldR (xI J ⟨pf, aF, kF, pg, aG, kG, pi, aI, kI⟩) r) <| asks (ifb pf [oldL 0 aF]) <| asks (ifb pg [oldL 0 aG]) <| asks [oldL 0 ac] <| LRI N m q J r ⟨pf, aF, kF, pg, aG, kG, true, ac, k⟩ e1 e2 (IntKind.i64.wrap (j + 1)))) := by
  obtain ⟨c, n, i, bf, bg, bi, af, kf, ag, kg, ai, ki⟩ := J
  cases bf <;> cases bg <;> cases bi <;> cases pf <;> cases pg <;> cases pi
  . cases hc
  . exact rC_000001 ..
  . cases hc
  . exact rC_000011 ..
  . cases hc
  . exact rC_000101 ..
  . cases hc
  . exact rC_000111 ..
  . exact rC_001000 ..
  . exact rC_001001 ..
  . exact rC_001010 ..
  . exact rC_001011 ..
  . exact rC_001100 ..
  . exact rC_001101 ..
  . exact rC_001110 ..
  . exact rC_001111 ..
  . cases hc
  . exact rC_010001 ..
  . cases hc
  . exact rC_010011 ..
  . cases hc
  . exact rC_010101 ..
  . cases hc
  . exact rC_010111 ..
  . exact rC_011000 ..
  . exact rC_011001 ..
  . exact rC_011010 ..
  . exact rC_011011 ..
  . exact rC_011100 ..
  . exact rC_011101 ..
  . exact rC_011110 ..
  . exact rC_011111 ..
  . cases hc
  . exact rC_100001 ..
  . cases hc
  . exact rC_100011 ..
  . cases hc
  . exact rC_100101 ..
  . cases hc
  . exact rC_100111 ..
  . exact rC_101000 ..
  . exact rC_101001 ..
  . exact rC_101010 ..
  . exact rC_101011 ..
  . exact rC_101100 ..
  . exact rC_101101 ..
  . exact rC_101110 ..
  . exact rC_101111 ..
  . cases hc
  . exact rC_110001 ..
  . cases hc
  . exact rC_110011 ..
  . cases hc
  . exact rC_110101 ..
  . cases hc
  . exact rC_110111 ..
  . exact rC_111000 ..
  . exact rC_111001 ..
  . exact rC_111010 ..
  . exact rC_111011 ..
  . exact rC_111100 ..
  . exact rC_111101 ..
  . exact rC_111110 ..
  . exact rC_111111 ..
end Go.Proofs.YtpbemfikhmeedaaGreatDoor.Am
