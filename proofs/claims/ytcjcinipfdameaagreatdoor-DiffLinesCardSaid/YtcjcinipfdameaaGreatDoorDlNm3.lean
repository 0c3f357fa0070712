/- Labels and keys: the functions' trees. -/
import Derived.Test.YtcjcinipfdameaaGreatDoorDlNm2
import Derived.KernelRfl
set_option linter.unusedVariables false
set_option maxRecDepth 100000
set_option maxHeartbeats 4000000
namespace Go.Proofs.YtcjcinipfdameaaGreatDoor.Am

theorem t50 (N : Nat) (s : List UInt8) (c : List PV) : apartS EN T0 H0 N 5 111 [PV.str s, PV.eptr c 0] =
  (L50 H0 N N s c) := by kernel_rfl

theorem t51 (N : Nat) (s : List UInt8) (c : List PV) : apartS EN T0 H0 N 5 112 [PV.str s, PV.eptr c 0] =
  (L51 H0 N N s c) := by kernel_rfl

theorem t21 (N : Nat) (a : List UInt8) (b : List UInt8) : apartS EN TRLab H0 N 5 42 [PV.agg [PV.str a, PV.str b]] =
  (ass (decide (a.length ≤ 1000000)) <|
  bif Sp.label a then
      (ass (decide (b.length ≤ 1000000)) <|
      some (PV.bool (Sp.label b)))
    else
      (some (PV.bool false))) := by kernel_rfl

theorem t22 (N : Nat) (a : List UInt8) (b : List UInt8) : apartS EN TRLab H0 N 5 18 [PV.agg [PV.str a, PV.str b]] =
  (ass (decide (a.length ≤ 1000000)) <|
  bif Sp.label a then
      (ass (decide (b.length ≤ 1000000)) <|
      some (PV.bool (Sp.label b)))
    else
      (some (PV.bool false))) := by kernel_rfl

theorem t50r (N : Nat) (m : Nat) (s : List UInt8) (c : List PV) : L50 H0 N (m + 1) s c =
  (bif decide ((↑s.length : Int) > 0) then
    (ass (decide (0 ≤ 0) && decide (0 < s.length)) <|
    ass (decide (0 ≤ (↑(s.getD 0 0).toNat : Int)) && decide ((↑(s.getD 0 0).toNat : Int) < (↑256 : Int))) <|
      ass (okAt [Kd.bool] c (0 + (s.getD 0 0).toNat * 1)) <|
        bif !asB (c.getD (0 + (s.getD 0 0).toNat * 1) PV.nilp) then
            (some (PV.str s))
          else
            (ass (decide (0 ≤ 1) && decide (1 ≤ (↑s.length : Int))) <|
            ass (oldL 0 c) <|
              L50 H0 N (m) (List.take (s.length - 1) (List.drop 1 s)) (c)))
  else
    (some (PV.str s))) := by kernel_rfl

theorem t51r (N : Nat) (m : Nat) (s : List UInt8) (c : List PV) : L51 H0 N (m + 1) s c =
  (bif decide ((↑s.length : Int) > 0) then
    (ass (decide (0 ≤ IntKind.i64.wrap ((↑s.length : Int) - 1)) && decide ((IntKind.i64.wrap ((↑s.length : Int) - 1)).toNat < s.length)) <|
    ass (decide (0 ≤ (↑(s.getD (IntKind.i64.wrap ((↑s.length : Int) - 1)).toNat 0).toNat : Int)) && decide ((↑(s.getD (IntKind.i64.wrap ((↑s.length : Int) - 1)).toNat 0).toNat : Int) < (↑256 : Int))) <|
      ass (okAt [Kd.bool] c (0 + (s.getD (IntKind.i64.wrap ((↑s.length : Int) - 1)).toNat 0).toNat * 1)) <|
        bif !asB (c.getD (0 + (s.getD (IntKind.i64.wrap ((↑s.length : Int) - 1)).toNat 0).toNat * 1) PV.nilp) then
            (some (PV.str s))
          else
            (ass (decide (0 ≤ IntKind.i64.wrap ((↑s.length : Int) - 1)) && decide (IntKind.i64.wrap ((↑s.length : Int) - 1) ≤ (↑s.length : Int))) <|
            ass (oldL 0 c) <|
              L51 H0 N (m) (List.take ((IntKind.i64.wrap ((↑s.length : Int) - 1)).toNat - 0) (List.drop 0 s)) (c)))
  else
    (some (PV.str s))) := by kernel_rfl

theorem t20r (N : Nat) (m : Nat) (s : List UInt8) (i : Nat) : L20 H0 N (m + 1) s (↑i : Int) =
  (bif decide ((↑i : Int) < (↑s.length : Int)) then
    (ass (decide (0 ≤ (↑i : Int)) && decide (i < s.length)) <|
    bif (↑(s.getD i 0).toNat : Int) != 45 then
        (bif decide ((↑(s.getD i 0).toNat : Int) ≥ 97) then
          (bif !decide ((↑(s.getD i 0).toNat : Int) ≤ 122) then
            (bif decide ((↑(s.getD i 0).toNat : Int) ≥ 48) then
              (bif !decide ((↑(s.getD i 0).toNat : Int) ≤ 57) then
                (some (PV.bool false))
              else
                (L20 H0 N (m) (s) (IntKind.i64.wrap ((↑i : Int) + 1))))
            else
              (some (PV.bool false)))
          else
            (L20 H0 N (m) (s) (IntKind.i64.wrap ((↑i : Int) + 1))))
        else
          (bif decide ((↑(s.getD i 0).toNat : Int) ≥ 48) then
            (bif !decide ((↑(s.getD i 0).toNat : Int) ≤ 57) then
              (some (PV.bool false))
            else
              (L20 H0 N (m) (s) (IntKind.i64.wrap ((↑i : Int) + 1))))
          else
            (some (PV.bool false))))
      else
        (L20 H0 N (m) (s) (IntKind.i64.wrap ((↑i : Int) + 1))))
  else
    (some (PV.bool true))) := by kernel_rfl

theorem t20 (N : Nat) (s : List UInt8) : apartS EN T0 H0 N 5 44 [PV.str s] =
  (bif decide ((↑s.length : Int) < 1) then
    (some (PV.bool false))
  else
    (bif decide ((↑s.length : Int) > 15) then
      (some (PV.bool false))
    else
      (ass (decide (0 ≤ 0) && decide (0 < s.length)) <|
      bif (↑(s.getD 0 0).toNat : Int) == 45 then
          (some (PV.bool false))
        else
          (ass (decide (0 ≤ IntKind.i64.wrap ((↑s.length : Int) - 1)) && decide ((IntKind.i64.wrap ((↑s.length : Int) - 1)).toNat < s.length)) <|
          bif (↑(s.getD (IntKind.i64.wrap ((↑s.length : Int) - 1)).toNat 0).toNat : Int) == 45 then
              (some (PV.bool false))
            else
              (L20 H0 N (N) (s) (0)))))) := by kernel_rfl

theorem t19 (N : Nat) (s : List UInt8) : apartS EN TTrim H0 N 5 70 [PV.str s] =
  (ass (decide (Sp.CS = Sp.CS) && decide (s.length ≤ 1000000)) <|
  bif Sp.trim s == [] then
      (bif decide ((↑s.length : Int) ≥ (↑1 : Int)) then
        (ass (decide (0 ≤ (↑1 : Int)) && decide ((↑1 : Int) ≤ (↑s.length : Int))) <|
        bif !List.take 1 (List.drop 0 s) == [45] then
            (bif decide ((↑s.length : Int) ≥ (↑1 : Int)) then
              (ass (decide (0 ≤ IntKind.i64.wrap ((↑s.length : Int) - (↑1 : Int))) && decide (IntKind.i64.wrap ((↑s.length : Int) - (↑1 : Int)) ≤ (↑s.length : Int))) <|
              bif !List.take (s.length - (IntKind.i64.wrap ((↑s.length : Int) - (↑1 : Int))).toNat) (List.drop (IntKind.i64.wrap ((↑s.length : Int) - (↑1 : Int))).toNat s) == [45] then
                  (bif !s == [] then
                    (some (PV.bool (decide ((↑s.length : Int) ≤ 15))))
                  else
                    (some (PV.bool false)))
                else
                  (some (PV.bool false)))
            else
              (bif !s == [] then
                (some (PV.bool (decide ((↑s.length : Int) ≤ 15))))
              else
                (some (PV.bool false))))
          else
            (some (PV.bool false)))
      else
        (bif decide ((↑s.length : Int) ≥ (↑1 : Int)) then
          (ass (decide (0 ≤ IntKind.i64.wrap ((↑s.length : Int) - (↑1 : Int))) && decide (IntKind.i64.wrap ((↑s.length : Int) - (↑1 : Int)) ≤ (↑s.length : Int))) <|
          bif !List.take (s.length - (IntKind.i64.wrap ((↑s.length : Int) - (↑1 : Int))).toNat) (List.drop (IntKind.i64.wrap ((↑s.length : Int) - (↑1 : Int))).toNat s) == [45] then
              (bif !s == [] then
                (some (PV.bool (decide ((↑s.length : Int) ≤ 15))))
              else
                (some (PV.bool false)))
            else
              (some (PV.bool false)))
        else
          (bif !s == [] then
            (some (PV.bool (decide ((↑s.length : Int) ≤ 15))))
          else
            (some (PV.bool false)))))
    else
      (some (PV.bool false))) := by kernel_rfl

theorem t31 (N : Nat) (x : UInt8) (s : List UInt8) : apartS EN TTR H0 (N + 50) 5 93 [.str (x :: s), .str Sp.CS] = (ass (Sp.isSet Sp.asCells && decide ((x :: s).length ≤ 1000000)) <| ass (Sp.isSet Sp.asCells && decide ((Sp.trimR Sp.asCells (x :: s)).length ≤ 1000000)) <| some (.str (Sp.trim (x :: s)))) := by kernel_rfl

theorem t31z (N : Nat) : apartS EN TTR H0 (N + 50) 5 93 [.str [], .str Sp.CS] = some (.str []) := by kernel_rfl


end Go.Proofs.YtcjcinipfdameaaGreatDoor.Am
