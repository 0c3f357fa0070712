/- TraceSame: trees. -/
import Derived.Test.YtcjcinipfdameacGreatDoorTsTs1
set_option linter.unusedVariables false
set_option linter.unusedSimpArgs false
set_option maxRecDepth 100000
set_option maxHeartbeats 8000000
namespace Go.Proofs.YtcjcinipfdameacGreatDoor.Am

def W7 : List PV := [PV.str [112, 97, 115, 115], PV.str [109, 97, 108, 102, 111, 114, 109, 101, 100], PV.str [102, 111, 114, 119, 97, 114, 100], PV.str [114, 101, 112, 108, 121], PV.str [102, 105, 108, 116, 101, 114, 101, 100], PV.str [114, 101, 106, 101, 99, 116, 101, 100], PV.str [102, 117, 108, 108]]

noncomputable def LLg (N m : Nat) (a : List PV) (n : Nat) (k acc i : Int) : Option PV := loopS EN T0 H0 N 5 5 Tryz.f5 [1, 1, 0, 1, 0] ([true, true, false, false, true, true, false, false, true, true, true] ++ List.replicate 16 false) 0 m ([some (.sl a 1 n none), some (.int .i64 k), none, none, some (.bool false), some (.int .i64 acc), none, none, some (.sl a 1 n none), some (.int .i64 n), some (.int .i64 i)] ++ List.replicate 16 none) []
noncomputable def LEq (N m : Nat) (a b : List PV) (n k : Nat) (c : Bool) (i : Int) : Option PV := loopS EN T0 H0 N 5 14 Tryz.f14 [1, 1, 0, 1, 0] ([true, true, false, false, true, false, true, true, true, true, true, true, true, true] ++ List.replicate 12 false) 0 m ([some (.sl a 1 n none), some (.sl b 1 k none), none, none, some (.bool false), none, some (.sl a 1 n none), some (.int .i64 n), some (.sl b 1 k none), some (.int .i64 k), some (.bool c), some (.sl a 1 n none), some (.int .i64 n), some (.int .i64 i)] ++ List.replicate 12 none) []
noncomputable def LSm (N m : Nat) (a b : List PV) (n k : Nat) (c : Bool) (i : Int) : Option PV := loopS EN T0 H0 N 5 15 Tryz.f15 [1, 1, 0, 1, 0] ([true, true, false, false, true, false, true, true, true, true, true, true, true, true] ++ List.replicate 12 false) 0 m ([some (.sl a 1 n none), some (.sl b 1 k none), none, none, some (.bool false), none, some (.sl a 1 n none), some (.int .i64 n), some (.sl b 1 k none), some (.int .i64 k), some (.bool c), some (.sl a 1 n none), some (.int .i64 n), some (.int .i64 i)] ++ List.replicate 12 none) []

noncomputable def LLr (N m : Nat) (r : List PV) (n : Nat) (s : List UInt8) (w : List UInt8) (i : Int) : Option PV := loopS EN T0 H0 N 5 11 Tryz.f11 [1, 1, 0, 1, 0] ([true, true, true, true, false, false, true, true, true, true] ++ List.replicate 30 false) 1 m ([some (.agg (shapeAt KT r 0)), some (.ptr 0 1 0), some (.str s), some (.str w), none, none, some (.ptr 0 1 0), some (.sl (slCells (Sp.c r 0)) 1 n none), some (.int .i64 n), some (.int .i64 i)] ++ List.replicate 30 none) [.mem ⟨shapeAt KT r 0, 46, 1, true, false, true⟩]

theorem uLng (a : List PV) (n : Nat) (k : Int) (N : Nat) : apartS EN T0 H0 N 5 5 [PV.sl a 1 n none, PV.int IntKind.i64 k] =
  (LLg N N a n k 0 0) := by kernel_rfl

theorem uLLg (a : List PV) (n : Nat) (k : Int) (acc : Int) (i : Int) (N : Nat) (m : Nat) : LLg N (m + 1) a n k acc i =
  (bif decide (i < (↑n : Int)) then
    (ass (decide (0 ≤ i) && decide (i < (↑n : Int))) <|
    ass (okAt [Kd.str] a (i.toNat * 1)) <|
      bif decide ((↑(asS (a.getD (i.toNat * 1) PV.nilp)).length : Int) > k) then
          (some (PV.bool true))
        else
          (bif decide (IntKind.i64.wrap (acc + IntKind.i64.wrap (1 + (↑(asS (a.getD (i.toNat * 1) PV.nilp)).length : Int))) > k) then
            (some (PV.bool true))
          else
            (ass (oldL 0 a) <|
            ass (oldL 0 a) <|
              LLg N (m) (a) (n) (k) (IntKind.i64.wrap (acc + IntKind.i64.wrap (1 + (↑(asS (a.getD (i.toNat * 1) PV.nilp)).length : Int)))) (IntKind.i64.wrap (i + 1)))))
  else
    (some (PV.bool false))) := by kernel_rfl

theorem uEq (a : List PV) (b : List PV) (n : Nat) (m : Nat) (N : Nat) : apartS EN T0 H0 N 5 14 [PV.sl a 1 n none, PV.sl b 1 m none] =
  (bif (↑n : Int) != (↑m : Int) then
    (some (PV.bool false))
  else
    (LEq N N a b n m false 0)) := by kernel_rfl

theorem uLEq (a : List PV) (b : List PV) (n : Nat) (k : Nat) (c : Bool) (i : Int) (N : Nat) (m : Nat) : LEq N (m + 1) a b n k c i =
  (bif decide (i < (↑n : Int)) then
    (ass (decide (0 ≤ i) && decide (i < (↑n : Int))) <|
    ass (okAt [Kd.str] a (i.toNat * 1)) <|
      ass (decide (0 ≤ i) && decide (i < (↑k : Int))) <|
        ass (okAt [Kd.str] b (i.toNat * 1)) <|
          bif !asS (a.getD (i.toNat * 1) PV.nilp) == asS (b.getD (i.toNat * 1) PV.nilp) then
              (some (PV.bool false))
            else
              (ass (oldL 0 a) <|
              ass (oldL 0 b) <|
                ass (oldL 0 a) <|
                  ass (oldL 0 b) <|
                    ass (oldL 0 a) <|
                      LEq N (m) (a) (b) (n) (k) (c) (IntKind.i64.wrap (i + 1))))
  else
    (some (PV.bool true))) := by kernel_rfl

theorem uSm (a : List PV) (b : List PV) (n : Nat) (m : Nat) (N : Nat) : apartS EN T0 H0 N 5 15 [PV.sl a 1 n none, PV.sl b 1 m none] =
  (bif (↑n : Int) != (↑m : Int) then
    (some (PV.bool false))
  else
    (LSm N N a b n m false 0)) := by kernel_rfl

theorem uLSm (a : List PV) (b : List PV) (n : Nat) (k : Nat) (c : Bool) (i : Int) (N : Nat) (m : Nat) : LSm N (m + 1) a b n k c i =
  (bif decide (i < (↑n : Int)) then
    (ass (decide (0 ≤ i) && decide (i < (↑n : Int))) <|
    ass (okAt [Kd.str] a (i.toNat * 1)) <|
      ass (decide (0 ≤ i) && decide (i < (↑k : Int))) <|
        ass (okAt [Kd.str] b (i.toNat * 1)) <|
          bif !asS (a.getD (i.toNat * 1) PV.nilp) == asS (b.getD (i.toNat * 1) PV.nilp) then
              (some (PV.bool false))
            else
              (ass (oldL 0 a) <|
              ass (oldL 0 b) <|
                ass (oldL 0 a) <|
                  ass (oldL 0 b) <|
                    ass (oldL 0 a) <|
                      LSm N (m) (a) (b) (n) (k) (c) (IntKind.i64.wrap (i + 1))))
  else
    (some (PV.bool true))) := by kernel_rfl

theorem uSame (r : List PV) (s : List PV) (N : Nat) : apartS EN TEq H0 N 5 7 [PV.agg (shapeAt KT r 0), PV.agg (shapeAt KT s 0)] =
  (ass (oldL 0 (slCells (Sp.c r 0))) <|
  ass (oldL 0 (slCells (Sp.c s 0))) <|
    ass ((textsC (slLen (Sp.c r 0)) (slCells (Sp.c r 0))) &&
  ((textsC (slLen (Sp.c s 0)) (slCells (Sp.c s 0))) &&
    (decide (slLen (Sp.c r 0) ≤ 1000) && decide (slLen (Sp.c s 0) ≤ 1000)))) <|
      bif Sp.steps r == Sp.steps s then
          (bif asI (Sp.c r 1) == asI (Sp.c s 1) then
            (bif Sp.fr r s then
              (some (PV.bool (Sp.bk r s)))
            else
              (some (PV.bool false)))
          else
            (some (PV.bool false)))
        else
          (some (PV.bool false))) := by kernel_rfl

theorem uSameR (r : List PV) (s : List PV) (N : Nat) : apartS EN TEq H0 N 5 8 [PV.agg (shapeAt KT r 0), PV.agg (shapeAt KT s 0)] =
  (ass (oldL 0 (slCells (Sp.c r 0))) <|
  ass (oldL 0 (slCells (Sp.c s 0))) <|
    ass ((textsC (slLen (Sp.c r 0)) (slCells (Sp.c r 0))) &&
  ((textsC (slLen (Sp.c s 0)) (slCells (Sp.c s 0))) &&
    (decide (slLen (Sp.c r 0) ≤ 1000) && decide (slLen (Sp.c s 0) ≤ 1000)))) <|
      bif Sp.steps r == Sp.steps s then
          (bif asI (Sp.c r 1) == asI (Sp.c s 1) then
            (bif Sp.fr r s then
              (some (PV.bool (Sp.bk r s)))
            else
              (some (PV.bool false)))
          else
            (some (PV.bool false)))
        else
          (some (PV.bool false))) := by kernel_rfl

theorem uL22 (r : List PV) (s : List PV) (N : Nat) : apartS EN T0 H0 (N + 3) 5 6 [PV.agg [PV.sl (shapeAt KFr r 0 ++ shapeAt KFr s 0) 26 2 none, PV.sl [] 8 0 none, PV.sl [] 3 0 none], PV.int IntKind.i64 2] =
  (bif decide ((↑(asS (Sp.c r 19)).length : Int) > 100) then
    (some (PV.bool true))
  else
    (bif decide ((↑(asS (Sp.c r 20)).length : Int) > 100) then
      (some (PV.bool true))
    else
      (bif decide ((↑(asS (Sp.c r 21)).length : Int) > 100) then
        (some (PV.bool true))
      else
        (bif decide ((↑(asS (Sp.c s 19)).length : Int) > 100) then
          (some (PV.bool true))
        else
          (bif decide ((↑(asS (Sp.c s 20)).length : Int) > 100) then
            (some (PV.bool true))
          else
            (bif decide ((↑(asS (Sp.c s 21)).length : Int) > 100) then
              (some (PV.bool true))
            else
              (some (PV.bool false)))))))) := by kernel_rfl

theorem uLineR (r : List PV) (N : Nat) : apartS EN T0 H0 N 5 11 [PV.agg (shapeAt KT r 0)] =
  (LLr N (N) (r) (slLen (Sp.c r 0)) ([]) ([]) (0)) := by kernel_rfl

theorem uLLr (r : List PV) (n : Nat) (s : List UInt8) (w : List UInt8) (i : Int) (N : Nat) (m : Nat) : LLr N (m + 1) r n s w i =
  (bif decide (i < (↑n : Int)) then
    (ass (decide (0 ≤ i) && decide (i < (↑n : Int))) <|
    ass (okAt [Kd.str] (slCells (Sp.c r 0)) (i.toNat * 1)) <|
      bif decide (i > 0) then
          (ass (decide (w.length + 1 ≤ 4611686018427387904)) <|
          ass (decide ((w.append [62]).length + (asS ((slCells (Sp.c r 0)).getD (i.toNat * 1) PV.nilp)).length ≤ 4611686018427387904)) <|
            ass (oldL 1 (slCells (Sp.c r 0))) <|
              ass (oldL 1 (slCells (Sp.c r 0))) <|
                ass (oldL 1 (slCells (Sp.c r 0))) <|
                  LLr N (m) (r) (n) (s) ((w.append [62]).append (asS ((slCells (Sp.c r 0)).getD (i.toNat * 1) PV.nilp))) (IntKind.i64.wrap (i + 1)))
        else
          (ass (decide (w.length + (asS ((slCells (Sp.c r 0)).getD (i.toNat * 1) PV.nilp)).length ≤ 4611686018427387904)) <|
          ass (oldL 1 (slCells (Sp.c r 0))) <|
            ass (oldL 1 (slCells (Sp.c r 0))) <|
              ass (oldL 1 (slCells (Sp.c r 0))) <|
                LLr N (m) (r) (n) (s) (w.append (asS ((slCells (Sp.c r 0)).getD (i.toNat * 1) PV.nilp))) (IntKind.i64.wrap (i + 1))))
  else
    (bif decide (asI (Sp.c r 1) < 0) then
      (ass (decide (w.length + 2 ≤ 4611686018427387904)) <|
      some (PV.str (w.append [32, 63])))
    else
      (bif decide (asI (Sp.c r 1) > 6) then
        (ass (decide (w.length + 2 ≤ 4611686018427387904)) <|
        some (PV.str (w.append [32, 63])))
      else
        (ass (decide (w.length + 1 ≤ 4611686018427387904)) <|
        ass (decide (0 ≤ asI (Sp.c r 1)) && decide (asI (Sp.c r 1) < (↑7 : Int))) <|
          ass (okAt [Kd.str] W7 ((asI (Sp.c r 1)).toNat * 1)) <|
            ass (decide ((w.append [32]).length + (asS (W7.getD ((asI (Sp.c r 1)).toNat * 1) PV.nilp)).length ≤ 4611686018427387904)) <|
              some (PV.str ((w.append [32]).append (asS (W7.getD ((asI (Sp.c r 1)).toNat * 1) PV.nilp)))))))) := by kernel_rfl

theorem uLine (r : List PV) (N : Nat) : apartS EN TJn H0 N 5 10 [PV.agg (shapeAt KT r 0)] =
  (bif decide (asI (Sp.c r 1) < 0) then
    (ass (oldL 0 (slCells (Sp.c r 0))) <|
    ass ((textsC (slLen (Sp.c r 0)) (slCells (Sp.c r 0))) &&
  (decide (slLen (Sp.c r 0) ≤ 1000) && decide ((Sp.joined [62] (Sp.steps r)).length ≤ 140737488355328))) <|
      ass (decide ((Sp.joined [62] (Sp.steps r)).length + 1 ≤ 4611686018427387904)) <|
        ass (decide (((Sp.joined [62] (Sp.steps r)).append [32]).length + 1 ≤ 4611686018427387904)) <|
          some (PV.str (((Sp.joined [62] (Sp.steps r)).append [32]).append [63])))
  else
    (bif decide (asI (Sp.c r 1) > 6) then
      (ass (oldL 0 (slCells (Sp.c r 0))) <|
      ass ((textsC (slLen (Sp.c r 0)) (slCells (Sp.c r 0))) &&
  (decide (slLen (Sp.c r 0) ≤ 1000) && decide ((Sp.joined [62] (Sp.steps r)).length ≤ 140737488355328))) <|
        ass (decide ((Sp.joined [62] (Sp.steps r)).length + 1 ≤ 4611686018427387904)) <|
          ass (decide (((Sp.joined [62] (Sp.steps r)).append [32]).length + 1 ≤ 4611686018427387904)) <|
            some (PV.str (((Sp.joined [62] (Sp.steps r)).append [32]).append [63])))
    else
      (ass (decide (0 ≤ asI (Sp.c r 1)) && decide (asI (Sp.c r 1) < (↑7 : Int))) <|
      ass (okAt [Kd.str] W7 (0 + (asI (Sp.c r 1)).toNat * 1)) <|
        bif asS (W7.getD (0 + (asI (Sp.c r 1)).toNat * 1) PV.nilp) == [] then
            (ass (oldL 0 (slCells (Sp.c r 0))) <|
            ass ((textsC (slLen (Sp.c r 0)) (slCells (Sp.c r 0))) &&
  (decide (slLen (Sp.c r 0) ≤ 1000) && decide ((Sp.joined [62] (Sp.steps r)).length ≤ 140737488355328))) <|
              ass (decide ((Sp.joined [62] (Sp.steps r)).length + 1 ≤ 4611686018427387904)) <|
                ass (decide (((Sp.joined [62] (Sp.steps r)).append [32]).length + 1 ≤ 4611686018427387904)) <|
                  some (PV.str (((Sp.joined [62] (Sp.steps r)).append [32]).append [63])))
          else
            (ass (oldL 0 (slCells (Sp.c r 0))) <|
            ass ((textsC (slLen (Sp.c r 0)) (slCells (Sp.c r 0))) &&
  (decide (slLen (Sp.c r 0) ≤ 1000) && decide ((Sp.joined [62] (Sp.steps r)).length ≤ 140737488355328))) <|
              ass (decide ((Sp.joined [62] (Sp.steps r)).length + 1 ≤ 4611686018427387904)) <|
                ass (decide (((Sp.joined [62] (Sp.steps r)).append [32]).length + (asS (W7.getD (0 + (asI (Sp.c r 1)).toNat * 1) PV.nilp)).length ≤ 4611686018427387904)) <|
                  some (PV.str (((Sp.joined [62] (Sp.steps r)).append [32]).append (asS (W7.getD (0 + (asI (Sp.c r 1)).toNat * 1) PV.nilp)))))))) := by kernel_rfl

end Go.Proofs.YtcjcinipfdameacGreatDoor.Am
