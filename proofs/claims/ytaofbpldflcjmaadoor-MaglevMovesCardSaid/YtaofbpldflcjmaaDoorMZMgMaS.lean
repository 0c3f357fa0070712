/- MaglevMoves: the law's walk. -/
import Derived.Test.YtaofbpldflcjmaaDoorMZMgMaR
set_option linter.unusedVariables false
set_option linter.unusedSimpArgs false
set_option maxRecDepth 100000
set_option maxHeartbeats 4000000
namespace Go.Proofs.YtaofbpldflcjmaaDoor.Am
open St
def slMm (c d : List PV) (n m : Nat) (z : Int) (T U : Tb) (k i : Int) : List (Nat × PV) :=
  [(0, .sl c 18 n none), (1, .sl d 18 m none), (2, vI z), (6, .bool false), (7, .ptr 0 1 0), (8, .nilif), (9, .ptr 1 1 0), (10, .nilif), (11, vI k), (17, .bool true), (18, .bool false), (19, .sl c 18 n none), (20, vI n), (21, .bool (decide ((n : Int) > 40))), (22, .bool false), (23, .sl d 18 m none), (24, vI m), (25, .bool (decide ((m : Int) > 40))), (26, .bool false), (27, .tup [T.pv, .nilif]), (28, .sl c 18 n none), (29, vI z), (30, .tup [T.pv, .nilif]), (31, T.pv), (32, .nilif),
   (33, .tup [U.pv, .nilif]), (34, .sl d 18 m none), (35, vI z), (36, .tup [U.pv, .nilif]), (37, U.pv), (38, .nilif), (39, .nilif), (40, .bool false), (41, .bool false), (42, .nilif), (43, .bool false), (44, .bool false), (49, vI z), (50, vI i)]
noncomputable def LMm (N q : Nat) (c d : List PV) (n m : Nat) (z : Int) (T U : Tb) (k i : Int) : Option PV := loopS EN TM3 H0 N 5 3 Tryd.f3 [1, 1, 1, 1, 1, 1, 1, 0, 1, 0] (patOf (sparse 83 0 (slMm [] [] 0 0 0 tb0 tb0 0 0))) 2 q (sparse 83 0 (slMm c d n m z T U k i)) [bxT T, bxT U]
def askW (c d : List PV) (T U : Tb) : List Bool := [oldL 2 c, oldL 2 d, oldL 2 c, oldL 2 d] ++ (askT2 2 T ++ ([oldL 2 c] ++ (askT2 2 T ++ (askT2 2 T ++ (askT2 2 U ++ ([oldL 2 d] ++ (askT2 2 U ++ (askT2 2 U ++ (askT2 2 T ++ askT2 2 U)))))))))
theorem mm1 (N q : Nat) (c d : List PV) (n m : Nat) (z : Int) (T U : Tb) (k i : Int) : LMm N (q + 1) c d n m z T U k i =
  (bif decide (i < z) then
    (asks (askT2 0 T ++ [T.ok]) <| asks (askT2 0 U ++ [U.ok]) <|
     bif !(eqPt (Sp.atr T i) (Sp.atr U i)) then (asks (askW c d T U) <| LMm N q c d n m z T U (IntKind.i64.wrap (k + 1)) (IntKind.i64.wrap (i + 1))) else (asks (askW c d T U) <| LMm N q c d n m z T U k (IntKind.i64.wrap (i + 1))))
   else
    (asks (askT2 0 T ++ (askT2 0 U ++ [T.ok && U.ok])) <| bif (mvC T U (min T.sn U.sn) : Int) == k then (asks (askT2 0 U ++ (askT2 0 T ++ [U.ok && T.ok])) <| some (.bool ((mvC U T (min U.sn T.sn) : Int) == k))) else some (.bool false))) := by kernel_rfl
def noT : Tb := ⟨0, [], 0, [], 0⟩
def tabT (c : List PV) (n : Nat) (z : Int) : Tb := ⟨z, Sp.srt c n, Sp.srn c n, Sp.slt c n z, z.toNat⟩
def fillT (c : List PV) (n : Nat) (z : Int) (K : Tb -> Bool -> Option PV) : Option PV :=
  bif sizedP z then
    (bif strange c n then (asks [askFi 18 c n] <| K noT false) else bif (Sp.srn c n : Int) == 0 then (asks [askFi 18 c n] <| K noT false) else
     bif decide ((Sp.srn c n : Int) > 24) || decide ((Sp.srn c n : Int) > z) then (asks [askFi 18 c n] <| K noT false) else (asks [askFi 18 c n] <| K (tabT c n z) true))
  else (asks [askFi 18 c n] <| K noT false)
def finE (T U : Tb) : Option PV := asks (askT2 0 T ++ (askT2 0 U ++ [T.ok && U.ok])) <| some (.bool ((mvC T U (min T.sn U.sn) : Int) == 0))
theorem mm0 (N : Nat) (c d : List PV) (n m : Nat) (z : Int) : apartS EN TM3 H0 N 5 3 [.sl c 18 n none, .sl d 18 m none, .int .i64 z] =
  (bif decide ((n : Int) > 40) then some (.bool true) else bif decide ((m : Int) > 40) then some (.bool true) else
   asks [oldL 0 c] <| fillT c n z fun T e1 => asks [oldL 0 d] <| fillT d m z fun U e2 => bif e1 then (bif e2 then LMm N N c d n m z T U 0 0 else finE T U) else finE T U) := by kernel_rfl
end Go.Proofs.YtaofbpldflcjmaaDoor.Am
