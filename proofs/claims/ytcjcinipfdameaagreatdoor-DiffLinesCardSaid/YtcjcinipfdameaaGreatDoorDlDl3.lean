/- DiffLines: the loops' states and rounds. -/
import Derived.Test.YtcjcinipfdameaaGreatDoorDlDl2
set_option linter.unusedVariables false
set_option linter.unusedSimpArgs false
set_option maxRecDepth 100000
set_option maxHeartbeats 8000000
namespace Go.Proofs.YtcjcinipfdameaaGreatDoor.Am

/-- A row's group, its filter. -/
def Sp.gC (r : List PV) : List PV := [.str (asS (Sp.c r 27)), .str (asS (Sp.c r 28)), .str (asS (Sp.c r 29)), .bool (asB (Sp.c r 30)), .bool (asB (Sp.c r 31)), .int .i64 (asI (Sp.c r 32)), .sl (slCells (Sp.c r 33)) 18 (slLen (Sp.c r 33)) none, .sl (slCells (Sp.c r 34)) 1 (slLen (Sp.c r 34)) none]
def Sp.hC (r : List PV) : List PV := [.str (asS (Sp.c r 35)), .str (asS (Sp.c r 36)), .sl (slCells (Sp.c r 37)) 18 (slLen (Sp.c r 37)) none]

noncomputable def L6 (N m : Nat) (cells : List PV) (n : Nat) (out : List PV) (j : Nat) (i : Int) : Option PV := loopS EN TSvc2 HDl N 5 6 Tryz.f6 [1, 1, 0, 1, 0] ([true, false, true, true, false, false, false, true, true, true] ++ List.replicate 19 false) 0 m ([some (.sl cells 38 n none), none, some .nils, some (.osl 0 j 0 1 j none), none, none, none, some (.sl cells 38 n none), some (.int .i64 n), some (.int .i64 i)] ++ List.replicate 19 none) [.mem ⟨out, 1, j, false, false, false⟩]
noncomputable def L7 (N m : Nat) (cells : List PV) (n : Nat) (p d i : Int) : Option PV := loopS EN T0 H0 N 5 7 Tryz.f7 [1, 0, 1, 0] ([true, false, true, true, false, false, true, true, true] ++ List.replicate 20 false) 0 m ([some (.sl cells 38 n none), none, some (.int .i64 p), some (.int .i64 d), none, none, some (.sl cells 38 n none), some (.int .i64 n), some (.int .i64 i)] ++ List.replicate 20 none) []
noncomputable def L9 (N m : Nat) (cells : List PV) (n : Nat) (out : List PV) (j : Nat) (i : Int) : Option PV := loopS EN T0 HDl N 5 9 Tryz.f9 [1, 1, 0, 1, 0] ([true, false, true, true, false, false, true, true, true, true] ++ List.replicate 18 false) 0 m ([some (.sl cells 38 n none), none, some .nils, some (.osl 0 j 0 38 j none), none, none, some (.sl [] 38 0 (some 0)), some (.sl cells 38 n none), some (.int .i64 n), some (.int .i64 i)] ++ List.replicate 18 none) [.mem ⟨out, 38, j, false, false, false⟩]
noncomputable def L5 (N m : Nat) (cells : List PV) (n : Nat) (k i : Int) : Option PV := loopS EN TL22 H0 N 5 5 Tryz.f5 [1, 1, 0, 1, 0] ([true, true, false, false, true, false, false, true, true, true, true, true, true, true] ++ List.replicate 15 false) 0 m ([some (.sl cells 38 n none), some (.int .i64 k), none, none, some (.bool false), none, none, some (.sl cells 38 n none), some (.int .i64 n), some (.int .i64 k), some (.bool false), some (.sl cells 38 n none), some (.int .i64 n), some (.int .i64 i)] ++ List.replicate 15 none) []
noncomputable def L3 (N m : Nat) (cells : List PV) (n : Nat) (ls : List PV) (P D : Int) (b1 b2 b3 : Bool) (p d i : Int) : Option PV := loopS EN TDl H0 N 5 3 Tryz.f3 [1, 1, 1, 1, 1, 1, 1, 0, 1, 0] ([true, false, true, true, true, true, true, true, false, false] ++ (List.replicate 28 true ++ List.replicate 39 false)) 0 m ([some (.sl cells 38 n none), none, some (.bool false), some (.sl ls 1 n none), some (.int .i64 P), some (.int .i64 D), some (.int .i64 p), some (.int .i64 d), none, none, some (.bool true), some (.bool false), some (.sl cells 38 n none), some (.bool false), some (.sl cells 38 n none), some (.sl ls 1 n none), some (.tup [.int .i64 P, .int .i64 D]), some (.sl cells 38 n none), some (.tup [.int .i64 P, .int .i64 D]), some (.int .i64 P), some (.int .i64 D), some (.sl ls 1 n none), some (.int .i64 n), some (.sl cells 38 n none), some (.int .i64 n), some (.bool b1), some (.bool false), some (.sl cells 38 n none), some (.bool b2), some (.sl cells 38 n none), some (.int .i64 n), some (.bool b2), some (.bool b3), some (.bool false), some (.sl cells 38 n none), some (.sl cells 38 n none), some (.int .i64 n), some (.int .i64 i)] ++ List.replicate 39 none) []

theorem tA6 (cells : List PV) (n : Nat) (N : Nat) : apartS EN TSvc2 HDl (N + 1) 5 6 [PV.sl cells 38 n none] =
  (bif decide (0 < (↑n : Int)) then
    (ass (decide (0 ≤ 0) && decide (0 < (↑n : Int))) <|
    ass (okAt KO cells 0) <|
      ass (oldL 0 (slCells (Sp.c (shapeAt KO cells 0) 33))) <|
        ass (oldL 0 (slCells (Sp.c (shapeAt KO cells 0) 34))) <|
          ass (oldL 0 (slCells (Sp.c (shapeAt KO cells 0) 37))) <|
            ass (decide ((Sp.svA (shapeAt KO cells 0)).length ≤ 1000000) && decide ((Sp.svB (shapeAt KO cells 0)).length ≤ 1000000)) <|
              bif Sp.keyText (Sp.svA (shapeAt KO cells 0)) (Sp.svB (shapeAt KO cells 0)) == [] then
                  (ass (decide ((Sp.word (Sp.kind (shapeAt KO cells 0))).length + 1 ≤ 4611686018427387904)) <|
                  ass (decide (((Sp.word (Sp.kind (shapeAt KO cells 0))).append [32]).length + 1 ≤ 4611686018427387904)) <|
                    ass (oldL 0 cells) <|
                      ass (oldL 0 cells) <|
                        L6 (N + 1) N (cells) (n) ([PV.str (((Sp.word (Sp.kind (shapeAt KO cells 0))).append [32]).append [45])]) (1) (IntKind.i64.wrap (0 + 1)))
                else
                  (ass (decide ((Sp.word (Sp.kind (shapeAt KO cells 0))).length + 1 ≤ 4611686018427387904)) <|
                  ass (decide (((Sp.word (Sp.kind (shapeAt KO cells 0))).append [32]).length + (Sp.keyText (Sp.svA (shapeAt KO cells 0)) (Sp.svB (shapeAt KO cells 0))).length ≤ 4611686018427387904)) <|
                    ass (oldL 0 cells) <|
                      ass (oldL 0 cells) <|
                        L6 (N + 1) N (cells) (n) ([PV.str (((Sp.word (Sp.kind (shapeAt KO cells 0))).append [32]).append (Sp.keyText (Sp.svA (shapeAt KO cells 0)) (Sp.svB (shapeAt KO cells 0))))]) (1) (IntKind.i64.wrap (0 + 1))))
  else
    (some (PV.sl [] 1 0 none))) := by kernel_rfl

theorem tL6 (cells : List PV) (n : Nat) (N : Nat) (m : Nat) (out : List PV) (j : Nat) (i : Int) : L6 N (m + 1) cells n out j i =
  (bif decide (i < (↑n : Int)) then
    (ass (decide (0 ≤ i) && decide (i < (↑n : Int))) <|
    ass (okAt KO cells (i.toNat * 38)) <|
      ass (oldL 0 (slCells (Sp.c (shapeAt KO cells (i.toNat * 38)) 33))) <|
        ass (oldL 0 (slCells (Sp.c (shapeAt KO cells (i.toNat * 38)) 34))) <|
          ass (oldL 0 (slCells (Sp.c (shapeAt KO cells (i.toNat * 38)) 37))) <|
            ass (decide ((Sp.svA (shapeAt KO cells (i.toNat * 38))).length ≤ 1000000) && decide ((Sp.svB (shapeAt KO cells (i.toNat * 38))).length ≤ 1000000)) <|
              bif Sp.keyText (Sp.svA (shapeAt KO cells (i.toNat * 38))) (Sp.svB (shapeAt KO cells (i.toNat * 38))) == [] then
                  (ass (decide ((Sp.word (Sp.kind (shapeAt KO cells (i.toNat * 38)))).length + 1 ≤ 4611686018427387904)) <|
                  ass (decide (((Sp.word (Sp.kind (shapeAt KO cells (i.toNat * 38)))).append [32]).length + 1 ≤ 4611686018427387904)) <|
                    ass (j == j && (decide (j ≤ 1048576) && (decide (1 ≤ 1048576) && decide (0 + j * 1 ≤ out.length)))) <|
                      ass (!decide (0 + j + 1 ≤ j)) <|
                        ass (oldL 0 cells) <|
                          ass (oldL 0 cells) <|
                            ass (oldL 0 ((List.take (j * 1) out).append [PV.str (((Sp.word (Sp.kind (shapeAt KO cells (i.toNat * 38)))).append [32]).append [45])])) <|
                              L6 N (m) (cells) (n) ((List.take (j * 1) out).append [PV.str (((Sp.word (Sp.kind (shapeAt KO cells (i.toNat * 38)))).append [32]).append [45])]) (j + 1) (IntKind.i64.wrap (i + 1)))
                else
                  (ass (decide ((Sp.word (Sp.kind (shapeAt KO cells (i.toNat * 38)))).length + 1 ≤ 4611686018427387904)) <|
                  ass (decide (((Sp.word (Sp.kind (shapeAt KO cells (i.toNat * 38)))).append [32]).length + (Sp.keyText (Sp.svA (shapeAt KO cells (i.toNat * 38))) (Sp.svB (shapeAt KO cells (i.toNat * 38)))).length ≤ 4611686018427387904)) <|
                    ass (j == j && (decide (j ≤ 1048576) && (decide (1 ≤ 1048576) && decide (0 + j * 1 ≤ out.length)))) <|
                      ass (!decide (0 + j + 1 ≤ j)) <|
                        ass (oldL 0 cells) <|
                          ass (oldL 0 cells) <|
                            ass (oldL 0 ((List.take (j * 1) out).append [PV.str (((Sp.word (Sp.kind (shapeAt KO cells (i.toNat * 38)))).append [32]).append (Sp.keyText (Sp.svA (shapeAt KO cells (i.toNat * 38))) (Sp.svB (shapeAt KO cells (i.toNat * 38)))))])) <|
                              L6 N (m) (cells) (n) ((List.take (j * 1) out).append [PV.str (((Sp.word (Sp.kind (shapeAt KO cells (i.toNat * 38)))).append [32]).append (Sp.keyText (Sp.svA (shapeAt KO cells (i.toNat * 38))) (Sp.svB (shapeAt KO cells (i.toNat * 38)))))]) (j + 1) (IntKind.i64.wrap (i + 1))))
  else
    (ass (j == j && (decide (0 + j * 1 ≤ out.length) && (decide (0 < 1) && (List.take (j * 1) (List.drop 0 out)).all PV.calm))) <|
    ass (oldL 0 (List.take (j * 1) (List.drop 0 out))) <|
      some (PV.sl (List.take (j * 1) (List.drop 0 out)) 1 j none))) := by kernel_rfl

theorem tA7 (cells : List PV) (n : Nat) (N : Nat) : apartS EN T0 H0 N 5 7 [PV.sl cells 38 n none] =
  (L7 N (N) (cells) (n) (0) (0) (0)) := by kernel_rfl

theorem tL7 (cells : List PV) (n : Nat) (N : Nat) (m : Nat) (p : Int) (d : Int) (i : Int) : L7 N (m + 1) cells n p d i =
  (bif decide (i < (↑n : Int)) then
    (ass (decide (0 ≤ i) && decide (i < (↑n : Int))) <|
    ass (okAt KO cells (i.toNat * 38)) <|
      bif Sp.kind (shapeAt KO cells (i.toNat * 38)) == 5 then
          (ass (oldL 0 cells) <|
          ass (oldL 0 cells) <|
            L7 N (m) (cells) (n) (IntKind.i64.wrap (p + 1)) (d) (IntKind.i64.wrap (i + 1)))
        else
          (bif Sp.kind (shapeAt KO cells (i.toNat * 38)) == 1 then
            (ass (oldL 0 cells) <|
            ass (oldL 0 cells) <|
              L7 N (m) (cells) (n) (IntKind.i64.wrap (p + 1)) (d) (IntKind.i64.wrap (i + 1)))
          else
            (bif Sp.kind (shapeAt KO cells (i.toNat * 38)) == 3 then
              (ass (oldL 0 cells) <|
              ass (oldL 0 cells) <|
                L7 N (m) (cells) (n) (IntKind.i64.wrap (p + 1)) (d) (IntKind.i64.wrap (i + 1)))
            else
              (bif Sp.kind (shapeAt KO cells (i.toNat * 38)) == 6 then
                (ass (oldL 0 cells) <|
                ass (oldL 0 cells) <|
                  L7 N (m) (cells) (n) (p) (IntKind.i64.wrap (d + 1)) (IntKind.i64.wrap (i + 1)))
              else
                (bif Sp.kind (shapeAt KO cells (i.toNat * 38)) == 2 then
                  (ass (oldL 0 cells) <|
                  ass (oldL 0 cells) <|
                    L7 N (m) (cells) (n) (p) (IntKind.i64.wrap (d + 1)) (IntKind.i64.wrap (i + 1)))
                else
                  (bif Sp.kind (shapeAt KO cells (i.toNat * 38)) == 4 then
                    (ass (oldL 0 cells) <|
                    ass (oldL 0 cells) <|
                      L7 N (m) (cells) (n) (p) (IntKind.i64.wrap (d + 1)) (IntKind.i64.wrap (i + 1)))
                  else
                    (ass (oldL 0 cells) <|
                    ass (oldL 0 cells) <|
                      L7 N (m) (cells) (n) (p) (d) (IntKind.i64.wrap (i + 1)))))))))
  else
    (some (PV.tup [PV.int IntKind.i64 p, PV.int IntKind.i64 d]))) := by kernel_rfl

theorem tA9 (cells : List PV) (n : Nat) (N : Nat) : apartS EN T0 HDl (N + 1) 5 9 [PV.sl cells 38 n none] =
  (bif decide (0 < (↑n : Int)) then
    (ass (decide (0 ≤ 0) && decide (0 < (↑n : Int))) <|
    ass (okAt KO cells 0) <|
      ass (oldL 1 (slCells (Sp.c (shapeAt KO cells 0) 33))) <|
        ass (oldL 1 (slCells (Sp.c (shapeAt KO cells 0) 34))) <|
          ass (oldL 3 (slCells (Sp.c (shapeAt KO cells 0) 37))) <|
            ass (oldL 0 cells) <|
              ass (oldL 0 cells) <|
                ass (oldL 0 (shapeAt KO cells 0)) <|
                  L9 (N + 1) N (cells) (n) ((shapeAt KO cells 0)) (1) (IntKind.i64.wrap (0 + 1)))
  else
    (some (PV.sl [] 38 0 none))) := by kernel_rfl

theorem tL9 (cells : List PV) (n : Nat) (N : Nat) (m : Nat) (out : List PV) (j : Nat) (i : Int) : L9 N (m + 1) cells n out j i =
  (bif decide (i < (↑n : Int)) then
    (ass (decide (0 ≤ i) && decide (i < (↑n : Int))) <|
    ass (okAt KO cells (i.toNat * 38)) <|
      ass (oldL 2 (slCells (Sp.c (shapeAt KO cells (i.toNat * 38)) 33))) <|
        ass (oldL 2 (slCells (Sp.c (shapeAt KO cells (i.toNat * 38)) 34))) <|
          ass (oldL 4 (slCells (Sp.c (shapeAt KO cells (i.toNat * 38)) 37))) <|
            ass (j == j && (decide (j ≤ 1048576) && (decide (1 ≤ 1048576) && decide (0 + j * 38 ≤ out.length)))) <|
              ass (!decide (0 + j + 1 ≤ j)) <|
                ass (oldL 0 cells) <|
                  ass (oldL 0 cells) <|
                    ass (oldL 0 ((List.take (j * 38) out).append (shapeAt KO cells (i.toNat * 38)))) <|
                      L9 N (m) (cells) (n) ((List.take (j * 38) out).append (shapeAt KO cells (i.toNat * 38))) (j + 1) (IntKind.i64.wrap (i + 1)))
  else
    (ass (j == j && (decide (0 + j * 38 ≤ out.length) && (decide (0 < 38) && (List.take (j * 38) (List.drop 0 out)).all PV.calm))) <|
    ass (oldL 0 (List.take (j * 38) (List.drop 0 out))) <|
      some (PV.sl (List.take (j * 38) (List.drop 0 out)) 38 j none))) := by kernel_rfl

theorem tA5 (cells : List PV) (n : Nat) (k : Int) (N : Nat) : apartS EN TL22 H0 N 5 5 [PV.sl cells 38 n none, PV.int IntKind.i64 k] =
  (bif decide ((↑n : Int) > k) then
    (some (PV.bool true))
  else
    (L5 N (N) (cells) (n) (k) (0))) := by kernel_rfl

theorem tL5 (cells : List PV) (n : Nat) (N : Nat) (m : Nat) (k : Int) (i : Int) : L5 N (m + 1) cells n k i =
  (bif decide (i < (↑n : Int)) then
    (ass (decide (0 ≤ i) && decide (i < (↑n : Int))) <|
    ass (okAt KO cells (i.toNat * 38)) <|
      ass (oldL 0 (Sp.gC (shapeAt KO cells (i.toNat * 38)))) <|
        ass (oldL 0 (Sp.hC (shapeAt KO cells (i.toNat * 38)))) <| ass (oldL 0 (Sp.gC (shapeAt KO cells (i.toNat * 38))) && oldL 0 (Sp.hC (shapeAt KO cells (i.toNat * 38)))) <|
          bif Sp.longR (shapeAt KO cells (i.toNat * 38)) then
              (some (PV.bool true))
            else
              (ass (oldL 0 cells) <|
              ass (oldL 0 cells) <|
                ass (oldL 0 cells) <|
                  L5 N (m) (cells) (n) (k) (IntKind.i64.wrap (i + 1))))
  else
    (some (PV.bool false))) := by kernel_rfl

theorem tA3 (cells : List PV) (n : Nat) (N : Nat) : apartS EN TDl H0 N 5 3 [PV.sl cells 38 n none] =
  (ass (oldL 0 cells) <|
  ass (rowsC KO n cells && (decide (0 ≤ 20) && decide (20 ≤ 1000))) <|
    bif decide ((↑n : Int) > 20) || (chunks 38 n cells).any Sp.longR then
        (some (PV.bool true))
      else
        (ass (oldL 0 cells) <|
        ass (rowsS n cells) <|
          ass (oldL 0 cells) <|
            ass (rowsS n cells) <|
              bif (↑n : Int) != (↑n : Int) then
                  (some (PV.bool false))
                else
                  (bif !((↑n : Int) == 0) == ((↑n : Int) == 0) then
                    (some (PV.bool false))
                  else
                    (ass (oldL 0 cells) <|
                    ass (rowsS n cells) <|
                      L3 N (N) (cells) (n) (List.map (fun (r : List PV) => PV.str (Sp.line r)) (chunks 38 n cells)) (Sp.sum Sp.put (chunks 38 n cells)) (Sp.sum Sp.drop (chunks 38 n cells)) ((↑n : Int) != (↑n : Int)) ((↑n : Int) == 0) (!((↑n : Int) == 0) == ((↑n : Int) == 0)) (0) (0) (0))))) := by kernel_rfl

theorem tL3 (cells : List PV) (n : Nat) (N : Nat) (m : Nat) (ls : List PV) (P : Int) (D : Int) (b1 : Bool) (b2 : Bool) (b3 : Bool) (p : Int) (d : Int) (i : Int) : L3 N (m + 1) cells n ls P D b1 b2 b3 p d i =
  (bif decide (i < (↑n : Int)) then
    (ass (decide (0 ≤ i) && decide (i < (↑n : Int))) <|
    ass (okAt KO cells (i.toNat * 38)) <|
      ass (decide (0 ≤ i) && decide (i < (↑n : Int))) <|
        ass (okAt [Kd.str] ls (i.toNat * 1)) <|
          ass (oldL 1 (slCells (Sp.c (shapeAt KO cells (i.toNat * 38)) 33))) <|
            ass (oldL 1 (slCells (Sp.c (shapeAt KO cells (i.toNat * 38)) 34))) <|
              ass (oldL 1 (slCells (Sp.c (shapeAt KO cells (i.toNat * 38)) 37))) <|
                ass (oldL 0 (slCells (Sp.c (shapeAt KO cells (i.toNat * 38)) 33))) <|
                  ass (oldL 0 (slCells (Sp.c (shapeAt KO cells (i.toNat * 38)) 34))) <|
                    ass (oldL 0 (slCells (Sp.c (shapeAt KO cells (i.toNat * 38)) 37))) <|
                      ass (wk KO (shapeAt KO cells (i.toNat * 38)) && (oldL 0 (shapeAt KO cells (i.toNat * 38)) && !Sp.longR (shapeAt KO cells (i.toNat * 38)))) <|
                        bif !asS (ls.getD (i.toNat * 1) PV.nilp) == Sp.line (shapeAt KO cells (i.toNat * 38)) then
                            (some (PV.bool false))
                          else
                            (bif decide (Sp.kind (shapeAt KO cells (i.toNat * 38)) ≥ 1) then
                              (bif decide (Sp.kind (shapeAt KO cells (i.toNat * 38)) ≤ 6) then
                                (ass (oldL 0 cells) <|
                                ass (oldL 0 ls) <|
                                  ass (oldL 0 cells) <|
                                    ass (oldL 0 cells) <|
                                      ass (oldL 0 ls) <|
                                        ass (oldL 0 cells) <|
                                          ass (oldL 0 ls) <|
                                            ass (oldL 0 cells) <|
                                              ass (oldL 0 cells) <|
                                                ass (oldL 0 cells) <|
                                                  ass (oldL 0 cells) <|
                                                    ass (oldL 0 cells) <|
                                                      L3 N (m) (cells) (n) (ls) (P) (D) (b1) (b2) (b3) (IntKind.i64.wrap (p + (Sp.kind (shapeAt KO cells (i.toNat * 38))).tmod 2)) (IntKind.i64.wrap (d + IntKind.i64.wrap (1 - (Sp.kind (shapeAt KO cells (i.toNat * 38))).tmod 2))) (IntKind.i64.wrap (i + 1)))
                              else
                                (ass (oldL 0 cells) <|
                                ass (oldL 0 ls) <|
                                  ass (oldL 0 cells) <|
                                    ass (oldL 0 cells) <|
                                      ass (oldL 0 ls) <|
                                        ass (oldL 0 cells) <|
                                          ass (oldL 0 ls) <|
                                            ass (oldL 0 cells) <|
                                              ass (oldL 0 cells) <|
                                                ass (oldL 0 cells) <|
                                                  ass (oldL 0 cells) <|
                                                    ass (oldL 0 cells) <|
                                                      L3 N (m) (cells) (n) (ls) (P) (D) (b1) (b2) (b3) (p) (d) (IntKind.i64.wrap (i + 1))))
                            else
                              (ass (oldL 0 cells) <|
                              ass (oldL 0 ls) <|
                                ass (oldL 0 cells) <|
                                  ass (oldL 0 cells) <|
                                    ass (oldL 0 ls) <|
                                      ass (oldL 0 cells) <|
                                        ass (oldL 0 ls) <|
                                          ass (oldL 0 cells) <|
                                            ass (oldL 0 cells) <|
                                              ass (oldL 0 cells) <|
                                                ass (oldL 0 cells) <|
                                                  ass (oldL 0 cells) <|
                                                    L3 N (m) (cells) (n) (ls) (P) (D) (b1) (b2) (b3) (p) (d) (IntKind.i64.wrap (i + 1)))))
  else
    (bif P == p then
      (some (PV.bool (D == d)))
    else
      (some (PV.bool false)))) := by kernel_rfl

end Go.Proofs.YtcjcinipfdameaaGreatDoor.Am
