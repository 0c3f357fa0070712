/- Scripts as bytes: the trees. -/
import Derived.Test.YtbnfofcbajaiiaaDoorSe1
import Derived.KernelRfl
set_option linter.unusedVariables false
set_option maxRecDepth 100000
set_option maxHeartbeats 4000000
namespace Go.Proofs.YtbnfofcbajaiiaaDoor.Am

def HC : FuncId → Hint := fun f t => match f, t with
  | 34, 20 => [none, none, none, none, none, none, none, none, some false]
  | 34, 33 => [some false, some true]
  | 56, 6 => [none, none, none, none, none, none, none, none, some false]
  | 56, 16 => [none, none, none, none, none, none, none, none, some true]
  | 56, 22 => [some false]
  | _, _ => []

def H8 : FuncId → Hint := fun f t => match f, t with
  | 8, 25 => [some false, some false]
  | _, _ => []
def H9 : FuncId → Hint := fun f t => match f, t with
  | 9, 29 => [some false, some false]
  | 9, 51 => [some false, some false]
  | 9, 54 => [none, some false]
  | 9, 72 => [some false, some false]
  | 9, 94 => [some false, some false]
  | _, _ => []

theorem tc0 (N : Nat) (x : Int) (y : Int) (z : Int) (c1 : Option Nat) (c2 : Option Nat) (c3 : Option Nat) : apartS EN T0 H0 (N + 9) 5 34 [PV.sl [PV.sl [PV.int IntKind.u8 x] 1 1 c1, PV.sl [PV.int IntKind.u8 y, PV.int IntKind.u8 z] 1 2 c2, PV.sl [] 1 0 c3] 1 3 none] =
  (some (PV.sl [PV.int IntKind.u8 x, PV.int IntKind.u8 y, PV.int IntKind.u8 z] 1 3 none)) := by kernel_rfl

theorem tc1 (N : Nat) (x : Int) (y : Int) (z : Int) (c1 : Option Nat) (c2 : Option Nat) (c3 : Option Nat) (b : List PV) (n : Nat) : apartS EN T0 HC (N + 9) 5 34 [PV.sl [PV.sl [PV.int IntKind.u8 x] 1 1 c1, PV.sl [PV.int IntKind.u8 y, PV.int IntKind.u8 z] 1 2 c2, PV.sl b 1 (n + 1) c3] 1 3 none] =
  (ass (oldL 0 [PV.sl [PV.int IntKind.u8 x] 1 1 c1, PV.sl [PV.int IntKind.u8 y, PV.int IntKind.u8 z] 1 2 c2, PV.sl b 1 (n + 1) c3]) <|
  ass (oldL 0 [PV.sl [PV.int IntKind.u8 x] 1 1 c1, PV.sl [PV.int IntKind.u8 y, PV.int IntKind.u8 z] 1 2 c2, PV.sl b 1 (n + 1) c3]) <|
    ass (oldL 0 [PV.sl [PV.int IntKind.u8 x] 1 1 c1, PV.sl [PV.int IntKind.u8 y, PV.int IntKind.u8 z] 1 2 c2, PV.sl b 1 (n + 1) c3]) <|
      ass (oldL 0 [PV.sl [PV.int IntKind.u8 x] 1 1 c1, PV.sl [PV.int IntKind.u8 y, PV.int IntKind.u8 z] 1 2 c2, PV.sl b 1 (n + 1) c3]) <|
        ass (!decide (IntKind.i64.wrap (IntKind.i64.wrap (IntKind.i64.wrap (0 + (↑1 : Int)) + (↑2 : Int)) + (↑(slLen (PV.sl b 1 (n + 1) c3)) : Int)) < 0)) <|
          ass (oldL 0 [PV.sl [PV.int IntKind.u8 x] 1 1 c1, PV.sl [PV.int IntKind.u8 y, PV.int IntKind.u8 z] 1 2 c2, PV.sl b 1 (n + 1) c3]) <|
            ass (oldL 0 [PV.sl [PV.int IntKind.u8 x] 1 1 c1, PV.sl [PV.int IntKind.u8 y, PV.int IntKind.u8 z] 1 2 c2, PV.sl b 1 (n + 1) c3]) <|
              ass (!decide (IntKind.i64.wrap (IntKind.i64.wrap (IntKind.i64.wrap (0 + (↑1 : Int)) + (↑2 : Int)) + (↑(slLen (PV.sl b 1 (n + 1) c3)) : Int)) < 0)) <|
                ass (decide (IntKind.i64.wrap (IntKind.i64.wrap (IntKind.i64.wrap (IntKind.i64.wrap (0 + (↑1 : Int)) + (↑2 : Int)) + (↑(slLen (PV.sl b 1 (n + 1) c3)) : Int)) - IntKind.i64.wrap ((↑0 : Int) - (↑0 : Int))) > 0)) <|
                  ass (decide (0 ≤ IntKind.i64.wrap (IntKind.i64.wrap (IntKind.i64.wrap (IntKind.i64.wrap (0 + (↑1 : Int)) + (↑2 : Int)) + (↑(slLen (PV.sl b 1 (n + 1) c3)) : Int)) - IntKind.i64.wrap ((↑0 : Int) - (↑0 : Int)))) && decide (IntKind.i64.wrap (IntKind.i64.wrap (IntKind.i64.wrap (IntKind.i64.wrap (0 + (↑1 : Int)) + (↑2 : Int)) + (↑(slLen (PV.sl b 1 (n + 1) c3)) : Int)) - IntKind.i64.wrap ((↑0 : Int) - (↑0 : Int))) ≤ 1048576)) <|
                    ass ((repCells [PV.int IntKind.u8 0] (IntKind.i64.wrap (IntKind.i64.wrap (IntKind.i64.wrap (IntKind.i64.wrap (0 + (↑1 : Int)) + (↑2 : Int)) + (↑(slLen (PV.sl b 1 (n + 1) c3)) : Int)) - IntKind.i64.wrap ((↑0 : Int) - (↑0 : Int)))).toNat).length == (IntKind.i64.wrap (IntKind.i64.wrap (IntKind.i64.wrap (IntKind.i64.wrap (0 + (↑1 : Int)) + (↑2 : Int)) + (↑(slLen (PV.sl b 1 (n + 1) c3)) : Int)) - IntKind.i64.wrap ((↑0 : Int) - (↑0 : Int)))).toNat * 1) <|
                      ass (!decide ((IntKind.i64.wrap (IntKind.i64.wrap (IntKind.i64.wrap (IntKind.i64.wrap (0 + (↑1 : Int)) + (↑2 : Int)) + (↑(slLen (PV.sl b 1 (n + 1) c3)) : Int)) - IntKind.i64.wrap ((↑0 : Int) - (↑0 : Int)))).toNat = 0)) <|
                        ass (decide ((IntKind.i64.wrap (IntKind.i64.wrap (IntKind.i64.wrap (IntKind.i64.wrap (0 + (↑1 : Int)) + (↑2 : Int)) + (↑(slLen (PV.sl b 1 (n + 1) c3)) : Int)) - IntKind.i64.wrap ((↑0 : Int) - (↑0 : Int)))).toNat ≤ 1048576)) <|
                          ass ((IntKind.i64.wrap (IntKind.i64.wrap (IntKind.i64.wrap (IntKind.i64.wrap (0 + (↑1 : Int)) + (↑2 : Int)) + (↑(slLen (PV.sl b 1 (n + 1) c3)) : Int)) - IntKind.i64.wrap ((↑0 : Int) - (↑0 : Int)))).toNat == (IntKind.i64.wrap (IntKind.i64.wrap (IntKind.i64.wrap (IntKind.i64.wrap (0 + (↑1 : Int)) + (↑2 : Int)) + (↑(slLen (PV.sl b 1 (n + 1) c3)) : Int)) - IntKind.i64.wrap ((↑0 : Int) - (↑0 : Int)))).toNat && decide (0 + (IntKind.i64.wrap (IntKind.i64.wrap (IntKind.i64.wrap (IntKind.i64.wrap (0 + (↑1 : Int)) + (↑2 : Int)) + (↑(slLen (PV.sl b 1 (n + 1) c3)) : Int)) - IntKind.i64.wrap ((↑0 : Int) - (↑0 : Int)))).toNat * 1 ≤ (repCells [PV.int IntKind.u8 0] (IntKind.i64.wrap (IntKind.i64.wrap (IntKind.i64.wrap (IntKind.i64.wrap (0 + (↑1 : Int)) + (↑2 : Int)) + (↑(slLen (PV.sl b 1 (n + 1) c3)) : Int)) - IntKind.i64.wrap ((↑0 : Int) - (↑0 : Int)))).toNat).length)) <|
                            ass ((IntKind.i64.wrap (IntKind.i64.wrap (IntKind.i64.wrap (IntKind.i64.wrap (0 + (↑1 : Int)) + (↑2 : Int)) + (↑(slLen (PV.sl b 1 (n + 1) c3)) : Int)) - IntKind.i64.wrap ((↑0 : Int) - (↑0 : Int)))).toNat == (IntKind.i64.wrap (IntKind.i64.wrap (IntKind.i64.wrap (IntKind.i64.wrap (0 + (↑1 : Int)) + (↑2 : Int)) + (↑(slLen (PV.sl b 1 (n + 1) c3)) : Int)) - IntKind.i64.wrap ((↑0 : Int) - (↑0 : Int)))).toNat && (decide ((IntKind.i64.wrap (IntKind.i64.wrap (IntKind.i64.wrap (IntKind.i64.wrap (0 + (↑1 : Int)) + (↑2 : Int)) + (↑(slLen (PV.sl b 1 (n + 1) c3)) : Int)) - IntKind.i64.wrap ((↑0 : Int) - (↑0 : Int)))).toNat ≤ 1048576) && (decide (1 ≤ 1048576) && decide (0 ≤ (repCells [PV.int IntKind.u8 0] (IntKind.i64.wrap (IntKind.i64.wrap (IntKind.i64.wrap (IntKind.i64.wrap (0 + (↑1 : Int)) + (↑2 : Int)) + (↑(slLen (PV.sl b 1 (n + 1) c3)) : Int)) - IntKind.i64.wrap ((↑0 : Int) - (↑0 : Int)))).toNat).length)))) <|
                              ass (decide (1 ≤ (IntKind.i64.wrap (IntKind.i64.wrap (IntKind.i64.wrap (IntKind.i64.wrap (0 + (↑1 : Int)) + (↑2 : Int)) + (↑(slLen (PV.sl b 1 (n + 1) c3)) : Int)) - IntKind.i64.wrap ((↑0 : Int) - (↑0 : Int)))).toNat)) <|
                                ass (oldL 1 [PV.sl [PV.int IntKind.u8 x] 1 1 c1, PV.sl [PV.int IntKind.u8 y, PV.int IntKind.u8 z] 1 2 c2, PV.sl b 1 (n + 1) c3]) <|
                                  ass (oldL 1 [PV.sl [PV.int IntKind.u8 x] 1 1 c1, PV.sl [PV.int IntKind.u8 y, PV.int IntKind.u8 z] 1 2 c2, PV.sl b 1 (n + 1) c3]) <|
                                    ass (oldL 1 [PV.sl [PV.int IntKind.u8 x] 1 1 c1, PV.sl [PV.int IntKind.u8 y, PV.int IntKind.u8 z] 1 2 c2, PV.sl b 1 (n + 1) c3]) <|
                                      ass (oldL 0 (PV.int IntKind.u8 x :: List.drop 1 (repCells [PV.int IntKind.u8 0] (IntKind.i64.wrap (IntKind.i64.wrap (IntKind.i64.wrap (IntKind.i64.wrap (0 + (↑1 : Int)) + (↑2 : Int)) + (↑(slLen (PV.sl b 1 (n + 1) c3)) : Int)) - IntKind.i64.wrap ((↑0 : Int) - (↑0 : Int)))).toNat))) <|
                                        ass ((IntKind.i64.wrap (IntKind.i64.wrap (IntKind.i64.wrap (IntKind.i64.wrap (0 + (↑1 : Int)) + (↑2 : Int)) + (↑(slLen (PV.sl b 1 (n + 1) c3)) : Int)) - IntKind.i64.wrap ((↑0 : Int) - (↑0 : Int)))).toNat == (IntKind.i64.wrap (IntKind.i64.wrap (IntKind.i64.wrap (IntKind.i64.wrap (0 + (↑1 : Int)) + (↑2 : Int)) + (↑(slLen (PV.sl b 1 (n + 1) c3)) : Int)) - IntKind.i64.wrap ((↑0 : Int) - (↑0 : Int)))).toNat && (decide ((IntKind.i64.wrap (IntKind.i64.wrap (IntKind.i64.wrap (IntKind.i64.wrap (0 + (↑1 : Int)) + (↑2 : Int)) + (↑(slLen (PV.sl b 1 (n + 1) c3)) : Int)) - IntKind.i64.wrap ((↑0 : Int) - (↑0 : Int)))).toNat ≤ 1048576) && (decide (2 ≤ 1048576) && decide (1 ≤ (PV.int IntKind.u8 x :: List.drop 1 (repCells [PV.int IntKind.u8 0] (IntKind.i64.wrap (IntKind.i64.wrap (IntKind.i64.wrap (IntKind.i64.wrap (0 + (↑1 : Int)) + (↑2 : Int)) + (↑(slLen (PV.sl b 1 (n + 1) c3)) : Int)) - IntKind.i64.wrap ((↑0 : Int) - (↑0 : Int)))).toNat)).length)))) <|
                                          ass (decide (3 ≤ (IntKind.i64.wrap (IntKind.i64.wrap (IntKind.i64.wrap (IntKind.i64.wrap (0 + (↑1 : Int)) + (↑2 : Int)) + (↑(slLen (PV.sl b 1 (n + 1) c3)) : Int)) - IntKind.i64.wrap ((↑0 : Int) - (↑0 : Int)))).toNat)) <|
                                            ass (oldL 1 [PV.sl [PV.int IntKind.u8 x] 1 1 c1, PV.sl [PV.int IntKind.u8 y, PV.int IntKind.u8 z] 1 2 c2, PV.sl b 1 (n + 1) c3]) <|
                                              ass (oldL 1 [PV.sl [PV.int IntKind.u8 x] 1 1 c1, PV.sl [PV.int IntKind.u8 y, PV.int IntKind.u8 z] 1 2 c2, PV.sl b 1 (n + 1) c3]) <|
                                                ass (oldL 1 [PV.sl [PV.int IntKind.u8 x] 1 1 c1, PV.sl [PV.int IntKind.u8 y, PV.int IntKind.u8 z] 1 2 c2, PV.sl b 1 (n + 1) c3]) <|
                                                  ass (oldL 0 (PV.int IntKind.u8 x :: PV.int IntKind.u8 y :: PV.int IntKind.u8 z :: List.drop 3 (PV.int IntKind.u8 x :: List.drop 1 (repCells [PV.int IntKind.u8 0] (IntKind.i64.wrap (IntKind.i64.wrap (IntKind.i64.wrap (IntKind.i64.wrap (0 + (↑1 : Int)) + (↑2 : Int)) + (↑(slLen (PV.sl b 1 (n + 1) c3)) : Int)) - IntKind.i64.wrap ((↑0 : Int) - (↑0 : Int)))).toNat)))) <|
                                                    ass ((slCells (PV.sl b 1 (n + 1) c3)).length == slLen (PV.sl b 1 (n + 1) c3) * 1) <|
                                                      ass ((IntKind.i64.wrap (IntKind.i64.wrap (IntKind.i64.wrap (IntKind.i64.wrap (0 + (↑1 : Int)) + (↑2 : Int)) + (↑(slLen (PV.sl b 1 (n + 1) c3)) : Int)) - IntKind.i64.wrap ((↑0 : Int) - (↑0 : Int)))).toNat == (IntKind.i64.wrap (IntKind.i64.wrap (IntKind.i64.wrap (IntKind.i64.wrap (0 + (↑1 : Int)) + (↑2 : Int)) + (↑(slLen (PV.sl b 1 (n + 1) c3)) : Int)) - IntKind.i64.wrap ((↑0 : Int) - (↑0 : Int)))).toNat && (decide ((IntKind.i64.wrap (IntKind.i64.wrap (IntKind.i64.wrap (IntKind.i64.wrap (0 + (↑1 : Int)) + (↑2 : Int)) + (↑(slLen (PV.sl b 1 (n + 1) c3)) : Int)) - IntKind.i64.wrap ((↑0 : Int) - (↑0 : Int)))).toNat ≤ 1048576) && (decide (slLen (PV.sl b 1 (n + 1) c3) ≤ 1048576) && decide (3 ≤ (PV.int IntKind.u8 x :: PV.int IntKind.u8 y :: PV.int IntKind.u8 z :: List.drop 3 (PV.int IntKind.u8 x :: List.drop 1 (repCells [PV.int IntKind.u8 0] (IntKind.i64.wrap (IntKind.i64.wrap (IntKind.i64.wrap (IntKind.i64.wrap (0 + (↑1 : Int)) + (↑2 : Int)) + (↑(slLen (PV.sl b 1 (n + 1) c3)) : Int)) - IntKind.i64.wrap ((↑0 : Int) - (↑0 : Int)))).toNat))).length)))) <|
                                                        ass (decide (3 + slLen (PV.sl b 1 (n + 1) c3) ≤ (IntKind.i64.wrap (IntKind.i64.wrap (IntKind.i64.wrap (IntKind.i64.wrap (0 + (↑1 : Int)) + (↑2 : Int)) + (↑(slLen (PV.sl b 1 (n + 1) c3)) : Int)) - IntKind.i64.wrap ((↑0 : Int) - (↑0 : Int)))).toNat)) <|
                                                          ass (oldL 1 [PV.sl [PV.int IntKind.u8 x] 1 1 c1, PV.sl [PV.int IntKind.u8 y, PV.int IntKind.u8 z] 1 2 c2, PV.sl b 1 (n + 1) c3]) <|
                                                            ass (oldL 1 [PV.sl [PV.int IntKind.u8 x] 1 1 c1, PV.sl [PV.int IntKind.u8 y, PV.int IntKind.u8 z] 1 2 c2, PV.sl b 1 (n + 1) c3]) <|
                                                              ass (oldL 1 [PV.sl [PV.int IntKind.u8 x] 1 1 c1, PV.sl [PV.int IntKind.u8 y, PV.int IntKind.u8 z] 1 2 c2, PV.sl b 1 (n + 1) c3]) <|
                                                                ass (oldL 0 (PV.int IntKind.u8 x :: PV.int IntKind.u8 y :: PV.int IntKind.u8 z :: (slCells (PV.sl b 1 (n + 1) c3)).append (List.drop (3 + (slCells (PV.sl b 1 (n + 1) c3)).length) (PV.int IntKind.u8 x :: PV.int IntKind.u8 y :: PV.int IntKind.u8 z :: List.drop 3 (PV.int IntKind.u8 x :: List.drop 1 (repCells [PV.int IntKind.u8 0] (IntKind.i64.wrap (IntKind.i64.wrap (IntKind.i64.wrap (IntKind.i64.wrap (0 + (↑1 : Int)) + (↑2 : Int)) + (↑(slLen (PV.sl b 1 (n + 1) c3)) : Int)) - IntKind.i64.wrap ((↑0 : Int) - (↑0 : Int)))).toNat)))))) <|
                                                                  ass ((IntKind.i64.wrap (IntKind.i64.wrap (IntKind.i64.wrap (IntKind.i64.wrap (0 + (↑1 : Int)) + (↑2 : Int)) + (↑(slLen (PV.sl b 1 (n + 1) c3)) : Int)) - IntKind.i64.wrap ((↑0 : Int) - (↑0 : Int)))).toNat == (IntKind.i64.wrap (IntKind.i64.wrap (IntKind.i64.wrap (IntKind.i64.wrap (0 + (↑1 : Int)) + (↑2 : Int)) + (↑(slLen (PV.sl b 1 (n + 1) c3)) : Int)) - IntKind.i64.wrap ((↑0 : Int) - (↑0 : Int)))).toNat && (decide (0 + (3 + slLen (PV.sl b 1 (n + 1) c3)) * 1 ≤ (PV.int IntKind.u8 x :: PV.int IntKind.u8 y :: PV.int IntKind.u8 z :: (slCells (PV.sl b 1 (n + 1) c3)).append (List.drop (3 + (slCells (PV.sl b 1 (n + 1) c3)).length) (PV.int IntKind.u8 x :: PV.int IntKind.u8 y :: PV.int IntKind.u8 z :: List.drop 3 (PV.int IntKind.u8 x :: List.drop 1 (repCells [PV.int IntKind.u8 0] (IntKind.i64.wrap (IntKind.i64.wrap (IntKind.i64.wrap (IntKind.i64.wrap (0 + (↑1 : Int)) + (↑2 : Int)) + (↑(slLen (PV.sl b 1 (n + 1) c3)) : Int)) - IntKind.i64.wrap ((↑0 : Int) - (↑0 : Int)))).toNat))))).length) && (decide (0 < 1) && (PV.int IntKind.u8 x :: List.take (Nat.add 0 (Nat.add 3 n)) (PV.int IntKind.u8 y :: PV.int IntKind.u8 z :: (slCells (PV.sl b 1 (n + 1) c3)).append (List.drop (3 + (slCells (PV.sl b 1 (n + 1) c3)).length) (PV.int IntKind.u8 x :: PV.int IntKind.u8 y :: PV.int IntKind.u8 z :: List.drop 3 (PV.int IntKind.u8 x :: List.drop 1 (repCells [PV.int IntKind.u8 0] (IntKind.i64.wrap (IntKind.i64.wrap (IntKind.i64.wrap (IntKind.i64.wrap (0 + (↑1 : Int)) + (↑2 : Int)) + (↑(slLen (PV.sl b 1 (n + 1) c3)) : Int)) - IntKind.i64.wrap ((↑0 : Int) - (↑0 : Int)))).toNat)))))).all PV.calm))) <|
                                                                    ass (oldL 0 (PV.int IntKind.u8 x :: List.take (Nat.add 0 (Nat.add 3 n)) (PV.int IntKind.u8 y :: PV.int IntKind.u8 z :: (slCells (PV.sl b 1 (n + 1) c3)).append (List.drop (3 + (slCells (PV.sl b 1 (n + 1) c3)).length) (PV.int IntKind.u8 x :: PV.int IntKind.u8 y :: PV.int IntKind.u8 z :: List.drop 3 (PV.int IntKind.u8 x :: List.drop 1 (repCells [PV.int IntKind.u8 0] (IntKind.i64.wrap (IntKind.i64.wrap (IntKind.i64.wrap (IntKind.i64.wrap (0 + (↑1 : Int)) + (↑2 : Int)) + (↑(slLen (PV.sl b 1 (n + 1) c3)) : Int)) - IntKind.i64.wrap ((↑0 : Int) - (↑0 : Int)))).toNat))))))) <|
                                                                      some (PV.sl (PV.int IntKind.u8 x :: List.take (Nat.add 0 (Nat.add 3 n)) (PV.int IntKind.u8 y :: PV.int IntKind.u8 z :: (slCells (PV.sl b 1 (n + 1) c3)).append (List.drop (3 + (slCells (PV.sl b 1 (n + 1) c3)).length) (PV.int IntKind.u8 x :: PV.int IntKind.u8 y :: PV.int IntKind.u8 z :: List.drop 3 (PV.int IntKind.u8 x :: List.drop 1 (repCells [PV.int IntKind.u8 0] (IntKind.i64.wrap (IntKind.i64.wrap (IntKind.i64.wrap (IntKind.i64.wrap (0 + (↑1 : Int)) + (↑2 : Int)) + (↑(slLen (PV.sl b 1 (n + 1) c3)) : Int)) - IntKind.i64.wrap ((↑0 : Int) - (↑0 : Int)))).toNat)))))) 1 (3 + slLen (PV.sl b 1 (n + 1) c3)) none)) := by kernel_rfl

theorem te (N : Nat) (k : Int) (m : Int) (b : List PV) (n : Nat) : apartS EN TCat H0 N 5 24 [PV.agg [PV.int IntKind.i64 k, PV.int IntKind.i64 m, PV.sl b 1 n none]] =
  (bif k == 1 then
    (bif decide ((↑n : Int) > 65535) then
      (some (PV.tup [PV.sl [] 1 0 none, PV.iface 188 (PV.gptr 2)]))
    else
      (ass (oldL 1 b) <|
      ass (oldL 1 b) <|
        ass (oldL 0 [PV.sl [PV.int IntKind.u8 (IntKind.u8.wrap k)] 1 1 (some 1), PV.sl [PV.int IntKind.u8 (IntKind.u8.wrap ((↑n : Int).fdiv (2 ^ 8))), PV.int IntKind.u8 (IntKind.u8.wrap (↑n : Int))] 1 2 (some 2), PV.sl b 1 n none]) <|
          ass (isBytes n b && (decide (n ≤ 100000) && [PV.int IntKind.u8 (IntKind.u8.wrap k), PV.int IntKind.u8 (IntKind.u8.wrap ((↑n : Int).fdiv (2 ^ 8))), PV.int IntKind.u8 (IntKind.u8.wrap (↑n : Int))].all okByte)) <|
            ass (oldL 0 (PV.int IntKind.u8 (IntKind.u8.wrap k) :: PV.int IntKind.u8 (IntKind.u8.wrap ((↑n : Int).fdiv (2 ^ 8))) :: PV.int IntKind.u8 (IntKind.u8.wrap (↑n : Int)) :: b)) <|
              some (PV.tup [PV.sl (PV.int IntKind.u8 (IntKind.u8.wrap k) :: PV.int IntKind.u8 (IntKind.u8.wrap ((↑n : Int).fdiv (2 ^ 8))) :: PV.int IntKind.u8 (IntKind.u8.wrap (↑n : Int)) :: b) 1 (3 + n) none, PV.nilif])))
  else
    (bif k == 3 then
      (bif decide ((↑n : Int) > 65535) then
        (some (PV.tup [PV.sl [] 1 0 none, PV.iface 188 (PV.gptr 2)]))
      else
        (ass (oldL 1 b) <|
        ass (oldL 1 b) <|
          ass (oldL 0 [PV.sl [PV.int IntKind.u8 (IntKind.u8.wrap k)] 1 1 (some 1), PV.sl [PV.int IntKind.u8 (IntKind.u8.wrap ((↑n : Int).fdiv (2 ^ 8))), PV.int IntKind.u8 (IntKind.u8.wrap (↑n : Int))] 1 2 (some 2), PV.sl b 1 n none]) <|
            ass (isBytes n b && (decide (n ≤ 100000) && [PV.int IntKind.u8 (IntKind.u8.wrap k), PV.int IntKind.u8 (IntKind.u8.wrap ((↑n : Int).fdiv (2 ^ 8))), PV.int IntKind.u8 (IntKind.u8.wrap (↑n : Int))].all okByte)) <|
              ass (oldL 0 (PV.int IntKind.u8 (IntKind.u8.wrap k) :: PV.int IntKind.u8 (IntKind.u8.wrap ((↑n : Int).fdiv (2 ^ 8))) :: PV.int IntKind.u8 (IntKind.u8.wrap (↑n : Int)) :: b)) <|
                some (PV.tup [PV.sl (PV.int IntKind.u8 (IntKind.u8.wrap k) :: PV.int IntKind.u8 (IntKind.u8.wrap ((↑n : Int).fdiv (2 ^ 8))) :: PV.int IntKind.u8 (IntKind.u8.wrap (↑n : Int)) :: b) 1 (3 + n) none, PV.nilif])))
    else
      (bif k == 2 then
        (bif decide (m < 0) then
          (some (PV.tup [PV.sl [PV.int IntKind.u8 (IntKind.u8.wrap k), PV.int IntKind.u8 255] 1 2 none, PV.nilif]))
        else
          (bif decide (m ≥ 255) then
            (some (PV.tup [PV.sl [PV.int IntKind.u8 (IntKind.u8.wrap k), PV.int IntKind.u8 255] 1 2 none, PV.nilif]))
          else
            (some (PV.tup [PV.sl [PV.int IntKind.u8 (IntKind.u8.wrap k), PV.int IntKind.u8 (IntKind.u8.wrap m)] 1 2 none, PV.nilif]))))
      else
        (bif k == 4 then
          (bif decide (m < 0) then
            (some (PV.tup [PV.sl [] 1 0 none, PV.iface 188 (PV.gptr 0)]))
          else
            (bif decide (m > 65535) then
              (some (PV.tup [PV.sl [] 1 0 none, PV.iface 188 (PV.gptr 0)]))
            else
              (some (PV.tup [PV.sl [PV.int IntKind.u8 (IntKind.u8.wrap k), PV.int IntKind.u8 (IntKind.u8.wrap (m.fdiv (2 ^ 8))), PV.int IntKind.u8 (IntKind.u8.wrap m)] 1 3 none, PV.nilif]))))
        else
          (bif k == 5 then
            (some (PV.tup [PV.sl [PV.int IntKind.u8 (IntKind.u8.wrap k)] 1 1 none, PV.nilif]))
          else
            (bif k == 6 then
              (some (PV.tup [PV.sl [PV.int IntKind.u8 (IntKind.u8.wrap k)] 1 1 none, PV.nilif]))
            else
              (some (PV.tup [PV.sl [] 1 0 none, PV.iface 188 (PV.gptr 6)])))))))) := by kernel_rfl

theorem t8 (N : Nat) (c : List PV) (n : Nat) : apartS EN TEnt H8 N 5 8 [PV.sl c 3 n none] =
  (L8a H8 N (N) (c) (n) (0)) := by kernel_rfl

theorem t9 (N : Nat) (c : List PV) (n : Nat) : apartS EN T0 H9 N 5 9 [PV.sl c 3 n none] =
  (L9a H9 N (N) (c) (n) (0)) := by kernel_rfl

theorem t7 (N : Nat) (c : List PV) (n : Nat) (k : Int) : apartS EN T0 H0 N 5 7 [PV.sl c 3 n none, PV.int IntKind.i64 k] =
  (bif decide ((↑n : Int) > k) then
    (some (PV.bool true))
  else
    (L7 H0 N N c n k 0)) := by kernel_rfl

theorem t8a (N : Nat) (m : Nat) (c : List PV) (n : Nat) (i : Nat) : L8a H8 N (m + 1) c n (↑i : Int) =
  (bif decide ((↑i : Int) < (↑n : Int)) then
    (ass (decide (0 ≤ (↑i : Int)) && decide ((↑i : Int) < (↑n : Int))) <|
    ass (okAt [Kd.int IntKind.i64, Kd.int IntKind.i64, Kd.sl 1] c (i * 3)) <|
      ass (oldL 0 (slCells (c.getD (i * 3 + 1 + 1) PV.nilp))) <|
        bif (Sp.entE (asI (c.getD (i * 3) PV.nilp)) (asI (c.getD (i * 3 + 1) PV.nilp)) (slLen (c.getD (i * 3 + 1 + 1) PV.nilp))).beq 0 then
            (ass (isBytes (slLen (c.getD (i * 3 + 1 + 1) PV.nilp)) (slCells (c.getD (i * 3 + 1 + 1) PV.nilp)) && decide (slLen (c.getD (i * 3 + 1 + 1) PV.nilp) ≤ 100000)) <|
            ass ((Sp.entC (asI (c.getD (i * 3) PV.nilp)) (asI (c.getD (i * 3 + 1) PV.nilp)) (slCells (c.getD (i * 3 + 1 + 1) PV.nilp))).length == Sp.entL (asI (c.getD (i * 3) PV.nilp)) (asI (c.getD (i * 3 + 1) PV.nilp)) (slCells (c.getD (i * 3 + 1 + 1) PV.nilp)) * 1) <|
              ass (!decide (Sp.entL (asI (c.getD (i * 3) PV.nilp)) (asI (c.getD (i * 3 + 1) PV.nilp)) (slCells (c.getD (i * 3 + 1 + 1) PV.nilp)) = 0)) <|
                ass (decide (Sp.entL (asI (c.getD (i * 3) PV.nilp)) (asI (c.getD (i * 3 + 1) PV.nilp)) (slCells (c.getD (i * 3 + 1 + 1) PV.nilp)) ≤ 1048576)) <|
                  ass (oldL 0 c) <|
                    ass (oldL 0 c) <|
                      ass (oldL 0 (Sp.entC (asI (c.getD (i * 3) PV.nilp)) (asI (c.getD (i * 3 + 1) PV.nilp)) (slCells (c.getD (i * 3 + 1 + 1) PV.nilp)))) <|
                        L8b H8 N (m) (c) (n) (IntKind.i64.wrap ((↑i : Int) + 1)) (Sp.entC (asI (c.getD (i * 3) PV.nilp)) (asI (c.getD (i * 3 + 1) PV.nilp)) (slCells (c.getD (i * 3 + 1 + 1) PV.nilp))) (Sp.entL (asI (c.getD (i * 3) PV.nilp)) (asI (c.getD (i * 3 + 1) PV.nilp)) (slCells (c.getD (i * 3 + 1 + 1) PV.nilp))))
          else
            (ass (isBytes (slLen (c.getD (i * 3 + 1 + 1) PV.nilp)) (slCells (c.getD (i * 3 + 1 + 1) PV.nilp)) && decide (slLen (c.getD (i * 3 + 1 + 1) PV.nilp) ≤ 100000)) <|
            some (PV.tup [PV.sl [] 1 0 none, PV.iface 188 (PV.gptr (Sp.entE (asI (c.getD (i * 3) PV.nilp)) (asI (c.getD (i * 3 + 1) PV.nilp)) (slLen (c.getD (i * 3 + 1 + 1) PV.nilp)) - 1))])))
  else
    (some (PV.tup [PV.sl [] 1 0 none, PV.nilif]))) := by kernel_rfl

theorem t8b (N : Nat) (m : Nat) (c : List PV) (n : Nat) (i : Nat) (out : List PV) (j : Nat) : L8b H8 N (m + 1) c n (↑i : Int) out j =
  (bif decide ((↑i : Int) < (↑n : Int)) then
    (ass (decide (0 ≤ (↑i : Int)) && decide ((↑i : Int) < (↑n : Int))) <|
    ass (okAt [Kd.int IntKind.i64, Kd.int IntKind.i64, Kd.sl 1] c (i * 3)) <|
      ass (oldL 0 (slCells (c.getD (i * 3 + 1 + 1) PV.nilp))) <|
        bif (Sp.entE (asI (c.getD (i * 3) PV.nilp)) (asI (c.getD (i * 3 + 1) PV.nilp)) (slLen (c.getD (i * 3 + 1 + 1) PV.nilp))).beq 0 then
            (ass (isBytes (slLen (c.getD (i * 3 + 1 + 1) PV.nilp)) (slCells (c.getD (i * 3 + 1 + 1) PV.nilp)) && decide (slLen (c.getD (i * 3 + 1 + 1) PV.nilp) ≤ 100000)) <|
            ass ((Sp.entC (asI (c.getD (i * 3) PV.nilp)) (asI (c.getD (i * 3 + 1) PV.nilp)) (slCells (c.getD (i * 3 + 1 + 1) PV.nilp))).length == Sp.entL (asI (c.getD (i * 3) PV.nilp)) (asI (c.getD (i * 3 + 1) PV.nilp)) (slCells (c.getD (i * 3 + 1 + 1) PV.nilp)) * 1) <|
              ass (!decide (Sp.entL (asI (c.getD (i * 3) PV.nilp)) (asI (c.getD (i * 3 + 1) PV.nilp)) (slCells (c.getD (i * 3 + 1 + 1) PV.nilp)) = 0)) <|
                ass (j == j && (decide (j ≤ 1048576) && (decide (Sp.entL (asI (c.getD (i * 3) PV.nilp)) (asI (c.getD (i * 3 + 1) PV.nilp)) (slCells (c.getD (i * 3 + 1 + 1) PV.nilp)) ≤ 1048576) && decide (0 + j * 1 ≤ out.length)))) <|
                  ass (!decide (0 + j + Sp.entL (asI (c.getD (i * 3) PV.nilp)) (asI (c.getD (i * 3 + 1) PV.nilp)) (slCells (c.getD (i * 3 + 1 + 1) PV.nilp)) ≤ j)) <|
                    ass (oldL 0 c) <|
                      ass (oldL 0 c) <|
                        ass (oldL 0 ((List.take (j * 1) out).append (Sp.entC (asI (c.getD (i * 3) PV.nilp)) (asI (c.getD (i * 3 + 1) PV.nilp)) (slCells (c.getD (i * 3 + 1 + 1) PV.nilp))))) <|
                          L8b H8 N (m) (c) (n) (IntKind.i64.wrap ((↑i : Int) + 1)) ((List.take (j * 1) out).append (Sp.entC (asI (c.getD (i * 3) PV.nilp)) (asI (c.getD (i * 3 + 1) PV.nilp)) (slCells (c.getD (i * 3 + 1 + 1) PV.nilp)))) (j + Sp.entL (asI (c.getD (i * 3) PV.nilp)) (asI (c.getD (i * 3 + 1) PV.nilp)) (slCells (c.getD (i * 3 + 1 + 1) PV.nilp))))
          else
            (ass (isBytes (slLen (c.getD (i * 3 + 1 + 1) PV.nilp)) (slCells (c.getD (i * 3 + 1 + 1) PV.nilp)) && decide (slLen (c.getD (i * 3 + 1 + 1) PV.nilp) ≤ 100000)) <|
            some (PV.tup [PV.sl [] 1 0 none, PV.iface 188 (PV.gptr (Sp.entE (asI (c.getD (i * 3) PV.nilp)) (asI (c.getD (i * 3 + 1) PV.nilp)) (slLen (c.getD (i * 3 + 1 + 1) PV.nilp)) - 1))])))
  else
    (ass (j == j && (decide (0 + j * 1 ≤ out.length) && (decide (0 < 1) && (List.take (j * 1) (List.drop 0 out)).all PV.calm))) <|
    ass (oldL 0 (List.take (j * 1) (List.drop 0 out))) <|
      some (PV.tup [PV.sl (List.take (j * 1) (List.drop 0 out)) 1 j none, PV.nilif]))) := by kernel_rfl

theorem t9a (N : Nat) (m : Nat) (c : List PV) (n : Nat) (i : Nat) : L9a H9 N (m + 1) c n (↑i : Int) =
  (bif decide ((↑i : Int) < (↑n : Int)) then
    (ass (decide (0 ≤ (↑i : Int)) && decide ((↑i : Int) < (↑n : Int))) <|
    ass (okAt [Kd.int IntKind.i64, Kd.int IntKind.i64, Kd.sl 1] c (i * 3)) <|
      bif decide (asI (c.getD (i * 3) PV.nilp) < 1) then
          (some (PV.tup [PV.sl [] 1 0 none, PV.int IntKind.i64 7]))
        else
          (bif decide (asI (c.getD (i * 3) PV.nilp) > 6) then
            (some (PV.tup [PV.sl [] 1 0 none, PV.int IntKind.i64 7]))
          else
            (bif asI (c.getD (i * 3) PV.nilp) == 1 then
              (bif decide ((↑(slLen (c.getD (i * 3 + 1 + 1) PV.nilp)) : Int) > 65535) then
                (some (PV.tup [PV.sl [] 1 0 none, PV.int IntKind.i64 3]))
              else
                (ass (oldL 2 (slCells (c.getD (i * 3 + 1 + 1) PV.nilp))) <|
                ass ((slCells (c.getD (i * 3 + 1 + 1) PV.nilp)).length == slLen (c.getD (i * 3 + 1 + 1) PV.nilp) * 1) <|
                  bif decide (slLen (c.getD (i * 3 + 1 + 1) PV.nilp) = 0) then
                      (bif asI (c.getD (i * 3) PV.nilp) == 2 then
                        (bif decide (asI (c.getD (i * 3 + 1) PV.nilp) ≥ 0) then
                          (bif decide (asI (c.getD (i * 3 + 1) PV.nilp) < 255) then
                            (bif asI (c.getD (i * 3) PV.nilp) == 4 then
                              (bif decide (asI (c.getD (i * 3 + 1) PV.nilp) < 0) then
                                (some (PV.tup [PV.sl [] 1 0 none, PV.int IntKind.i64 1]))
                              else
                                (bif decide (asI (c.getD (i * 3 + 1) PV.nilp) > 65535) then
                                  (some (PV.tup [PV.sl [] 1 0 none, PV.int IntKind.i64 1]))
                                else
                                  (ass (oldL 0 c) <|
                                  ass (oldL 0 c) <|
                                    L9b H9 N (m) (c) (n) (IntKind.i64.wrap ((↑i : Int) + 1)) ([PV.int IntKind.u8 (IntKind.u8.wrap (asI (c.getD (i * 3) PV.nilp))), PV.int IntKind.u8 (IntKind.u8.wrap (IntKind.i64.wrap ((↑(slLen (c.getD (i * 3 + 1 + 1) PV.nilp)) : Int).tdiv 256))), PV.int IntKind.u8 (IntKind.u8.wrap ((↑(slLen (c.getD (i * 3 + 1 + 1) PV.nilp)) : Int).tmod 256)), PV.int IntKind.u8 (IntKind.u8.wrap (asI (c.getD (i * 3 + 1) PV.nilp))), PV.int IntKind.u8 (IntKind.u8.wrap (IntKind.i64.wrap ((asI (c.getD (i * 3 + 1) PV.nilp)).tdiv 256))), PV.int IntKind.u8 (IntKind.u8.wrap ((asI (c.getD (i * 3 + 1) PV.nilp)).tmod 256))]) (6))))
                            else
                              (ass (oldL 0 c) <|
                              ass (oldL 0 c) <|
                                L9b H9 N (m) (c) (n) (IntKind.i64.wrap ((↑i : Int) + 1)) ([PV.int IntKind.u8 (IntKind.u8.wrap (asI (c.getD (i * 3) PV.nilp))), PV.int IntKind.u8 (IntKind.u8.wrap (IntKind.i64.wrap ((↑(slLen (c.getD (i * 3 + 1 + 1) PV.nilp)) : Int).tdiv 256))), PV.int IntKind.u8 (IntKind.u8.wrap ((↑(slLen (c.getD (i * 3 + 1 + 1) PV.nilp)) : Int).tmod 256)), PV.int IntKind.u8 (IntKind.u8.wrap (asI (c.getD (i * 3 + 1) PV.nilp)))]) (4)))
                          else
                            (bif asI (c.getD (i * 3) PV.nilp) == 4 then
                              (bif decide (asI (c.getD (i * 3 + 1) PV.nilp) < 0) then
                                (some (PV.tup [PV.sl [] 1 0 none, PV.int IntKind.i64 1]))
                              else
                                (bif decide (asI (c.getD (i * 3 + 1) PV.nilp) > 65535) then
                                  (some (PV.tup [PV.sl [] 1 0 none, PV.int IntKind.i64 1]))
                                else
                                  (ass (oldL 0 c) <|
                                  ass (oldL 0 c) <|
                                    L9b H9 N (m) (c) (n) (IntKind.i64.wrap ((↑i : Int) + 1)) ([PV.int IntKind.u8 (IntKind.u8.wrap (asI (c.getD (i * 3) PV.nilp))), PV.int IntKind.u8 (IntKind.u8.wrap (IntKind.i64.wrap ((↑(slLen (c.getD (i * 3 + 1 + 1) PV.nilp)) : Int).tdiv 256))), PV.int IntKind.u8 (IntKind.u8.wrap ((↑(slLen (c.getD (i * 3 + 1 + 1) PV.nilp)) : Int).tmod 256)), PV.int IntKind.u8 255, PV.int IntKind.u8 (IntKind.u8.wrap (IntKind.i64.wrap ((asI (c.getD (i * 3 + 1) PV.nilp)).tdiv 256))), PV.int IntKind.u8 (IntKind.u8.wrap ((asI (c.getD (i * 3 + 1) PV.nilp)).tmod 256))]) (6))))
                            else
                              (ass (oldL 0 c) <|
                              ass (oldL 0 c) <|
                                L9b H9 N (m) (c) (n) (IntKind.i64.wrap ((↑i : Int) + 1)) ([PV.int IntKind.u8 (IntKind.u8.wrap (asI (c.getD (i * 3) PV.nilp))), PV.int IntKind.u8 (IntKind.u8.wrap (IntKind.i64.wrap ((↑(slLen (c.getD (i * 3 + 1 + 1) PV.nilp)) : Int).tdiv 256))), PV.int IntKind.u8 (IntKind.u8.wrap ((↑(slLen (c.getD (i * 3 + 1 + 1) PV.nilp)) : Int).tmod 256)), PV.int IntKind.u8 255]) (4))))
                        else
                          (bif asI (c.getD (i * 3) PV.nilp) == 4 then
                            (bif decide (asI (c.getD (i * 3 + 1) PV.nilp) < 0) then
                              (some (PV.tup [PV.sl [] 1 0 none, PV.int IntKind.i64 1]))
                            else
                              (bif decide (asI (c.getD (i * 3 + 1) PV.nilp) > 65535) then
                                (some (PV.tup [PV.sl [] 1 0 none, PV.int IntKind.i64 1]))
                              else
                                (ass (oldL 0 c) <|
                                ass (oldL 0 c) <|
                                  L9b H9 N (m) (c) (n) (IntKind.i64.wrap ((↑i : Int) + 1)) ([PV.int IntKind.u8 (IntKind.u8.wrap (asI (c.getD (i * 3) PV.nilp))), PV.int IntKind.u8 (IntKind.u8.wrap (IntKind.i64.wrap ((↑(slLen (c.getD (i * 3 + 1 + 1) PV.nilp)) : Int).tdiv 256))), PV.int IntKind.u8 (IntKind.u8.wrap ((↑(slLen (c.getD (i * 3 + 1 + 1) PV.nilp)) : Int).tmod 256)), PV.int IntKind.u8 255, PV.int IntKind.u8 (IntKind.u8.wrap (IntKind.i64.wrap ((asI (c.getD (i * 3 + 1) PV.nilp)).tdiv 256))), PV.int IntKind.u8 (IntKind.u8.wrap ((asI (c.getD (i * 3 + 1) PV.nilp)).tmod 256))]) (6))))
                          else
                            (ass (oldL 0 c) <|
                            ass (oldL 0 c) <|
                              L9b H9 N (m) (c) (n) (IntKind.i64.wrap ((↑i : Int) + 1)) ([PV.int IntKind.u8 (IntKind.u8.wrap (asI (c.getD (i * 3) PV.nilp))), PV.int IntKind.u8 (IntKind.u8.wrap (IntKind.i64.wrap ((↑(slLen (c.getD (i * 3 + 1 + 1) PV.nilp)) : Int).tdiv 256))), PV.int IntKind.u8 (IntKind.u8.wrap ((↑(slLen (c.getD (i * 3 + 1 + 1) PV.nilp)) : Int).tmod 256)), PV.int IntKind.u8 255]) (4))))
                      else
                        (bif asI (c.getD (i * 3) PV.nilp) == 4 then
                          (bif decide (asI (c.getD (i * 3 + 1) PV.nilp) < 0) then
                            (some (PV.tup [PV.sl [] 1 0 none, PV.int IntKind.i64 1]))
                          else
                            (bif decide (asI (c.getD (i * 3 + 1) PV.nilp) > 65535) then
                              (some (PV.tup [PV.sl [] 1 0 none, PV.int IntKind.i64 1]))
                            else
                              (ass (oldL 0 c) <|
                              ass (oldL 0 c) <|
                                L9b H9 N (m) (c) (n) (IntKind.i64.wrap ((↑i : Int) + 1)) ([PV.int IntKind.u8 (IntKind.u8.wrap (asI (c.getD (i * 3) PV.nilp))), PV.int IntKind.u8 (IntKind.u8.wrap (IntKind.i64.wrap ((↑(slLen (c.getD (i * 3 + 1 + 1) PV.nilp)) : Int).tdiv 256))), PV.int IntKind.u8 (IntKind.u8.wrap ((↑(slLen (c.getD (i * 3 + 1 + 1) PV.nilp)) : Int).tmod 256)), PV.int IntKind.u8 (IntKind.u8.wrap (IntKind.i64.wrap ((asI (c.getD (i * 3 + 1) PV.nilp)).tdiv 256))), PV.int IntKind.u8 (IntKind.u8.wrap ((asI (c.getD (i * 3 + 1) PV.nilp)).tmod 256))]) (5))))
                        else
                          (ass (oldL 0 c) <|
                          ass (oldL 0 c) <|
                            L9b H9 N (m) (c) (n) (IntKind.i64.wrap ((↑i : Int) + 1)) ([PV.int IntKind.u8 (IntKind.u8.wrap (asI (c.getD (i * 3) PV.nilp))), PV.int IntKind.u8 (IntKind.u8.wrap (IntKind.i64.wrap ((↑(slLen (c.getD (i * 3 + 1 + 1) PV.nilp)) : Int).tdiv 256))), PV.int IntKind.u8 (IntKind.u8.wrap ((↑(slLen (c.getD (i * 3 + 1 + 1) PV.nilp)) : Int).tmod 256))]) (3))))
                    else
                      (ass (3 == 3 && (decide (3 ≤ 1048576) && (decide (slLen (c.getD (i * 3 + 1 + 1) PV.nilp) ≤ 1048576) && decide (3 ≤ 3)))) <|
                      ass (!decide (3 + slLen (c.getD (i * 3 + 1 + 1) PV.nilp) ≤ 3)) <|
                        bif asI (c.getD (i * 3) PV.nilp) == 2 then
                            (bif decide (asI (c.getD (i * 3 + 1) PV.nilp) ≥ 0) then
                              (bif decide (asI (c.getD (i * 3 + 1) PV.nilp) < 255) then
                                (ass (3 + slLen (c.getD (i * 3 + 1 + 1) PV.nilp) == 3 + slLen (c.getD (i * 3 + 1 + 1) PV.nilp) && (decide (3 + slLen (c.getD (i * 3 + 1 + 1) PV.nilp) ≤ 1048576) && (decide (1 ≤ 1048576) && decide (0 + (3 + slLen (c.getD (i * 3 + 1 + 1) PV.nilp)) * 1 ≤ (PV.int IntKind.u8 (IntKind.u8.wrap (asI (c.getD (i * 3) PV.nilp))) :: PV.int IntKind.u8 (IntKind.u8.wrap (IntKind.i64.wrap ((↑(slLen (c.getD (i * 3 + 1 + 1) PV.nilp)) : Int).tdiv 256))) :: PV.int IntKind.u8 (IntKind.u8.wrap ((↑(slLen (c.getD (i * 3 + 1 + 1) PV.nilp)) : Int).tmod 256)) :: slCells (c.getD (i * 3 + 1 + 1) PV.nilp)).length)))) <|
                                ass (!decide (0 + (3 + slLen (c.getD (i * 3 + 1 + 1) PV.nilp)) + 1 ≤ 3 + slLen (c.getD (i * 3 + 1 + 1) PV.nilp))) <|
                                  bif asI (c.getD (i * 3) PV.nilp) == 4 then
                                      (bif decide (asI (c.getD (i * 3 + 1) PV.nilp) < 0) then
                                        (some (PV.tup [PV.sl [] 1 0 none, PV.int IntKind.i64 1]))
                                      else
                                        (bif decide (asI (c.getD (i * 3 + 1) PV.nilp) > 65535) then
                                          (some (PV.tup [PV.sl [] 1 0 none, PV.int IntKind.i64 1]))
                                        else
                                          (ass (3 + slLen (c.getD (i * 3 + 1 + 1) PV.nilp) + 1 == 3 + slLen (c.getD (i * 3 + 1 + 1) PV.nilp) + 1 && (decide (3 + slLen (c.getD (i * 3 + 1 + 1) PV.nilp) + 1 ≤ 1048576) && (decide (2 ≤ 1048576) && decide (0 + (3 + slLen (c.getD (i * 3 + 1 + 1) PV.nilp) + 1) * 1 ≤ ((List.take ((3 + slLen (c.getD (i * 3 + 1 + 1) PV.nilp)) * 1) (PV.int IntKind.u8 (IntKind.u8.wrap (asI (c.getD (i * 3) PV.nilp))) :: PV.int IntKind.u8 (IntKind.u8.wrap (IntKind.i64.wrap ((↑(slLen (c.getD (i * 3 + 1 + 1) PV.nilp)) : Int).tdiv 256))) :: PV.int IntKind.u8 (IntKind.u8.wrap ((↑(slLen (c.getD (i * 3 + 1 + 1) PV.nilp)) : Int).tmod 256)) :: slCells (c.getD (i * 3 + 1 + 1) PV.nilp))).append [PV.int IntKind.u8 (IntKind.u8.wrap (asI (c.getD (i * 3 + 1) PV.nilp)))]).length)))) <|
                                          ass (!decide (0 + (3 + slLen (c.getD (i * 3 + 1 + 1) PV.nilp) + 1) + 2 ≤ 3 + slLen (c.getD (i * 3 + 1 + 1) PV.nilp) + 1)) <|
                                            ass (oldL 0 c) <|
                                              ass (oldL 0 c) <|
                                                ass (oldL 0 ((List.take ((3 + slLen (c.getD (i * 3 + 1 + 1) PV.nilp) + 1) * 1) ((List.take ((3 + slLen (c.getD (i * 3 + 1 + 1) PV.nilp)) * 1) (PV.int IntKind.u8 (IntKind.u8.wrap (asI (c.getD (i * 3) PV.nilp))) :: PV.int IntKind.u8 (IntKind.u8.wrap (IntKind.i64.wrap ((↑(slLen (c.getD (i * 3 + 1 + 1) PV.nilp)) : Int).tdiv 256))) :: PV.int IntKind.u8 (IntKind.u8.wrap ((↑(slLen (c.getD (i * 3 + 1 + 1) PV.nilp)) : Int).tmod 256)) :: slCells (c.getD (i * 3 + 1 + 1) PV.nilp))).append [PV.int IntKind.u8 (IntKind.u8.wrap (asI (c.getD (i * 3 + 1) PV.nilp)))])).append [PV.int IntKind.u8 (IntKind.u8.wrap (IntKind.i64.wrap ((asI (c.getD (i * 3 + 1) PV.nilp)).tdiv 256))), PV.int IntKind.u8 (IntKind.u8.wrap ((asI (c.getD (i * 3 + 1) PV.nilp)).tmod 256))])) <|
                                                  L9b H9 N (m) (c) (n) (IntKind.i64.wrap ((↑i : Int) + 1)) ((List.take ((3 + slLen (c.getD (i * 3 + 1 + 1) PV.nilp) + 1) * 1) ((List.take ((3 + slLen (c.getD (i * 3 + 1 + 1) PV.nilp)) * 1) (PV.int IntKind.u8 (IntKind.u8.wrap (asI (c.getD (i * 3) PV.nilp))) :: PV.int IntKind.u8 (IntKind.u8.wrap (IntKind.i64.wrap ((↑(slLen (c.getD (i * 3 + 1 + 1) PV.nilp)) : Int).tdiv 256))) :: PV.int IntKind.u8 (IntKind.u8.wrap ((↑(slLen (c.getD (i * 3 + 1 + 1) PV.nilp)) : Int).tmod 256)) :: slCells (c.getD (i * 3 + 1 + 1) PV.nilp))).append [PV.int IntKind.u8 (IntKind.u8.wrap (asI (c.getD (i * 3 + 1) PV.nilp)))])).append [PV.int IntKind.u8 (IntKind.u8.wrap (IntKind.i64.wrap ((asI (c.getD (i * 3 + 1) PV.nilp)).tdiv 256))), PV.int IntKind.u8 (IntKind.u8.wrap ((asI (c.getD (i * 3 + 1) PV.nilp)).tmod 256))]) (3 + slLen (c.getD (i * 3 + 1 + 1) PV.nilp) + 1 + 2))))
                                    else
                                      (ass (oldL 0 c) <|
                                      ass (oldL 0 c) <|
                                        ass (oldL 0 ((List.take ((3 + slLen (c.getD (i * 3 + 1 + 1) PV.nilp)) * 1) (PV.int IntKind.u8 (IntKind.u8.wrap (asI (c.getD (i * 3) PV.nilp))) :: PV.int IntKind.u8 (IntKind.u8.wrap (IntKind.i64.wrap ((↑(slLen (c.getD (i * 3 + 1 + 1) PV.nilp)) : Int).tdiv 256))) :: PV.int IntKind.u8 (IntKind.u8.wrap ((↑(slLen (c.getD (i * 3 + 1 + 1) PV.nilp)) : Int).tmod 256)) :: slCells (c.getD (i * 3 + 1 + 1) PV.nilp))).append [PV.int IntKind.u8 (IntKind.u8.wrap (asI (c.getD (i * 3 + 1) PV.nilp)))])) <|
                                          L9b H9 N (m) (c) (n) (IntKind.i64.wrap ((↑i : Int) + 1)) ((List.take ((3 + slLen (c.getD (i * 3 + 1 + 1) PV.nilp)) * 1) (PV.int IntKind.u8 (IntKind.u8.wrap (asI (c.getD (i * 3) PV.nilp))) :: PV.int IntKind.u8 (IntKind.u8.wrap (IntKind.i64.wrap ((↑(slLen (c.getD (i * 3 + 1 + 1) PV.nilp)) : Int).tdiv 256))) :: PV.int IntKind.u8 (IntKind.u8.wrap ((↑(slLen (c.getD (i * 3 + 1 + 1) PV.nilp)) : Int).tmod 256)) :: slCells (c.getD (i * 3 + 1 + 1) PV.nilp))).append [PV.int IntKind.u8 (IntKind.u8.wrap (asI (c.getD (i * 3 + 1) PV.nilp)))]) (3 + slLen (c.getD (i * 3 + 1 + 1) PV.nilp) + 1)))
                              else
                                (ass (3 + slLen (c.getD (i * 3 + 1 + 1) PV.nilp) == 3 + slLen (c.getD (i * 3 + 1 + 1) PV.nilp) && (decide (3 + slLen (c.getD (i * 3 + 1 + 1) PV.nilp) ≤ 1048576) && (decide (1 ≤ 1048576) && decide (0 + (3 + slLen (c.getD (i * 3 + 1 + 1) PV.nilp)) * 1 ≤ (PV.int IntKind.u8 (IntKind.u8.wrap (asI (c.getD (i * 3) PV.nilp))) :: PV.int IntKind.u8 (IntKind.u8.wrap (IntKind.i64.wrap ((↑(slLen (c.getD (i * 3 + 1 + 1) PV.nilp)) : Int).tdiv 256))) :: PV.int IntKind.u8 (IntKind.u8.wrap ((↑(slLen (c.getD (i * 3 + 1 + 1) PV.nilp)) : Int).tmod 256)) :: slCells (c.getD (i * 3 + 1 + 1) PV.nilp)).length)))) <|
                                ass (!decide (0 + (3 + slLen (c.getD (i * 3 + 1 + 1) PV.nilp)) + 1 ≤ 3 + slLen (c.getD (i * 3 + 1 + 1) PV.nilp))) <|
                                  bif asI (c.getD (i * 3) PV.nilp) == 4 then
                                      (bif decide (asI (c.getD (i * 3 + 1) PV.nilp) < 0) then
                                        (some (PV.tup [PV.sl [] 1 0 none, PV.int IntKind.i64 1]))
                                      else
                                        (bif decide (asI (c.getD (i * 3 + 1) PV.nilp) > 65535) then
                                          (some (PV.tup [PV.sl [] 1 0 none, PV.int IntKind.i64 1]))
                                        else
                                          (ass (3 + slLen (c.getD (i * 3 + 1 + 1) PV.nilp) + 1 == 3 + slLen (c.getD (i * 3 + 1 + 1) PV.nilp) + 1 && (decide (3 + slLen (c.getD (i * 3 + 1 + 1) PV.nilp) + 1 ≤ 1048576) && (decide (2 ≤ 1048576) && decide (0 + (3 + slLen (c.getD (i * 3 + 1 + 1) PV.nilp) + 1) * 1 ≤ ((List.take ((3 + slLen (c.getD (i * 3 + 1 + 1) PV.nilp)) * 1) (PV.int IntKind.u8 (IntKind.u8.wrap (asI (c.getD (i * 3) PV.nilp))) :: PV.int IntKind.u8 (IntKind.u8.wrap (IntKind.i64.wrap ((↑(slLen (c.getD (i * 3 + 1 + 1) PV.nilp)) : Int).tdiv 256))) :: PV.int IntKind.u8 (IntKind.u8.wrap ((↑(slLen (c.getD (i * 3 + 1 + 1) PV.nilp)) : Int).tmod 256)) :: slCells (c.getD (i * 3 + 1 + 1) PV.nilp))).append [PV.int IntKind.u8 255]).length)))) <|
                                          ass (!decide (0 + (3 + slLen (c.getD (i * 3 + 1 + 1) PV.nilp) + 1) + 2 ≤ 3 + slLen (c.getD (i * 3 + 1 + 1) PV.nilp) + 1)) <|
                                            ass (oldL 0 c) <|
                                              ass (oldL 0 c) <|
                                                ass (oldL 0 ((List.take ((3 + slLen (c.getD (i * 3 + 1 + 1) PV.nilp) + 1) * 1) ((List.take ((3 + slLen (c.getD (i * 3 + 1 + 1) PV.nilp)) * 1) (PV.int IntKind.u8 (IntKind.u8.wrap (asI (c.getD (i * 3) PV.nilp))) :: PV.int IntKind.u8 (IntKind.u8.wrap (IntKind.i64.wrap ((↑(slLen (c.getD (i * 3 + 1 + 1) PV.nilp)) : Int).tdiv 256))) :: PV.int IntKind.u8 (IntKind.u8.wrap ((↑(slLen (c.getD (i * 3 + 1 + 1) PV.nilp)) : Int).tmod 256)) :: slCells (c.getD (i * 3 + 1 + 1) PV.nilp))).append [PV.int IntKind.u8 255])).append [PV.int IntKind.u8 (IntKind.u8.wrap (IntKind.i64.wrap ((asI (c.getD (i * 3 + 1) PV.nilp)).tdiv 256))), PV.int IntKind.u8 (IntKind.u8.wrap ((asI (c.getD (i * 3 + 1) PV.nilp)).tmod 256))])) <|
                                                  L9b H9 N (m) (c) (n) (IntKind.i64.wrap ((↑i : Int) + 1)) ((List.take ((3 + slLen (c.getD (i * 3 + 1 + 1) PV.nilp) + 1) * 1) ((List.take ((3 + slLen (c.getD (i * 3 + 1 + 1) PV.nilp)) * 1) (PV.int IntKind.u8 (IntKind.u8.wrap (asI (c.getD (i * 3) PV.nilp))) :: PV.int IntKind.u8 (IntKind.u8.wrap (IntKind.i64.wrap ((↑(slLen (c.getD (i * 3 + 1 + 1) PV.nilp)) : Int).tdiv 256))) :: PV.int IntKind.u8 (IntKind.u8.wrap ((↑(slLen (c.getD (i * 3 + 1 + 1) PV.nilp)) : Int).tmod 256)) :: slCells (c.getD (i * 3 + 1 + 1) PV.nilp))).append [PV.int IntKind.u8 255])).append [PV.int IntKind.u8 (IntKind.u8.wrap (IntKind.i64.wrap ((asI (c.getD (i * 3 + 1) PV.nilp)).tdiv 256))), PV.int IntKind.u8 (IntKind.u8.wrap ((asI (c.getD (i * 3 + 1) PV.nilp)).tmod 256))]) (3 + slLen (c.getD (i * 3 + 1 + 1) PV.nilp) + 1 + 2))))
                                    else
                                      (ass (oldL 0 c) <|
                                      ass (oldL 0 c) <|
                                        ass (oldL 0 ((List.take ((3 + slLen (c.getD (i * 3 + 1 + 1) PV.nilp)) * 1) (PV.int IntKind.u8 (IntKind.u8.wrap (asI (c.getD (i * 3) PV.nilp))) :: PV.int IntKind.u8 (IntKind.u8.wrap (IntKind.i64.wrap ((↑(slLen (c.getD (i * 3 + 1 + 1) PV.nilp)) : Int).tdiv 256))) :: PV.int IntKind.u8 (IntKind.u8.wrap ((↑(slLen (c.getD (i * 3 + 1 + 1) PV.nilp)) : Int).tmod 256)) :: slCells (c.getD (i * 3 + 1 + 1) PV.nilp))).append [PV.int IntKind.u8 255])) <|
                                          L9b H9 N (m) (c) (n) (IntKind.i64.wrap ((↑i : Int) + 1)) ((List.take ((3 + slLen (c.getD (i * 3 + 1 + 1) PV.nilp)) * 1) (PV.int IntKind.u8 (IntKind.u8.wrap (asI (c.getD (i * 3) PV.nilp))) :: PV.int IntKind.u8 (IntKind.u8.wrap (IntKind.i64.wrap ((↑(slLen (c.getD (i * 3 + 1 + 1) PV.nilp)) : Int).tdiv 256))) :: PV.int IntKind.u8 (IntKind.u8.wrap ((↑(slLen (c.getD (i * 3 + 1 + 1) PV.nilp)) : Int).tmod 256)) :: slCells (c.getD (i * 3 + 1 + 1) PV.nilp))).append [PV.int IntKind.u8 255]) (3 + slLen (c.getD (i * 3 + 1 + 1) PV.nilp) + 1))))
                            else
                              (ass (3 + slLen (c.getD (i * 3 + 1 + 1) PV.nilp) == 3 + slLen (c.getD (i * 3 + 1 + 1) PV.nilp) && (decide (3 + slLen (c.getD (i * 3 + 1 + 1) PV.nilp) ≤ 1048576) && (decide (1 ≤ 1048576) && decide (0 + (3 + slLen (c.getD (i * 3 + 1 + 1) PV.nilp)) * 1 ≤ (PV.int IntKind.u8 (IntKind.u8.wrap (asI (c.getD (i * 3) PV.nilp))) :: PV.int IntKind.u8 (IntKind.u8.wrap (IntKind.i64.wrap ((↑(slLen (c.getD (i * 3 + 1 + 1) PV.nilp)) : Int).tdiv 256))) :: PV.int IntKind.u8 (IntKind.u8.wrap ((↑(slLen (c.getD (i * 3 + 1 + 1) PV.nilp)) : Int).tmod 256)) :: slCells (c.getD (i * 3 + 1 + 1) PV.nilp)).length)))) <|
                              ass (!decide (0 + (3 + slLen (c.getD (i * 3 + 1 + 1) PV.nilp)) + 1 ≤ 3 + slLen (c.getD (i * 3 + 1 + 1) PV.nilp))) <|
                                bif asI (c.getD (i * 3) PV.nilp) == 4 then
                                    (bif decide (asI (c.getD (i * 3 + 1) PV.nilp) < 0) then
                                      (some (PV.tup [PV.sl [] 1 0 none, PV.int IntKind.i64 1]))
                                    else
                                      (bif decide (asI (c.getD (i * 3 + 1) PV.nilp) > 65535) then
                                        (some (PV.tup [PV.sl [] 1 0 none, PV.int IntKind.i64 1]))
                                      else
                                        (ass (3 + slLen (c.getD (i * 3 + 1 + 1) PV.nilp) + 1 == 3 + slLen (c.getD (i * 3 + 1 + 1) PV.nilp) + 1 && (decide (3 + slLen (c.getD (i * 3 + 1 + 1) PV.nilp) + 1 ≤ 1048576) && (decide (2 ≤ 1048576) && decide (0 + (3 + slLen (c.getD (i * 3 + 1 + 1) PV.nilp) + 1) * 1 ≤ ((List.take ((3 + slLen (c.getD (i * 3 + 1 + 1) PV.nilp)) * 1) (PV.int IntKind.u8 (IntKind.u8.wrap (asI (c.getD (i * 3) PV.nilp))) :: PV.int IntKind.u8 (IntKind.u8.wrap (IntKind.i64.wrap ((↑(slLen (c.getD (i * 3 + 1 + 1) PV.nilp)) : Int).tdiv 256))) :: PV.int IntKind.u8 (IntKind.u8.wrap ((↑(slLen (c.getD (i * 3 + 1 + 1) PV.nilp)) : Int).tmod 256)) :: slCells (c.getD (i * 3 + 1 + 1) PV.nilp))).append [PV.int IntKind.u8 255]).length)))) <|
                                        ass (!decide (0 + (3 + slLen (c.getD (i * 3 + 1 + 1) PV.nilp) + 1) + 2 ≤ 3 + slLen (c.getD (i * 3 + 1 + 1) PV.nilp) + 1)) <|
                                          ass (oldL 0 c) <|
                                            ass (oldL 0 c) <|
                                              ass (oldL 0 ((List.take ((3 + slLen (c.getD (i * 3 + 1 + 1) PV.nilp) + 1) * 1) ((List.take ((3 + slLen (c.getD (i * 3 + 1 + 1) PV.nilp)) * 1) (PV.int IntKind.u8 (IntKind.u8.wrap (asI (c.getD (i * 3) PV.nilp))) :: PV.int IntKind.u8 (IntKind.u8.wrap (IntKind.i64.wrap ((↑(slLen (c.getD (i * 3 + 1 + 1) PV.nilp)) : Int).tdiv 256))) :: PV.int IntKind.u8 (IntKind.u8.wrap ((↑(slLen (c.getD (i * 3 + 1 + 1) PV.nilp)) : Int).tmod 256)) :: slCells (c.getD (i * 3 + 1 + 1) PV.nilp))).append [PV.int IntKind.u8 255])).append [PV.int IntKind.u8 (IntKind.u8.wrap (IntKind.i64.wrap ((asI (c.getD (i * 3 + 1) PV.nilp)).tdiv 256))), PV.int IntKind.u8 (IntKind.u8.wrap ((asI (c.getD (i * 3 + 1) PV.nilp)).tmod 256))])) <|
                                                L9b H9 N (m) (c) (n) (IntKind.i64.wrap ((↑i : Int) + 1)) ((List.take ((3 + slLen (c.getD (i * 3 + 1 + 1) PV.nilp) + 1) * 1) ((List.take ((3 + slLen (c.getD (i * 3 + 1 + 1) PV.nilp)) * 1) (PV.int IntKind.u8 (IntKind.u8.wrap (asI (c.getD (i * 3) PV.nilp))) :: PV.int IntKind.u8 (IntKind.u8.wrap (IntKind.i64.wrap ((↑(slLen (c.getD (i * 3 + 1 + 1) PV.nilp)) : Int).tdiv 256))) :: PV.int IntKind.u8 (IntKind.u8.wrap ((↑(slLen (c.getD (i * 3 + 1 + 1) PV.nilp)) : Int).tmod 256)) :: slCells (c.getD (i * 3 + 1 + 1) PV.nilp))).append [PV.int IntKind.u8 255])).append [PV.int IntKind.u8 (IntKind.u8.wrap (IntKind.i64.wrap ((asI (c.getD (i * 3 + 1) PV.nilp)).tdiv 256))), PV.int IntKind.u8 (IntKind.u8.wrap ((asI (c.getD (i * 3 + 1) PV.nilp)).tmod 256))]) (3 + slLen (c.getD (i * 3 + 1 + 1) PV.nilp) + 1 + 2))))
                                  else
                                    (ass (oldL 0 c) <|
                                    ass (oldL 0 c) <|
                                      ass (oldL 0 ((List.take ((3 + slLen (c.getD (i * 3 + 1 + 1) PV.nilp)) * 1) (PV.int IntKind.u8 (IntKind.u8.wrap (asI (c.getD (i * 3) PV.nilp))) :: PV.int IntKind.u8 (IntKind.u8.wrap (IntKind.i64.wrap ((↑(slLen (c.getD (i * 3 + 1 + 1) PV.nilp)) : Int).tdiv 256))) :: PV.int IntKind.u8 (IntKind.u8.wrap ((↑(slLen (c.getD (i * 3 + 1 + 1) PV.nilp)) : Int).tmod 256)) :: slCells (c.getD (i * 3 + 1 + 1) PV.nilp))).append [PV.int IntKind.u8 255])) <|
                                        L9b H9 N (m) (c) (n) (IntKind.i64.wrap ((↑i : Int) + 1)) ((List.take ((3 + slLen (c.getD (i * 3 + 1 + 1) PV.nilp)) * 1) (PV.int IntKind.u8 (IntKind.u8.wrap (asI (c.getD (i * 3) PV.nilp))) :: PV.int IntKind.u8 (IntKind.u8.wrap (IntKind.i64.wrap ((↑(slLen (c.getD (i * 3 + 1 + 1) PV.nilp)) : Int).tdiv 256))) :: PV.int IntKind.u8 (IntKind.u8.wrap ((↑(slLen (c.getD (i * 3 + 1 + 1) PV.nilp)) : Int).tmod 256)) :: slCells (c.getD (i * 3 + 1 + 1) PV.nilp))).append [PV.int IntKind.u8 255]) (3 + slLen (c.getD (i * 3 + 1 + 1) PV.nilp) + 1))))
                          else
                            (bif asI (c.getD (i * 3) PV.nilp) == 4 then
                              (bif decide (asI (c.getD (i * 3 + 1) PV.nilp) < 0) then
                                (some (PV.tup [PV.sl [] 1 0 none, PV.int IntKind.i64 1]))
                              else
                                (bif decide (asI (c.getD (i * 3 + 1) PV.nilp) > 65535) then
                                  (some (PV.tup [PV.sl [] 1 0 none, PV.int IntKind.i64 1]))
                                else
                                  (ass (3 + slLen (c.getD (i * 3 + 1 + 1) PV.nilp) == 3 + slLen (c.getD (i * 3 + 1 + 1) PV.nilp) && (decide (3 + slLen (c.getD (i * 3 + 1 + 1) PV.nilp) ≤ 1048576) && (decide (2 ≤ 1048576) && decide (0 + (3 + slLen (c.getD (i * 3 + 1 + 1) PV.nilp)) * 1 ≤ (PV.int IntKind.u8 (IntKind.u8.wrap (asI (c.getD (i * 3) PV.nilp))) :: PV.int IntKind.u8 (IntKind.u8.wrap (IntKind.i64.wrap ((↑(slLen (c.getD (i * 3 + 1 + 1) PV.nilp)) : Int).tdiv 256))) :: PV.int IntKind.u8 (IntKind.u8.wrap ((↑(slLen (c.getD (i * 3 + 1 + 1) PV.nilp)) : Int).tmod 256)) :: slCells (c.getD (i * 3 + 1 + 1) PV.nilp)).length)))) <|
                                  ass (!decide (0 + (3 + slLen (c.getD (i * 3 + 1 + 1) PV.nilp)) + 2 ≤ 3 + slLen (c.getD (i * 3 + 1 + 1) PV.nilp))) <|
                                    ass (oldL 0 c) <|
                                      ass (oldL 0 c) <|
                                        ass (oldL 0 ((List.take ((3 + slLen (c.getD (i * 3 + 1 + 1) PV.nilp)) * 1) (PV.int IntKind.u8 (IntKind.u8.wrap (asI (c.getD (i * 3) PV.nilp))) :: PV.int IntKind.u8 (IntKind.u8.wrap (IntKind.i64.wrap ((↑(slLen (c.getD (i * 3 + 1 + 1) PV.nilp)) : Int).tdiv 256))) :: PV.int IntKind.u8 (IntKind.u8.wrap ((↑(slLen (c.getD (i * 3 + 1 + 1) PV.nilp)) : Int).tmod 256)) :: slCells (c.getD (i * 3 + 1 + 1) PV.nilp))).append [PV.int IntKind.u8 (IntKind.u8.wrap (IntKind.i64.wrap ((asI (c.getD (i * 3 + 1) PV.nilp)).tdiv 256))), PV.int IntKind.u8 (IntKind.u8.wrap ((asI (c.getD (i * 3 + 1) PV.nilp)).tmod 256))])) <|
                                          L9b H9 N (m) (c) (n) (IntKind.i64.wrap ((↑i : Int) + 1)) ((List.take ((3 + slLen (c.getD (i * 3 + 1 + 1) PV.nilp)) * 1) (PV.int IntKind.u8 (IntKind.u8.wrap (asI (c.getD (i * 3) PV.nilp))) :: PV.int IntKind.u8 (IntKind.u8.wrap (IntKind.i64.wrap ((↑(slLen (c.getD (i * 3 + 1 + 1) PV.nilp)) : Int).tdiv 256))) :: PV.int IntKind.u8 (IntKind.u8.wrap ((↑(slLen (c.getD (i * 3 + 1 + 1) PV.nilp)) : Int).tmod 256)) :: slCells (c.getD (i * 3 + 1 + 1) PV.nilp))).append [PV.int IntKind.u8 (IntKind.u8.wrap (IntKind.i64.wrap ((asI (c.getD (i * 3 + 1) PV.nilp)).tdiv 256))), PV.int IntKind.u8 (IntKind.u8.wrap ((asI (c.getD (i * 3 + 1) PV.nilp)).tmod 256))]) (3 + slLen (c.getD (i * 3 + 1 + 1) PV.nilp) + 2))))
                            else
                              (ass (oldL 0 c) <|
                              ass (oldL 0 c) <|
                                ass (oldL 0 (PV.int IntKind.u8 (IntKind.u8.wrap (asI (c.getD (i * 3) PV.nilp))) :: PV.int IntKind.u8 (IntKind.u8.wrap (IntKind.i64.wrap ((↑(slLen (c.getD (i * 3 + 1 + 1) PV.nilp)) : Int).tdiv 256))) :: PV.int IntKind.u8 (IntKind.u8.wrap ((↑(slLen (c.getD (i * 3 + 1 + 1) PV.nilp)) : Int).tmod 256)) :: slCells (c.getD (i * 3 + 1 + 1) PV.nilp))) <|
                                  L9b H9 N (m) (c) (n) (IntKind.i64.wrap ((↑i : Int) + 1)) (PV.int IntKind.u8 (IntKind.u8.wrap (asI (c.getD (i * 3) PV.nilp))) :: PV.int IntKind.u8 (IntKind.u8.wrap (IntKind.i64.wrap ((↑(slLen (c.getD (i * 3 + 1 + 1) PV.nilp)) : Int).tdiv 256))) :: PV.int IntKind.u8 (IntKind.u8.wrap ((↑(slLen (c.getD (i * 3 + 1 + 1) PV.nilp)) : Int).tmod 256)) :: slCells (c.getD (i * 3 + 1 + 1) PV.nilp)) (3 + slLen (c.getD (i * 3 + 1 + 1) PV.nilp)))))))
            else
              (bif asI (c.getD (i * 3) PV.nilp) == 3 then
                (bif decide ((↑(slLen (c.getD (i * 3 + 1 + 1) PV.nilp)) : Int) > 65535) then
                  (some (PV.tup [PV.sl [] 1 0 none, PV.int IntKind.i64 3]))
                else
                  (ass (oldL 2 (slCells (c.getD (i * 3 + 1 + 1) PV.nilp))) <|
                  ass ((slCells (c.getD (i * 3 + 1 + 1) PV.nilp)).length == slLen (c.getD (i * 3 + 1 + 1) PV.nilp) * 1) <|
                    bif decide (slLen (c.getD (i * 3 + 1 + 1) PV.nilp) = 0) then
                        (bif asI (c.getD (i * 3) PV.nilp) == 2 then
                          (bif decide (asI (c.getD (i * 3 + 1) PV.nilp) ≥ 0) then
                            (bif decide (asI (c.getD (i * 3 + 1) PV.nilp) < 255) then
                              (bif asI (c.getD (i * 3) PV.nilp) == 4 then
                                (bif decide (asI (c.getD (i * 3 + 1) PV.nilp) < 0) then
                                  (some (PV.tup [PV.sl [] 1 0 none, PV.int IntKind.i64 1]))
                                else
                                  (bif decide (asI (c.getD (i * 3 + 1) PV.nilp) > 65535) then
                                    (some (PV.tup [PV.sl [] 1 0 none, PV.int IntKind.i64 1]))
                                  else
                                    (ass (oldL 0 c) <|
                                    ass (oldL 0 c) <|
                                      L9b H9 N (m) (c) (n) (IntKind.i64.wrap ((↑i : Int) + 1)) ([PV.int IntKind.u8 (IntKind.u8.wrap (asI (c.getD (i * 3) PV.nilp))), PV.int IntKind.u8 (IntKind.u8.wrap (IntKind.i64.wrap ((↑(slLen (c.getD (i * 3 + 1 + 1) PV.nilp)) : Int).tdiv 256))), PV.int IntKind.u8 (IntKind.u8.wrap ((↑(slLen (c.getD (i * 3 + 1 + 1) PV.nilp)) : Int).tmod 256)), PV.int IntKind.u8 (IntKind.u8.wrap (asI (c.getD (i * 3 + 1) PV.nilp))), PV.int IntKind.u8 (IntKind.u8.wrap (IntKind.i64.wrap ((asI (c.getD (i * 3 + 1) PV.nilp)).tdiv 256))), PV.int IntKind.u8 (IntKind.u8.wrap ((asI (c.getD (i * 3 + 1) PV.nilp)).tmod 256))]) (6))))
                              else
                                (ass (oldL 0 c) <|
                                ass (oldL 0 c) <|
                                  L9b H9 N (m) (c) (n) (IntKind.i64.wrap ((↑i : Int) + 1)) ([PV.int IntKind.u8 (IntKind.u8.wrap (asI (c.getD (i * 3) PV.nilp))), PV.int IntKind.u8 (IntKind.u8.wrap (IntKind.i64.wrap ((↑(slLen (c.getD (i * 3 + 1 + 1) PV.nilp)) : Int).tdiv 256))), PV.int IntKind.u8 (IntKind.u8.wrap ((↑(slLen (c.getD (i * 3 + 1 + 1) PV.nilp)) : Int).tmod 256)), PV.int IntKind.u8 (IntKind.u8.wrap (asI (c.getD (i * 3 + 1) PV.nilp)))]) (4)))
                            else
                              (bif asI (c.getD (i * 3) PV.nilp) == 4 then
                                (bif decide (asI (c.getD (i * 3 + 1) PV.nilp) < 0) then
                                  (some (PV.tup [PV.sl [] 1 0 none, PV.int IntKind.i64 1]))
                                else
                                  (bif decide (asI (c.getD (i * 3 + 1) PV.nilp) > 65535) then
                                    (some (PV.tup [PV.sl [] 1 0 none, PV.int IntKind.i64 1]))
                                  else
                                    (ass (oldL 0 c) <|
                                    ass (oldL 0 c) <|
                                      L9b H9 N (m) (c) (n) (IntKind.i64.wrap ((↑i : Int) + 1)) ([PV.int IntKind.u8 (IntKind.u8.wrap (asI (c.getD (i * 3) PV.nilp))), PV.int IntKind.u8 (IntKind.u8.wrap (IntKind.i64.wrap ((↑(slLen (c.getD (i * 3 + 1 + 1) PV.nilp)) : Int).tdiv 256))), PV.int IntKind.u8 (IntKind.u8.wrap ((↑(slLen (c.getD (i * 3 + 1 + 1) PV.nilp)) : Int).tmod 256)), PV.int IntKind.u8 255, PV.int IntKind.u8 (IntKind.u8.wrap (IntKind.i64.wrap ((asI (c.getD (i * 3 + 1) PV.nilp)).tdiv 256))), PV.int IntKind.u8 (IntKind.u8.wrap ((asI (c.getD (i * 3 + 1) PV.nilp)).tmod 256))]) (6))))
                              else
                                (ass (oldL 0 c) <|
                                ass (oldL 0 c) <|
                                  L9b H9 N (m) (c) (n) (IntKind.i64.wrap ((↑i : Int) + 1)) ([PV.int IntKind.u8 (IntKind.u8.wrap (asI (c.getD (i * 3) PV.nilp))), PV.int IntKind.u8 (IntKind.u8.wrap (IntKind.i64.wrap ((↑(slLen (c.getD (i * 3 + 1 + 1) PV.nilp)) : Int).tdiv 256))), PV.int IntKind.u8 (IntKind.u8.wrap ((↑(slLen (c.getD (i * 3 + 1 + 1) PV.nilp)) : Int).tmod 256)), PV.int IntKind.u8 255]) (4))))
                          else
                            (bif asI (c.getD (i * 3) PV.nilp) == 4 then
                              (bif decide (asI (c.getD (i * 3 + 1) PV.nilp) < 0) then
                                (some (PV.tup [PV.sl [] 1 0 none, PV.int IntKind.i64 1]))
                              else
                                (bif decide (asI (c.getD (i * 3 + 1) PV.nilp) > 65535) then
                                  (some (PV.tup [PV.sl [] 1 0 none, PV.int IntKind.i64 1]))
                                else
                                  (ass (oldL 0 c) <|
                                  ass (oldL 0 c) <|
                                    L9b H9 N (m) (c) (n) (IntKind.i64.wrap ((↑i : Int) + 1)) ([PV.int IntKind.u8 (IntKind.u8.wrap (asI (c.getD (i * 3) PV.nilp))), PV.int IntKind.u8 (IntKind.u8.wrap (IntKind.i64.wrap ((↑(slLen (c.getD (i * 3 + 1 + 1) PV.nilp)) : Int).tdiv 256))), PV.int IntKind.u8 (IntKind.u8.wrap ((↑(slLen (c.getD (i * 3 + 1 + 1) PV.nilp)) : Int).tmod 256)), PV.int IntKind.u8 255, PV.int IntKind.u8 (IntKind.u8.wrap (IntKind.i64.wrap ((asI (c.getD (i * 3 + 1) PV.nilp)).tdiv 256))), PV.int IntKind.u8 (IntKind.u8.wrap ((asI (c.getD (i * 3 + 1) PV.nilp)).tmod 256))]) (6))))
                            else
                              (ass (oldL 0 c) <|
                              ass (oldL 0 c) <|
                                L9b H9 N (m) (c) (n) (IntKind.i64.wrap ((↑i : Int) + 1)) ([PV.int IntKind.u8 (IntKind.u8.wrap (asI (c.getD (i * 3) PV.nilp))), PV.int IntKind.u8 (IntKind.u8.wrap (IntKind.i64.wrap ((↑(slLen (c.getD (i * 3 + 1 + 1) PV.nilp)) : Int).tdiv 256))), PV.int IntKind.u8 (IntKind.u8.wrap ((↑(slLen (c.getD (i * 3 + 1 + 1) PV.nilp)) : Int).tmod 256)), PV.int IntKind.u8 255]) (4))))
                        else
                          (bif asI (c.getD (i * 3) PV.nilp) == 4 then
                            (bif decide (asI (c.getD (i * 3 + 1) PV.nilp) < 0) then
                              (some (PV.tup [PV.sl [] 1 0 none, PV.int IntKind.i64 1]))
                            else
                              (bif decide (asI (c.getD (i * 3 + 1) PV.nilp) > 65535) then
                                (some (PV.tup [PV.sl [] 1 0 none, PV.int IntKind.i64 1]))
                              else
                                (ass (oldL 0 c) <|
                                ass (oldL 0 c) <|
                                  L9b H9 N (m) (c) (n) (IntKind.i64.wrap ((↑i : Int) + 1)) ([PV.int IntKind.u8 (IntKind.u8.wrap (asI (c.getD (i * 3) PV.nilp))), PV.int IntKind.u8 (IntKind.u8.wrap (IntKind.i64.wrap ((↑(slLen (c.getD (i * 3 + 1 + 1) PV.nilp)) : Int).tdiv 256))), PV.int IntKind.u8 (IntKind.u8.wrap ((↑(slLen (c.getD (i * 3 + 1 + 1) PV.nilp)) : Int).tmod 256)), PV.int IntKind.u8 (IntKind.u8.wrap (IntKind.i64.wrap ((asI (c.getD (i * 3 + 1) PV.nilp)).tdiv 256))), PV.int IntKind.u8 (IntKind.u8.wrap ((asI (c.getD (i * 3 + 1) PV.nilp)).tmod 256))]) (5))))
                          else
                            (ass (oldL 0 c) <|
                            ass (oldL 0 c) <|
                              L9b H9 N (m) (c) (n) (IntKind.i64.wrap ((↑i : Int) + 1)) ([PV.int IntKind.u8 (IntKind.u8.wrap (asI (c.getD (i * 3) PV.nilp))), PV.int IntKind.u8 (IntKind.u8.wrap (IntKind.i64.wrap ((↑(slLen (c.getD (i * 3 + 1 + 1) PV.nilp)) : Int).tdiv 256))), PV.int IntKind.u8 (IntKind.u8.wrap ((↑(slLen (c.getD (i * 3 + 1 + 1) PV.nilp)) : Int).tmod 256))]) (3))))
                      else
                        (ass (3 == 3 && (decide (3 ≤ 1048576) && (decide (slLen (c.getD (i * 3 + 1 + 1) PV.nilp) ≤ 1048576) && decide (3 ≤ 3)))) <|
                        ass (!decide (3 + slLen (c.getD (i * 3 + 1 + 1) PV.nilp) ≤ 3)) <|
                          bif asI (c.getD (i * 3) PV.nilp) == 2 then
                              (bif decide (asI (c.getD (i * 3 + 1) PV.nilp) ≥ 0) then
                                (bif decide (asI (c.getD (i * 3 + 1) PV.nilp) < 255) then
                                  (ass (3 + slLen (c.getD (i * 3 + 1 + 1) PV.nilp) == 3 + slLen (c.getD (i * 3 + 1 + 1) PV.nilp) && (decide (3 + slLen (c.getD (i * 3 + 1 + 1) PV.nilp) ≤ 1048576) && (decide (1 ≤ 1048576) && decide (0 + (3 + slLen (c.getD (i * 3 + 1 + 1) PV.nilp)) * 1 ≤ (PV.int IntKind.u8 (IntKind.u8.wrap (asI (c.getD (i * 3) PV.nilp))) :: PV.int IntKind.u8 (IntKind.u8.wrap (IntKind.i64.wrap ((↑(slLen (c.getD (i * 3 + 1 + 1) PV.nilp)) : Int).tdiv 256))) :: PV.int IntKind.u8 (IntKind.u8.wrap ((↑(slLen (c.getD (i * 3 + 1 + 1) PV.nilp)) : Int).tmod 256)) :: slCells (c.getD (i * 3 + 1 + 1) PV.nilp)).length)))) <|
                                  ass (!decide (0 + (3 + slLen (c.getD (i * 3 + 1 + 1) PV.nilp)) + 1 ≤ 3 + slLen (c.getD (i * 3 + 1 + 1) PV.nilp))) <|
                                    bif asI (c.getD (i * 3) PV.nilp) == 4 then
                                        (bif decide (asI (c.getD (i * 3 + 1) PV.nilp) < 0) then
                                          (some (PV.tup [PV.sl [] 1 0 none, PV.int IntKind.i64 1]))
                                        else
                                          (bif decide (asI (c.getD (i * 3 + 1) PV.nilp) > 65535) then
                                            (some (PV.tup [PV.sl [] 1 0 none, PV.int IntKind.i64 1]))
                                          else
                                            (ass (3 + slLen (c.getD (i * 3 + 1 + 1) PV.nilp) + 1 == 3 + slLen (c.getD (i * 3 + 1 + 1) PV.nilp) + 1 && (decide (3 + slLen (c.getD (i * 3 + 1 + 1) PV.nilp) + 1 ≤ 1048576) && (decide (2 ≤ 1048576) && decide (0 + (3 + slLen (c.getD (i * 3 + 1 + 1) PV.nilp) + 1) * 1 ≤ ((List.take ((3 + slLen (c.getD (i * 3 + 1 + 1) PV.nilp)) * 1) (PV.int IntKind.u8 (IntKind.u8.wrap (asI (c.getD (i * 3) PV.nilp))) :: PV.int IntKind.u8 (IntKind.u8.wrap (IntKind.i64.wrap ((↑(slLen (c.getD (i * 3 + 1 + 1) PV.nilp)) : Int).tdiv 256))) :: PV.int IntKind.u8 (IntKind.u8.wrap ((↑(slLen (c.getD (i * 3 + 1 + 1) PV.nilp)) : Int).tmod 256)) :: slCells (c.getD (i * 3 + 1 + 1) PV.nilp))).append [PV.int IntKind.u8 (IntKind.u8.wrap (asI (c.getD (i * 3 + 1) PV.nilp)))]).length)))) <|
                                            ass (!decide (0 + (3 + slLen (c.getD (i * 3 + 1 + 1) PV.nilp) + 1) + 2 ≤ 3 + slLen (c.getD (i * 3 + 1 + 1) PV.nilp) + 1)) <|
                                              ass (oldL 0 c) <|
                                                ass (oldL 0 c) <|
                                                  ass (oldL 0 ((List.take ((3 + slLen (c.getD (i * 3 + 1 + 1) PV.nilp) + 1) * 1) ((List.take ((3 + slLen (c.getD (i * 3 + 1 + 1) PV.nilp)) * 1) (PV.int IntKind.u8 (IntKind.u8.wrap (asI (c.getD (i * 3) PV.nilp))) :: PV.int IntKind.u8 (IntKind.u8.wrap (IntKind.i64.wrap ((↑(slLen (c.getD (i * 3 + 1 + 1) PV.nilp)) : Int).tdiv 256))) :: PV.int IntKind.u8 (IntKind.u8.wrap ((↑(slLen (c.getD (i * 3 + 1 + 1) PV.nilp)) : Int).tmod 256)) :: slCells (c.getD (i * 3 + 1 + 1) PV.nilp))).append [PV.int IntKind.u8 (IntKind.u8.wrap (asI (c.getD (i * 3 + 1) PV.nilp)))])).append [PV.int IntKind.u8 (IntKind.u8.wrap (IntKind.i64.wrap ((asI (c.getD (i * 3 + 1) PV.nilp)).tdiv 256))), PV.int IntKind.u8 (IntKind.u8.wrap ((asI (c.getD (i * 3 + 1) PV.nilp)).tmod 256))])) <|
                                                    L9b H9 N (m) (c) (n) (IntKind.i64.wrap ((↑i : Int) + 1)) ((List.take ((3 + slLen (c.getD (i * 3 + 1 + 1) PV.nilp) + 1) * 1) ((List.take ((3 + slLen (c.getD (i * 3 + 1 + 1) PV.nilp)) * 1) (PV.int IntKind.u8 (IntKind.u8.wrap (asI (c.getD (i * 3) PV.nilp))) :: PV.int IntKind.u8 (IntKind.u8.wrap (IntKind.i64.wrap ((↑(slLen (c.getD (i * 3 + 1 + 1) PV.nilp)) : Int).tdiv 256))) :: PV.int IntKind.u8 (IntKind.u8.wrap ((↑(slLen (c.getD (i * 3 + 1 + 1) PV.nilp)) : Int).tmod 256)) :: slCells (c.getD (i * 3 + 1 + 1) PV.nilp))).append [PV.int IntKind.u8 (IntKind.u8.wrap (asI (c.getD (i * 3 + 1) PV.nilp)))])).append [PV.int IntKind.u8 (IntKind.u8.wrap (IntKind.i64.wrap ((asI (c.getD (i * 3 + 1) PV.nilp)).tdiv 256))), PV.int IntKind.u8 (IntKind.u8.wrap ((asI (c.getD (i * 3 + 1) PV.nilp)).tmod 256))]) (3 + slLen (c.getD (i * 3 + 1 + 1) PV.nilp) + 1 + 2))))
                                      else
                                        (ass (oldL 0 c) <|
                                        ass (oldL 0 c) <|
                                          ass (oldL 0 ((List.take ((3 + slLen (c.getD (i * 3 + 1 + 1) PV.nilp)) * 1) (PV.int IntKind.u8 (IntKind.u8.wrap (asI (c.getD (i * 3) PV.nilp))) :: PV.int IntKind.u8 (IntKind.u8.wrap (IntKind.i64.wrap ((↑(slLen (c.getD (i * 3 + 1 + 1) PV.nilp)) : Int).tdiv 256))) :: PV.int IntKind.u8 (IntKind.u8.wrap ((↑(slLen (c.getD (i * 3 + 1 + 1) PV.nilp)) : Int).tmod 256)) :: slCells (c.getD (i * 3 + 1 + 1) PV.nilp))).append [PV.int IntKind.u8 (IntKind.u8.wrap (asI (c.getD (i * 3 + 1) PV.nilp)))])) <|
                                            L9b H9 N (m) (c) (n) (IntKind.i64.wrap ((↑i : Int) + 1)) ((List.take ((3 + slLen (c.getD (i * 3 + 1 + 1) PV.nilp)) * 1) (PV.int IntKind.u8 (IntKind.u8.wrap (asI (c.getD (i * 3) PV.nilp))) :: PV.int IntKind.u8 (IntKind.u8.wrap (IntKind.i64.wrap ((↑(slLen (c.getD (i * 3 + 1 + 1) PV.nilp)) : Int).tdiv 256))) :: PV.int IntKind.u8 (IntKind.u8.wrap ((↑(slLen (c.getD (i * 3 + 1 + 1) PV.nilp)) : Int).tmod 256)) :: slCells (c.getD (i * 3 + 1 + 1) PV.nilp))).append [PV.int IntKind.u8 (IntKind.u8.wrap (asI (c.getD (i * 3 + 1) PV.nilp)))]) (3 + slLen (c.getD (i * 3 + 1 + 1) PV.nilp) + 1)))
                                else
                                  (ass (3 + slLen (c.getD (i * 3 + 1 + 1) PV.nilp) == 3 + slLen (c.getD (i * 3 + 1 + 1) PV.nilp) && (decide (3 + slLen (c.getD (i * 3 + 1 + 1) PV.nilp) ≤ 1048576) && (decide (1 ≤ 1048576) && decide (0 + (3 + slLen (c.getD (i * 3 + 1 + 1) PV.nilp)) * 1 ≤ (PV.int IntKind.u8 (IntKind.u8.wrap (asI (c.getD (i * 3) PV.nilp))) :: PV.int IntKind.u8 (IntKind.u8.wrap (IntKind.i64.wrap ((↑(slLen (c.getD (i * 3 + 1 + 1) PV.nilp)) : Int).tdiv 256))) :: PV.int IntKind.u8 (IntKind.u8.wrap ((↑(slLen (c.getD (i * 3 + 1 + 1) PV.nilp)) : Int).tmod 256)) :: slCells (c.getD (i * 3 + 1 + 1) PV.nilp)).length)))) <|
                                  ass (!decide (0 + (3 + slLen (c.getD (i * 3 + 1 + 1) PV.nilp)) + 1 ≤ 3 + slLen (c.getD (i * 3 + 1 + 1) PV.nilp))) <|
                                    bif asI (c.getD (i * 3) PV.nilp) == 4 then
                                        (bif decide (asI (c.getD (i * 3 + 1) PV.nilp) < 0) then
                                          (some (PV.tup [PV.sl [] 1 0 none, PV.int IntKind.i64 1]))
                                        else
                                          (bif decide (asI (c.getD (i * 3 + 1) PV.nilp) > 65535) then
                                            (some (PV.tup [PV.sl [] 1 0 none, PV.int IntKind.i64 1]))
                                          else
                                            (ass (3 + slLen (c.getD (i * 3 + 1 + 1) PV.nilp) + 1 == 3 + slLen (c.getD (i * 3 + 1 + 1) PV.nilp) + 1 && (decide (3 + slLen (c.getD (i * 3 + 1 + 1) PV.nilp) + 1 ≤ 1048576) && (decide (2 ≤ 1048576) && decide (0 + (3 + slLen (c.getD (i * 3 + 1 + 1) PV.nilp) + 1) * 1 ≤ ((List.take ((3 + slLen (c.getD (i * 3 + 1 + 1) PV.nilp)) * 1) (PV.int IntKind.u8 (IntKind.u8.wrap (asI (c.getD (i * 3) PV.nilp))) :: PV.int IntKind.u8 (IntKind.u8.wrap (IntKind.i64.wrap ((↑(slLen (c.getD (i * 3 + 1 + 1) PV.nilp)) : Int).tdiv 256))) :: PV.int IntKind.u8 (IntKind.u8.wrap ((↑(slLen (c.getD (i * 3 + 1 + 1) PV.nilp)) : Int).tmod 256)) :: slCells (c.getD (i * 3 + 1 + 1) PV.nilp))).append [PV.int IntKind.u8 255]).length)))) <|
                                            ass (!decide (0 + (3 + slLen (c.getD (i * 3 + 1 + 1) PV.nilp) + 1) + 2 ≤ 3 + slLen (c.getD (i * 3 + 1 + 1) PV.nilp) + 1)) <|
                                              ass (oldL 0 c) <|
                                                ass (oldL 0 c) <|
                                                  ass (oldL 0 ((List.take ((3 + slLen (c.getD (i * 3 + 1 + 1) PV.nilp) + 1) * 1) ((List.take ((3 + slLen (c.getD (i * 3 + 1 + 1) PV.nilp)) * 1) (PV.int IntKind.u8 (IntKind.u8.wrap (asI (c.getD (i * 3) PV.nilp))) :: PV.int IntKind.u8 (IntKind.u8.wrap (IntKind.i64.wrap ((↑(slLen (c.getD (i * 3 + 1 + 1) PV.nilp)) : Int).tdiv 256))) :: PV.int IntKind.u8 (IntKind.u8.wrap ((↑(slLen (c.getD (i * 3 + 1 + 1) PV.nilp)) : Int).tmod 256)) :: slCells (c.getD (i * 3 + 1 + 1) PV.nilp))).append [PV.int IntKind.u8 255])).append [PV.int IntKind.u8 (IntKind.u8.wrap (IntKind.i64.wrap ((asI (c.getD (i * 3 + 1) PV.nilp)).tdiv 256))), PV.int IntKind.u8 (IntKind.u8.wrap ((asI (c.getD (i * 3 + 1) PV.nilp)).tmod 256))])) <|
                                                    L9b H9 N (m) (c) (n) (IntKind.i64.wrap ((↑i : Int) + 1)) ((List.take ((3 + slLen (c.getD (i * 3 + 1 + 1) PV.nilp) + 1) * 1) ((List.take ((3 + slLen (c.getD (i * 3 + 1 + 1) PV.nilp)) * 1) (PV.int IntKind.u8 (IntKind.u8.wrap (asI (c.getD (i * 3) PV.nilp))) :: PV.int IntKind.u8 (IntKind.u8.wrap (IntKind.i64.wrap ((↑(slLen (c.getD (i * 3 + 1 + 1) PV.nilp)) : Int).tdiv 256))) :: PV.int IntKind.u8 (IntKind.u8.wrap ((↑(slLen (c.getD (i * 3 + 1 + 1) PV.nilp)) : Int).tmod 256)) :: slCells (c.getD (i * 3 + 1 + 1) PV.nilp))).append [PV.int IntKind.u8 255])).append [PV.int IntKind.u8 (IntKind.u8.wrap (IntKind.i64.wrap ((asI (c.getD (i * 3 + 1) PV.nilp)).tdiv 256))), PV.int IntKind.u8 (IntKind.u8.wrap ((asI (c.getD (i * 3 + 1) PV.nilp)).tmod 256))]) (3 + slLen (c.getD (i * 3 + 1 + 1) PV.nilp) + 1 + 2))))
                                      else
                                        (ass (oldL 0 c) <|
                                        ass (oldL 0 c) <|
                                          ass (oldL 0 ((List.take ((3 + slLen (c.getD (i * 3 + 1 + 1) PV.nilp)) * 1) (PV.int IntKind.u8 (IntKind.u8.wrap (asI (c.getD (i * 3) PV.nilp))) :: PV.int IntKind.u8 (IntKind.u8.wrap (IntKind.i64.wrap ((↑(slLen (c.getD (i * 3 + 1 + 1) PV.nilp)) : Int).tdiv 256))) :: PV.int IntKind.u8 (IntKind.u8.wrap ((↑(slLen (c.getD (i * 3 + 1 + 1) PV.nilp)) : Int).tmod 256)) :: slCells (c.getD (i * 3 + 1 + 1) PV.nilp))).append [PV.int IntKind.u8 255])) <|
                                            L9b H9 N (m) (c) (n) (IntKind.i64.wrap ((↑i : Int) + 1)) ((List.take ((3 + slLen (c.getD (i * 3 + 1 + 1) PV.nilp)) * 1) (PV.int IntKind.u8 (IntKind.u8.wrap (asI (c.getD (i * 3) PV.nilp))) :: PV.int IntKind.u8 (IntKind.u8.wrap (IntKind.i64.wrap ((↑(slLen (c.getD (i * 3 + 1 + 1) PV.nilp)) : Int).tdiv 256))) :: PV.int IntKind.u8 (IntKind.u8.wrap ((↑(slLen (c.getD (i * 3 + 1 + 1) PV.nilp)) : Int).tmod 256)) :: slCells (c.getD (i * 3 + 1 + 1) PV.nilp))).append [PV.int IntKind.u8 255]) (3 + slLen (c.getD (i * 3 + 1 + 1) PV.nilp) + 1))))
                              else
                                (ass (3 + slLen (c.getD (i * 3 + 1 + 1) PV.nilp) == 3 + slLen (c.getD (i * 3 + 1 + 1) PV.nilp) && (decide (3 + slLen (c.getD (i * 3 + 1 + 1) PV.nilp) ≤ 1048576) && (decide (1 ≤ 1048576) && decide (0 + (3 + slLen (c.getD (i * 3 + 1 + 1) PV.nilp)) * 1 ≤ (PV.int IntKind.u8 (IntKind.u8.wrap (asI (c.getD (i * 3) PV.nilp))) :: PV.int IntKind.u8 (IntKind.u8.wrap (IntKind.i64.wrap ((↑(slLen (c.getD (i * 3 + 1 + 1) PV.nilp)) : Int).tdiv 256))) :: PV.int IntKind.u8 (IntKind.u8.wrap ((↑(slLen (c.getD (i * 3 + 1 + 1) PV.nilp)) : Int).tmod 256)) :: slCells (c.getD (i * 3 + 1 + 1) PV.nilp)).length)))) <|
                                ass (!decide (0 + (3 + slLen (c.getD (i * 3 + 1 + 1) PV.nilp)) + 1 ≤ 3 + slLen (c.getD (i * 3 + 1 + 1) PV.nilp))) <|
                                  bif asI (c.getD (i * 3) PV.nilp) == 4 then
                                      (bif decide (asI (c.getD (i * 3 + 1) PV.nilp) < 0) then
                                        (some (PV.tup [PV.sl [] 1 0 none, PV.int IntKind.i64 1]))
                                      else
                                        (bif decide (asI (c.getD (i * 3 + 1) PV.nilp) > 65535) then
                                          (some (PV.tup [PV.sl [] 1 0 none, PV.int IntKind.i64 1]))
                                        else
                                          (ass (3 + slLen (c.getD (i * 3 + 1 + 1) PV.nilp) + 1 == 3 + slLen (c.getD (i * 3 + 1 + 1) PV.nilp) + 1 && (decide (3 + slLen (c.getD (i * 3 + 1 + 1) PV.nilp) + 1 ≤ 1048576) && (decide (2 ≤ 1048576) && decide (0 + (3 + slLen (c.getD (i * 3 + 1 + 1) PV.nilp) + 1) * 1 ≤ ((List.take ((3 + slLen (c.getD (i * 3 + 1 + 1) PV.nilp)) * 1) (PV.int IntKind.u8 (IntKind.u8.wrap (asI (c.getD (i * 3) PV.nilp))) :: PV.int IntKind.u8 (IntKind.u8.wrap (IntKind.i64.wrap ((↑(slLen (c.getD (i * 3 + 1 + 1) PV.nilp)) : Int).tdiv 256))) :: PV.int IntKind.u8 (IntKind.u8.wrap ((↑(slLen (c.getD (i * 3 + 1 + 1) PV.nilp)) : Int).tmod 256)) :: slCells (c.getD (i * 3 + 1 + 1) PV.nilp))).append [PV.int IntKind.u8 255]).length)))) <|
                                          ass (!decide (0 + (3 + slLen (c.getD (i * 3 + 1 + 1) PV.nilp) + 1) + 2 ≤ 3 + slLen (c.getD (i * 3 + 1 + 1) PV.nilp) + 1)) <|
                                            ass (oldL 0 c) <|
                                              ass (oldL 0 c) <|
                                                ass (oldL 0 ((List.take ((3 + slLen (c.getD (i * 3 + 1 + 1) PV.nilp) + 1) * 1) ((List.take ((3 + slLen (c.getD (i * 3 + 1 + 1) PV.nilp)) * 1) (PV.int IntKind.u8 (IntKind.u8.wrap (asI (c.getD (i * 3) PV.nilp))) :: PV.int IntKind.u8 (IntKind.u8.wrap (IntKind.i64.wrap ((↑(slLen (c.getD (i * 3 + 1 + 1) PV.nilp)) : Int).tdiv 256))) :: PV.int IntKind.u8 (IntKind.u8.wrap ((↑(slLen (c.getD (i * 3 + 1 + 1) PV.nilp)) : Int).tmod 256)) :: slCells (c.getD (i * 3 + 1 + 1) PV.nilp))).append [PV.int IntKind.u8 255])).append [PV.int IntKind.u8 (IntKind.u8.wrap (IntKind.i64.wrap ((asI (c.getD (i * 3 + 1) PV.nilp)).tdiv 256))), PV.int IntKind.u8 (IntKind.u8.wrap ((asI (c.getD (i * 3 + 1) PV.nilp)).tmod 256))])) <|
                                                  L9b H9 N (m) (c) (n) (IntKind.i64.wrap ((↑i : Int) + 1)) ((List.take ((3 + slLen (c.getD (i * 3 + 1 + 1) PV.nilp) + 1) * 1) ((List.take ((3 + slLen (c.getD (i * 3 + 1 + 1) PV.nilp)) * 1) (PV.int IntKind.u8 (IntKind.u8.wrap (asI (c.getD (i * 3) PV.nilp))) :: PV.int IntKind.u8 (IntKind.u8.wrap (IntKind.i64.wrap ((↑(slLen (c.getD (i * 3 + 1 + 1) PV.nilp)) : Int).tdiv 256))) :: PV.int IntKind.u8 (IntKind.u8.wrap ((↑(slLen (c.getD (i * 3 + 1 + 1) PV.nilp)) : Int).tmod 256)) :: slCells (c.getD (i * 3 + 1 + 1) PV.nilp))).append [PV.int IntKind.u8 255])).append [PV.int IntKind.u8 (IntKind.u8.wrap (IntKind.i64.wrap ((asI (c.getD (i * 3 + 1) PV.nilp)).tdiv 256))), PV.int IntKind.u8 (IntKind.u8.wrap ((asI (c.getD (i * 3 + 1) PV.nilp)).tmod 256))]) (3 + slLen (c.getD (i * 3 + 1 + 1) PV.nilp) + 1 + 2))))
                                    else
                                      (ass (oldL 0 c) <|
                                      ass (oldL 0 c) <|
                                        ass (oldL 0 ((List.take ((3 + slLen (c.getD (i * 3 + 1 + 1) PV.nilp)) * 1) (PV.int IntKind.u8 (IntKind.u8.wrap (asI (c.getD (i * 3) PV.nilp))) :: PV.int IntKind.u8 (IntKind.u8.wrap (IntKind.i64.wrap ((↑(slLen (c.getD (i * 3 + 1 + 1) PV.nilp)) : Int).tdiv 256))) :: PV.int IntKind.u8 (IntKind.u8.wrap ((↑(slLen (c.getD (i * 3 + 1 + 1) PV.nilp)) : Int).tmod 256)) :: slCells (c.getD (i * 3 + 1 + 1) PV.nilp))).append [PV.int IntKind.u8 255])) <|
                                          L9b H9 N (m) (c) (n) (IntKind.i64.wrap ((↑i : Int) + 1)) ((List.take ((3 + slLen (c.getD (i * 3 + 1 + 1) PV.nilp)) * 1) (PV.int IntKind.u8 (IntKind.u8.wrap (asI (c.getD (i * 3) PV.nilp))) :: PV.int IntKind.u8 (IntKind.u8.wrap (IntKind.i64.wrap ((↑(slLen (c.getD (i * 3 + 1 + 1) PV.nilp)) : Int).tdiv 256))) :: PV.int IntKind.u8 (IntKind.u8.wrap ((↑(slLen (c.getD (i * 3 + 1 + 1) PV.nilp)) : Int).tmod 256)) :: slCells (c.getD (i * 3 + 1 + 1) PV.nilp))).append [PV.int IntKind.u8 255]) (3 + slLen (c.getD (i * 3 + 1 + 1) PV.nilp) + 1))))
                            else
                              (bif asI (c.getD (i * 3) PV.nilp) == 4 then
                                (bif decide (asI (c.getD (i * 3 + 1) PV.nilp) < 0) then
                                  (some (PV.tup [PV.sl [] 1 0 none, PV.int IntKind.i64 1]))
                                else
                                  (bif decide (asI (c.getD (i * 3 + 1) PV.nilp) > 65535) then
                                    (some (PV.tup [PV.sl [] 1 0 none, PV.int IntKind.i64 1]))
                                  else
                                    (ass (3 + slLen (c.getD (i * 3 + 1 + 1) PV.nilp) == 3 + slLen (c.getD (i * 3 + 1 + 1) PV.nilp) && (decide (3 + slLen (c.getD (i * 3 + 1 + 1) PV.nilp) ≤ 1048576) && (decide (2 ≤ 1048576) && decide (0 + (3 + slLen (c.getD (i * 3 + 1 + 1) PV.nilp)) * 1 ≤ (PV.int IntKind.u8 (IntKind.u8.wrap (asI (c.getD (i * 3) PV.nilp))) :: PV.int IntKind.u8 (IntKind.u8.wrap (IntKind.i64.wrap ((↑(slLen (c.getD (i * 3 + 1 + 1) PV.nilp)) : Int).tdiv 256))) :: PV.int IntKind.u8 (IntKind.u8.wrap ((↑(slLen (c.getD (i * 3 + 1 + 1) PV.nilp)) : Int).tmod 256)) :: slCells (c.getD (i * 3 + 1 + 1) PV.nilp)).length)))) <|
                                    ass (!decide (0 + (3 + slLen (c.getD (i * 3 + 1 + 1) PV.nilp)) + 2 ≤ 3 + slLen (c.getD (i * 3 + 1 + 1) PV.nilp))) <|
                                      ass (oldL 0 c) <|
                                        ass (oldL 0 c) <|
                                          ass (oldL 0 ((List.take ((3 + slLen (c.getD (i * 3 + 1 + 1) PV.nilp)) * 1) (PV.int IntKind.u8 (IntKind.u8.wrap (asI (c.getD (i * 3) PV.nilp))) :: PV.int IntKind.u8 (IntKind.u8.wrap (IntKind.i64.wrap ((↑(slLen (c.getD (i * 3 + 1 + 1) PV.nilp)) : Int).tdiv 256))) :: PV.int IntKind.u8 (IntKind.u8.wrap ((↑(slLen (c.getD (i * 3 + 1 + 1) PV.nilp)) : Int).tmod 256)) :: slCells (c.getD (i * 3 + 1 + 1) PV.nilp))).append [PV.int IntKind.u8 (IntKind.u8.wrap (IntKind.i64.wrap ((asI (c.getD (i * 3 + 1) PV.nilp)).tdiv 256))), PV.int IntKind.u8 (IntKind.u8.wrap ((asI (c.getD (i * 3 + 1) PV.nilp)).tmod 256))])) <|
                                            L9b H9 N (m) (c) (n) (IntKind.i64.wrap ((↑i : Int) + 1)) ((List.take ((3 + slLen (c.getD (i * 3 + 1 + 1) PV.nilp)) * 1) (PV.int IntKind.u8 (IntKind.u8.wrap (asI (c.getD (i * 3) PV.nilp))) :: PV.int IntKind.u8 (IntKind.u8.wrap (IntKind.i64.wrap ((↑(slLen (c.getD (i * 3 + 1 + 1) PV.nilp)) : Int).tdiv 256))) :: PV.int IntKind.u8 (IntKind.u8.wrap ((↑(slLen (c.getD (i * 3 + 1 + 1) PV.nilp)) : Int).tmod 256)) :: slCells (c.getD (i * 3 + 1 + 1) PV.nilp))).append [PV.int IntKind.u8 (IntKind.u8.wrap (IntKind.i64.wrap ((asI (c.getD (i * 3 + 1) PV.nilp)).tdiv 256))), PV.int IntKind.u8 (IntKind.u8.wrap ((asI (c.getD (i * 3 + 1) PV.nilp)).tmod 256))]) (3 + slLen (c.getD (i * 3 + 1 + 1) PV.nilp) + 2))))
                              else
                                (ass (oldL 0 c) <|
                                ass (oldL 0 c) <|
                                  ass (oldL 0 (PV.int IntKind.u8 (IntKind.u8.wrap (asI (c.getD (i * 3) PV.nilp))) :: PV.int IntKind.u8 (IntKind.u8.wrap (IntKind.i64.wrap ((↑(slLen (c.getD (i * 3 + 1 + 1) PV.nilp)) : Int).tdiv 256))) :: PV.int IntKind.u8 (IntKind.u8.wrap ((↑(slLen (c.getD (i * 3 + 1 + 1) PV.nilp)) : Int).tmod 256)) :: slCells (c.getD (i * 3 + 1 + 1) PV.nilp))) <|
                                    L9b H9 N (m) (c) (n) (IntKind.i64.wrap ((↑i : Int) + 1)) (PV.int IntKind.u8 (IntKind.u8.wrap (asI (c.getD (i * 3) PV.nilp))) :: PV.int IntKind.u8 (IntKind.u8.wrap (IntKind.i64.wrap ((↑(slLen (c.getD (i * 3 + 1 + 1) PV.nilp)) : Int).tdiv 256))) :: PV.int IntKind.u8 (IntKind.u8.wrap ((↑(slLen (c.getD (i * 3 + 1 + 1) PV.nilp)) : Int).tmod 256)) :: slCells (c.getD (i * 3 + 1 + 1) PV.nilp)) (3 + slLen (c.getD (i * 3 + 1 + 1) PV.nilp)))))))
              else
                (bif asI (c.getD (i * 3) PV.nilp) == 2 then
                  (bif decide (asI (c.getD (i * 3 + 1) PV.nilp) ≥ 0) then
                    (bif decide (asI (c.getD (i * 3 + 1) PV.nilp) < 255) then
                      (bif asI (c.getD (i * 3) PV.nilp) == 4 then
                        (bif decide (asI (c.getD (i * 3 + 1) PV.nilp) < 0) then
                          (some (PV.tup [PV.sl [] 1 0 none, PV.int IntKind.i64 1]))
                        else
                          (bif decide (asI (c.getD (i * 3 + 1) PV.nilp) > 65535) then
                            (some (PV.tup [PV.sl [] 1 0 none, PV.int IntKind.i64 1]))
                          else
                            (ass (oldL 0 c) <|
                            ass (oldL 0 c) <|
                              L9b H9 N (m) (c) (n) (IntKind.i64.wrap ((↑i : Int) + 1)) ([PV.int IntKind.u8 (IntKind.u8.wrap (asI (c.getD (i * 3) PV.nilp))), PV.int IntKind.u8 (IntKind.u8.wrap (asI (c.getD (i * 3 + 1) PV.nilp))), PV.int IntKind.u8 (IntKind.u8.wrap (IntKind.i64.wrap ((asI (c.getD (i * 3 + 1) PV.nilp)).tdiv 256))), PV.int IntKind.u8 (IntKind.u8.wrap ((asI (c.getD (i * 3 + 1) PV.nilp)).tmod 256))]) (4))))
                      else
                        (ass (oldL 0 c) <|
                        ass (oldL 0 c) <|
                          L9b H9 N (m) (c) (n) (IntKind.i64.wrap ((↑i : Int) + 1)) ([PV.int IntKind.u8 (IntKind.u8.wrap (asI (c.getD (i * 3) PV.nilp))), PV.int IntKind.u8 (IntKind.u8.wrap (asI (c.getD (i * 3 + 1) PV.nilp)))]) (2)))
                    else
                      (bif asI (c.getD (i * 3) PV.nilp) == 4 then
                        (bif decide (asI (c.getD (i * 3 + 1) PV.nilp) < 0) then
                          (some (PV.tup [PV.sl [] 1 0 none, PV.int IntKind.i64 1]))
                        else
                          (bif decide (asI (c.getD (i * 3 + 1) PV.nilp) > 65535) then
                            (some (PV.tup [PV.sl [] 1 0 none, PV.int IntKind.i64 1]))
                          else
                            (ass (oldL 0 c) <|
                            ass (oldL 0 c) <|
                              L9b H9 N (m) (c) (n) (IntKind.i64.wrap ((↑i : Int) + 1)) ([PV.int IntKind.u8 (IntKind.u8.wrap (asI (c.getD (i * 3) PV.nilp))), PV.int IntKind.u8 255, PV.int IntKind.u8 (IntKind.u8.wrap (IntKind.i64.wrap ((asI (c.getD (i * 3 + 1) PV.nilp)).tdiv 256))), PV.int IntKind.u8 (IntKind.u8.wrap ((asI (c.getD (i * 3 + 1) PV.nilp)).tmod 256))]) (4))))
                      else
                        (ass (oldL 0 c) <|
                        ass (oldL 0 c) <|
                          L9b H9 N (m) (c) (n) (IntKind.i64.wrap ((↑i : Int) + 1)) ([PV.int IntKind.u8 (IntKind.u8.wrap (asI (c.getD (i * 3) PV.nilp))), PV.int IntKind.u8 255]) (2))))
                  else
                    (bif asI (c.getD (i * 3) PV.nilp) == 4 then
                      (bif decide (asI (c.getD (i * 3 + 1) PV.nilp) < 0) then
                        (some (PV.tup [PV.sl [] 1 0 none, PV.int IntKind.i64 1]))
                      else
                        (bif decide (asI (c.getD (i * 3 + 1) PV.nilp) > 65535) then
                          (some (PV.tup [PV.sl [] 1 0 none, PV.int IntKind.i64 1]))
                        else
                          (ass (oldL 0 c) <|
                          ass (oldL 0 c) <|
                            L9b H9 N (m) (c) (n) (IntKind.i64.wrap ((↑i : Int) + 1)) ([PV.int IntKind.u8 (IntKind.u8.wrap (asI (c.getD (i * 3) PV.nilp))), PV.int IntKind.u8 255, PV.int IntKind.u8 (IntKind.u8.wrap (IntKind.i64.wrap ((asI (c.getD (i * 3 + 1) PV.nilp)).tdiv 256))), PV.int IntKind.u8 (IntKind.u8.wrap ((asI (c.getD (i * 3 + 1) PV.nilp)).tmod 256))]) (4))))
                    else
                      (ass (oldL 0 c) <|
                      ass (oldL 0 c) <|
                        L9b H9 N (m) (c) (n) (IntKind.i64.wrap ((↑i : Int) + 1)) ([PV.int IntKind.u8 (IntKind.u8.wrap (asI (c.getD (i * 3) PV.nilp))), PV.int IntKind.u8 255]) (2))))
                else
                  (bif asI (c.getD (i * 3) PV.nilp) == 4 then
                    (bif decide (asI (c.getD (i * 3 + 1) PV.nilp) < 0) then
                      (some (PV.tup [PV.sl [] 1 0 none, PV.int IntKind.i64 1]))
                    else
                      (bif decide (asI (c.getD (i * 3 + 1) PV.nilp) > 65535) then
                        (some (PV.tup [PV.sl [] 1 0 none, PV.int IntKind.i64 1]))
                      else
                        (ass (oldL 0 c) <|
                        ass (oldL 0 c) <|
                          L9b H9 N (m) (c) (n) (IntKind.i64.wrap ((↑i : Int) + 1)) ([PV.int IntKind.u8 (IntKind.u8.wrap (asI (c.getD (i * 3) PV.nilp))), PV.int IntKind.u8 (IntKind.u8.wrap (IntKind.i64.wrap ((asI (c.getD (i * 3 + 1) PV.nilp)).tdiv 256))), PV.int IntKind.u8 (IntKind.u8.wrap ((asI (c.getD (i * 3 + 1) PV.nilp)).tmod 256))]) (3))))
                  else
                    (ass (oldL 0 c) <|
                    ass (oldL 0 c) <|
                      L9b H9 N (m) (c) (n) (IntKind.i64.wrap ((↑i : Int) + 1)) ([PV.int IntKind.u8 (IntKind.u8.wrap (asI (c.getD (i * 3) PV.nilp)))]) (1))))))))
  else
    (some (PV.tup [PV.sl [] 1 0 none, PV.int IntKind.i64 0]))) := by kernel_rfl

theorem t9b (N : Nat) (m : Nat) (c : List PV) (n : Nat) (i : Nat) (out : List PV) (j : Nat) : L9b H9 N (m + 1) c n (↑i : Int) out j =
  (bif decide ((↑i : Int) < (↑n : Int)) then
    (ass (decide (0 ≤ (↑i : Int)) && decide ((↑i : Int) < (↑n : Int))) <|
    ass (okAt [Kd.int IntKind.i64, Kd.int IntKind.i64, Kd.sl 1] c (i * 3)) <|
      bif decide (asI (c.getD (i * 3) PV.nilp) < 1) then
          (some (PV.tup [PV.sl [] 1 0 none, PV.int IntKind.i64 7]))
        else
          (bif decide (asI (c.getD (i * 3) PV.nilp) > 6) then
            (some (PV.tup [PV.sl [] 1 0 none, PV.int IntKind.i64 7]))
          else
            (ass (j == j && (decide (j ≤ 1048576) && (decide (1 ≤ 1048576) && decide (0 + j * 1 ≤ out.length)))) <|
            ass (!decide (0 + j + 1 ≤ j)) <|
              bif asI (c.getD (i * 3) PV.nilp) == 1 then
                  (bif decide ((↑(slLen (c.getD (i * 3 + 1 + 1) PV.nilp)) : Int) > 65535) then
                    (some (PV.tup [PV.sl [] 1 0 none, PV.int IntKind.i64 3]))
                  else
                    (ass (j + 1 == j + 1 && (decide (j + 1 ≤ 1048576) && (decide (2 ≤ 1048576) && decide (0 + (j + 1) * 1 ≤ ((List.take (j * 1) out).append [PV.int IntKind.u8 (IntKind.u8.wrap (asI (c.getD (i * 3) PV.nilp)))]).length)))) <|
                    ass (!decide (0 + (j + 1) + 2 ≤ j + 1)) <|
                      ass (oldL 2 (slCells (c.getD (i * 3 + 1 + 1) PV.nilp))) <|
                        ass ((slCells (c.getD (i * 3 + 1 + 1) PV.nilp)).length == slLen (c.getD (i * 3 + 1 + 1) PV.nilp) * 1) <|
                          bif decide (slLen (c.getD (i * 3 + 1 + 1) PV.nilp) = 0) then
                              (bif asI (c.getD (i * 3) PV.nilp) == 2 then
                                (bif decide (asI (c.getD (i * 3 + 1) PV.nilp) ≥ 0) then
                                  (bif decide (asI (c.getD (i * 3 + 1) PV.nilp) < 255) then
                                    (ass (j + 1 + 2 == j + 1 + 2 && (decide (j + 1 + 2 ≤ 1048576) && (decide (1 ≤ 1048576) && decide (0 + (j + 1 + 2) * 1 ≤ ((List.take ((j + 1) * 1) ((List.take (j * 1) out).append [PV.int IntKind.u8 (IntKind.u8.wrap (asI (c.getD (i * 3) PV.nilp)))])).append [PV.int IntKind.u8 (IntKind.u8.wrap (IntKind.i64.wrap ((↑(slLen (c.getD (i * 3 + 1 + 1) PV.nilp)) : Int).tdiv 256))), PV.int IntKind.u8 (IntKind.u8.wrap ((↑(slLen (c.getD (i * 3 + 1 + 1) PV.nilp)) : Int).tmod 256))]).length)))) <|
                                    ass (!decide (0 + (j + 1 + 2) + 1 ≤ j + 1 + 2)) <|
                                      bif asI (c.getD (i * 3) PV.nilp) == 4 then
                                          (bif decide (asI (c.getD (i * 3 + 1) PV.nilp) < 0) then
                                            (some (PV.tup [PV.sl [] 1 0 none, PV.int IntKind.i64 1]))
                                          else
                                            (bif decide (asI (c.getD (i * 3 + 1) PV.nilp) > 65535) then
                                              (some (PV.tup [PV.sl [] 1 0 none, PV.int IntKind.i64 1]))
                                            else
                                              (ass (j + 1 + 2 + 1 == j + 1 + 2 + 1 && (decide (j + 1 + 2 + 1 ≤ 1048576) && (decide (2 ≤ 1048576) && decide (0 + (j + 1 + 2 + 1) * 1 ≤ ((List.take ((j + 1 + 2) * 1) ((List.take ((j + 1) * 1) ((List.take (j * 1) out).append [PV.int IntKind.u8 (IntKind.u8.wrap (asI (c.getD (i * 3) PV.nilp)))])).append [PV.int IntKind.u8 (IntKind.u8.wrap (IntKind.i64.wrap ((↑(slLen (c.getD (i * 3 + 1 + 1) PV.nilp)) : Int).tdiv 256))), PV.int IntKind.u8 (IntKind.u8.wrap ((↑(slLen (c.getD (i * 3 + 1 + 1) PV.nilp)) : Int).tmod 256))])).append [PV.int IntKind.u8 (IntKind.u8.wrap (asI (c.getD (i * 3 + 1) PV.nilp)))]).length)))) <|
                                              ass (!decide (0 + (j + 1 + 2 + 1) + 2 ≤ j + 1 + 2 + 1)) <|
                                                ass (oldL 0 c) <|
                                                  ass (oldL 0 c) <|
                                                    ass (oldL 0 ((List.take ((j + 1 + 2 + 1) * 1) ((List.take ((j + 1 + 2) * 1) ((List.take ((j + 1) * 1) ((List.take (j * 1) out).append [PV.int IntKind.u8 (IntKind.u8.wrap (asI (c.getD (i * 3) PV.nilp)))])).append [PV.int IntKind.u8 (IntKind.u8.wrap (IntKind.i64.wrap ((↑(slLen (c.getD (i * 3 + 1 + 1) PV.nilp)) : Int).tdiv 256))), PV.int IntKind.u8 (IntKind.u8.wrap ((↑(slLen (c.getD (i * 3 + 1 + 1) PV.nilp)) : Int).tmod 256))])).append [PV.int IntKind.u8 (IntKind.u8.wrap (asI (c.getD (i * 3 + 1) PV.nilp)))])).append [PV.int IntKind.u8 (IntKind.u8.wrap (IntKind.i64.wrap ((asI (c.getD (i * 3 + 1) PV.nilp)).tdiv 256))), PV.int IntKind.u8 (IntKind.u8.wrap ((asI (c.getD (i * 3 + 1) PV.nilp)).tmod 256))])) <|
                                                      L9b H9 N (m) (c) (n) (IntKind.i64.wrap ((↑i : Int) + 1)) ((List.take ((j + 1 + 2 + 1) * 1) ((List.take ((j + 1 + 2) * 1) ((List.take ((j + 1) * 1) ((List.take (j * 1) out).append [PV.int IntKind.u8 (IntKind.u8.wrap (asI (c.getD (i * 3) PV.nilp)))])).append [PV.int IntKind.u8 (IntKind.u8.wrap (IntKind.i64.wrap ((↑(slLen (c.getD (i * 3 + 1 + 1) PV.nilp)) : Int).tdiv 256))), PV.int IntKind.u8 (IntKind.u8.wrap ((↑(slLen (c.getD (i * 3 + 1 + 1) PV.nilp)) : Int).tmod 256))])).append [PV.int IntKind.u8 (IntKind.u8.wrap (asI (c.getD (i * 3 + 1) PV.nilp)))])).append [PV.int IntKind.u8 (IntKind.u8.wrap (IntKind.i64.wrap ((asI (c.getD (i * 3 + 1) PV.nilp)).tdiv 256))), PV.int IntKind.u8 (IntKind.u8.wrap ((asI (c.getD (i * 3 + 1) PV.nilp)).tmod 256))]) (j + 1 + 2 + 1 + 2))))
                                        else
                                          (ass (oldL 0 c) <|
                                          ass (oldL 0 c) <|
                                            ass (oldL 0 ((List.take ((j + 1 + 2) * 1) ((List.take ((j + 1) * 1) ((List.take (j * 1) out).append [PV.int IntKind.u8 (IntKind.u8.wrap (asI (c.getD (i * 3) PV.nilp)))])).append [PV.int IntKind.u8 (IntKind.u8.wrap (IntKind.i64.wrap ((↑(slLen (c.getD (i * 3 + 1 + 1) PV.nilp)) : Int).tdiv 256))), PV.int IntKind.u8 (IntKind.u8.wrap ((↑(slLen (c.getD (i * 3 + 1 + 1) PV.nilp)) : Int).tmod 256))])).append [PV.int IntKind.u8 (IntKind.u8.wrap (asI (c.getD (i * 3 + 1) PV.nilp)))])) <|
                                              L9b H9 N (m) (c) (n) (IntKind.i64.wrap ((↑i : Int) + 1)) ((List.take ((j + 1 + 2) * 1) ((List.take ((j + 1) * 1) ((List.take (j * 1) out).append [PV.int IntKind.u8 (IntKind.u8.wrap (asI (c.getD (i * 3) PV.nilp)))])).append [PV.int IntKind.u8 (IntKind.u8.wrap (IntKind.i64.wrap ((↑(slLen (c.getD (i * 3 + 1 + 1) PV.nilp)) : Int).tdiv 256))), PV.int IntKind.u8 (IntKind.u8.wrap ((↑(slLen (c.getD (i * 3 + 1 + 1) PV.nilp)) : Int).tmod 256))])).append [PV.int IntKind.u8 (IntKind.u8.wrap (asI (c.getD (i * 3 + 1) PV.nilp)))]) (j + 1 + 2 + 1)))
                                  else
                                    (ass (j + 1 + 2 == j + 1 + 2 && (decide (j + 1 + 2 ≤ 1048576) && (decide (1 ≤ 1048576) && decide (0 + (j + 1 + 2) * 1 ≤ ((List.take ((j + 1) * 1) ((List.take (j * 1) out).append [PV.int IntKind.u8 (IntKind.u8.wrap (asI (c.getD (i * 3) PV.nilp)))])).append [PV.int IntKind.u8 (IntKind.u8.wrap (IntKind.i64.wrap ((↑(slLen (c.getD (i * 3 + 1 + 1) PV.nilp)) : Int).tdiv 256))), PV.int IntKind.u8 (IntKind.u8.wrap ((↑(slLen (c.getD (i * 3 + 1 + 1) PV.nilp)) : Int).tmod 256))]).length)))) <|
                                    ass (!decide (0 + (j + 1 + 2) + 1 ≤ j + 1 + 2)) <|
                                      bif asI (c.getD (i * 3) PV.nilp) == 4 then
                                          (bif decide (asI (c.getD (i * 3 + 1) PV.nilp) < 0) then
                                            (some (PV.tup [PV.sl [] 1 0 none, PV.int IntKind.i64 1]))
                                          else
                                            (bif decide (asI (c.getD (i * 3 + 1) PV.nilp) > 65535) then
                                              (some (PV.tup [PV.sl [] 1 0 none, PV.int IntKind.i64 1]))
                                            else
                                              (ass (j + 1 + 2 + 1 == j + 1 + 2 + 1 && (decide (j + 1 + 2 + 1 ≤ 1048576) && (decide (2 ≤ 1048576) && decide (0 + (j + 1 + 2 + 1) * 1 ≤ ((List.take ((j + 1 + 2) * 1) ((List.take ((j + 1) * 1) ((List.take (j * 1) out).append [PV.int IntKind.u8 (IntKind.u8.wrap (asI (c.getD (i * 3) PV.nilp)))])).append [PV.int IntKind.u8 (IntKind.u8.wrap (IntKind.i64.wrap ((↑(slLen (c.getD (i * 3 + 1 + 1) PV.nilp)) : Int).tdiv 256))), PV.int IntKind.u8 (IntKind.u8.wrap ((↑(slLen (c.getD (i * 3 + 1 + 1) PV.nilp)) : Int).tmod 256))])).append [PV.int IntKind.u8 255]).length)))) <|
                                              ass (!decide (0 + (j + 1 + 2 + 1) + 2 ≤ j + 1 + 2 + 1)) <|
                                                ass (oldL 0 c) <|
                                                  ass (oldL 0 c) <|
                                                    ass (oldL 0 ((List.take ((j + 1 + 2 + 1) * 1) ((List.take ((j + 1 + 2) * 1) ((List.take ((j + 1) * 1) ((List.take (j * 1) out).append [PV.int IntKind.u8 (IntKind.u8.wrap (asI (c.getD (i * 3) PV.nilp)))])).append [PV.int IntKind.u8 (IntKind.u8.wrap (IntKind.i64.wrap ((↑(slLen (c.getD (i * 3 + 1 + 1) PV.nilp)) : Int).tdiv 256))), PV.int IntKind.u8 (IntKind.u8.wrap ((↑(slLen (c.getD (i * 3 + 1 + 1) PV.nilp)) : Int).tmod 256))])).append [PV.int IntKind.u8 255])).append [PV.int IntKind.u8 (IntKind.u8.wrap (IntKind.i64.wrap ((asI (c.getD (i * 3 + 1) PV.nilp)).tdiv 256))), PV.int IntKind.u8 (IntKind.u8.wrap ((asI (c.getD (i * 3 + 1) PV.nilp)).tmod 256))])) <|
                                                      L9b H9 N (m) (c) (n) (IntKind.i64.wrap ((↑i : Int) + 1)) ((List.take ((j + 1 + 2 + 1) * 1) ((List.take ((j + 1 + 2) * 1) ((List.take ((j + 1) * 1) ((List.take (j * 1) out).append [PV.int IntKind.u8 (IntKind.u8.wrap (asI (c.getD (i * 3) PV.nilp)))])).append [PV.int IntKind.u8 (IntKind.u8.wrap (IntKind.i64.wrap ((↑(slLen (c.getD (i * 3 + 1 + 1) PV.nilp)) : Int).tdiv 256))), PV.int IntKind.u8 (IntKind.u8.wrap ((↑(slLen (c.getD (i * 3 + 1 + 1) PV.nilp)) : Int).tmod 256))])).append [PV.int IntKind.u8 255])).append [PV.int IntKind.u8 (IntKind.u8.wrap (IntKind.i64.wrap ((asI (c.getD (i * 3 + 1) PV.nilp)).tdiv 256))), PV.int IntKind.u8 (IntKind.u8.wrap ((asI (c.getD (i * 3 + 1) PV.nilp)).tmod 256))]) (j + 1 + 2 + 1 + 2))))
                                        else
                                          (ass (oldL 0 c) <|
                                          ass (oldL 0 c) <|
                                            ass (oldL 0 ((List.take ((j + 1 + 2) * 1) ((List.take ((j + 1) * 1) ((List.take (j * 1) out).append [PV.int IntKind.u8 (IntKind.u8.wrap (asI (c.getD (i * 3) PV.nilp)))])).append [PV.int IntKind.u8 (IntKind.u8.wrap (IntKind.i64.wrap ((↑(slLen (c.getD (i * 3 + 1 + 1) PV.nilp)) : Int).tdiv 256))), PV.int IntKind.u8 (IntKind.u8.wrap ((↑(slLen (c.getD (i * 3 + 1 + 1) PV.nilp)) : Int).tmod 256))])).append [PV.int IntKind.u8 255])) <|
                                              L9b H9 N (m) (c) (n) (IntKind.i64.wrap ((↑i : Int) + 1)) ((List.take ((j + 1 + 2) * 1) ((List.take ((j + 1) * 1) ((List.take (j * 1) out).append [PV.int IntKind.u8 (IntKind.u8.wrap (asI (c.getD (i * 3) PV.nilp)))])).append [PV.int IntKind.u8 (IntKind.u8.wrap (IntKind.i64.wrap ((↑(slLen (c.getD (i * 3 + 1 + 1) PV.nilp)) : Int).tdiv 256))), PV.int IntKind.u8 (IntKind.u8.wrap ((↑(slLen (c.getD (i * 3 + 1 + 1) PV.nilp)) : Int).tmod 256))])).append [PV.int IntKind.u8 255]) (j + 1 + 2 + 1))))
                                else
                                  (ass (j + 1 + 2 == j + 1 + 2 && (decide (j + 1 + 2 ≤ 1048576) && (decide (1 ≤ 1048576) && decide (0 + (j + 1 + 2) * 1 ≤ ((List.take ((j + 1) * 1) ((List.take (j * 1) out).append [PV.int IntKind.u8 (IntKind.u8.wrap (asI (c.getD (i * 3) PV.nilp)))])).append [PV.int IntKind.u8 (IntKind.u8.wrap (IntKind.i64.wrap ((↑(slLen (c.getD (i * 3 + 1 + 1) PV.nilp)) : Int).tdiv 256))), PV.int IntKind.u8 (IntKind.u8.wrap ((↑(slLen (c.getD (i * 3 + 1 + 1) PV.nilp)) : Int).tmod 256))]).length)))) <|
                                  ass (!decide (0 + (j + 1 + 2) + 1 ≤ j + 1 + 2)) <|
                                    bif asI (c.getD (i * 3) PV.nilp) == 4 then
                                        (bif decide (asI (c.getD (i * 3 + 1) PV.nilp) < 0) then
                                          (some (PV.tup [PV.sl [] 1 0 none, PV.int IntKind.i64 1]))
                                        else
                                          (bif decide (asI (c.getD (i * 3 + 1) PV.nilp) > 65535) then
                                            (some (PV.tup [PV.sl [] 1 0 none, PV.int IntKind.i64 1]))
                                          else
                                            (ass (j + 1 + 2 + 1 == j + 1 + 2 + 1 && (decide (j + 1 + 2 + 1 ≤ 1048576) && (decide (2 ≤ 1048576) && decide (0 + (j + 1 + 2 + 1) * 1 ≤ ((List.take ((j + 1 + 2) * 1) ((List.take ((j + 1) * 1) ((List.take (j * 1) out).append [PV.int IntKind.u8 (IntKind.u8.wrap (asI (c.getD (i * 3) PV.nilp)))])).append [PV.int IntKind.u8 (IntKind.u8.wrap (IntKind.i64.wrap ((↑(slLen (c.getD (i * 3 + 1 + 1) PV.nilp)) : Int).tdiv 256))), PV.int IntKind.u8 (IntKind.u8.wrap ((↑(slLen (c.getD (i * 3 + 1 + 1) PV.nilp)) : Int).tmod 256))])).append [PV.int IntKind.u8 255]).length)))) <|
                                            ass (!decide (0 + (j + 1 + 2 + 1) + 2 ≤ j + 1 + 2 + 1)) <|
                                              ass (oldL 0 c) <|
                                                ass (oldL 0 c) <|
                                                  ass (oldL 0 ((List.take ((j + 1 + 2 + 1) * 1) ((List.take ((j + 1 + 2) * 1) ((List.take ((j + 1) * 1) ((List.take (j * 1) out).append [PV.int IntKind.u8 (IntKind.u8.wrap (asI (c.getD (i * 3) PV.nilp)))])).append [PV.int IntKind.u8 (IntKind.u8.wrap (IntKind.i64.wrap ((↑(slLen (c.getD (i * 3 + 1 + 1) PV.nilp)) : Int).tdiv 256))), PV.int IntKind.u8 (IntKind.u8.wrap ((↑(slLen (c.getD (i * 3 + 1 + 1) PV.nilp)) : Int).tmod 256))])).append [PV.int IntKind.u8 255])).append [PV.int IntKind.u8 (IntKind.u8.wrap (IntKind.i64.wrap ((asI (c.getD (i * 3 + 1) PV.nilp)).tdiv 256))), PV.int IntKind.u8 (IntKind.u8.wrap ((asI (c.getD (i * 3 + 1) PV.nilp)).tmod 256))])) <|
                                                    L9b H9 N (m) (c) (n) (IntKind.i64.wrap ((↑i : Int) + 1)) ((List.take ((j + 1 + 2 + 1) * 1) ((List.take ((j + 1 + 2) * 1) ((List.take ((j + 1) * 1) ((List.take (j * 1) out).append [PV.int IntKind.u8 (IntKind.u8.wrap (asI (c.getD (i * 3) PV.nilp)))])).append [PV.int IntKind.u8 (IntKind.u8.wrap (IntKind.i64.wrap ((↑(slLen (c.getD (i * 3 + 1 + 1) PV.nilp)) : Int).tdiv 256))), PV.int IntKind.u8 (IntKind.u8.wrap ((↑(slLen (c.getD (i * 3 + 1 + 1) PV.nilp)) : Int).tmod 256))])).append [PV.int IntKind.u8 255])).append [PV.int IntKind.u8 (IntKind.u8.wrap (IntKind.i64.wrap ((asI (c.getD (i * 3 + 1) PV.nilp)).tdiv 256))), PV.int IntKind.u8 (IntKind.u8.wrap ((asI (c.getD (i * 3 + 1) PV.nilp)).tmod 256))]) (j + 1 + 2 + 1 + 2))))
                                      else
                                        (ass (oldL 0 c) <|
                                        ass (oldL 0 c) <|
                                          ass (oldL 0 ((List.take ((j + 1 + 2) * 1) ((List.take ((j + 1) * 1) ((List.take (j * 1) out).append [PV.int IntKind.u8 (IntKind.u8.wrap (asI (c.getD (i * 3) PV.nilp)))])).append [PV.int IntKind.u8 (IntKind.u8.wrap (IntKind.i64.wrap ((↑(slLen (c.getD (i * 3 + 1 + 1) PV.nilp)) : Int).tdiv 256))), PV.int IntKind.u8 (IntKind.u8.wrap ((↑(slLen (c.getD (i * 3 + 1 + 1) PV.nilp)) : Int).tmod 256))])).append [PV.int IntKind.u8 255])) <|
                                            L9b H9 N (m) (c) (n) (IntKind.i64.wrap ((↑i : Int) + 1)) ((List.take ((j + 1 + 2) * 1) ((List.take ((j + 1) * 1) ((List.take (j * 1) out).append [PV.int IntKind.u8 (IntKind.u8.wrap (asI (c.getD (i * 3) PV.nilp)))])).append [PV.int IntKind.u8 (IntKind.u8.wrap (IntKind.i64.wrap ((↑(slLen (c.getD (i * 3 + 1 + 1) PV.nilp)) : Int).tdiv 256))), PV.int IntKind.u8 (IntKind.u8.wrap ((↑(slLen (c.getD (i * 3 + 1 + 1) PV.nilp)) : Int).tmod 256))])).append [PV.int IntKind.u8 255]) (j + 1 + 2 + 1))))
                              else
                                (bif asI (c.getD (i * 3) PV.nilp) == 4 then
                                  (bif decide (asI (c.getD (i * 3 + 1) PV.nilp) < 0) then
                                    (some (PV.tup [PV.sl [] 1 0 none, PV.int IntKind.i64 1]))
                                  else
                                    (bif decide (asI (c.getD (i * 3 + 1) PV.nilp) > 65535) then
                                      (some (PV.tup [PV.sl [] 1 0 none, PV.int IntKind.i64 1]))
                                    else
                                      (ass (j + 1 + 2 == j + 1 + 2 && (decide (j + 1 + 2 ≤ 1048576) && (decide (2 ≤ 1048576) && decide (0 + (j + 1 + 2) * 1 ≤ ((List.take ((j + 1) * 1) ((List.take (j * 1) out).append [PV.int IntKind.u8 (IntKind.u8.wrap (asI (c.getD (i * 3) PV.nilp)))])).append [PV.int IntKind.u8 (IntKind.u8.wrap (IntKind.i64.wrap ((↑(slLen (c.getD (i * 3 + 1 + 1) PV.nilp)) : Int).tdiv 256))), PV.int IntKind.u8 (IntKind.u8.wrap ((↑(slLen (c.getD (i * 3 + 1 + 1) PV.nilp)) : Int).tmod 256))]).length)))) <|
                                      ass (!decide (0 + (j + 1 + 2) + 2 ≤ j + 1 + 2)) <|
                                        ass (oldL 0 c) <|
                                          ass (oldL 0 c) <|
                                            ass (oldL 0 ((List.take ((j + 1 + 2) * 1) ((List.take ((j + 1) * 1) ((List.take (j * 1) out).append [PV.int IntKind.u8 (IntKind.u8.wrap (asI (c.getD (i * 3) PV.nilp)))])).append [PV.int IntKind.u8 (IntKind.u8.wrap (IntKind.i64.wrap ((↑(slLen (c.getD (i * 3 + 1 + 1) PV.nilp)) : Int).tdiv 256))), PV.int IntKind.u8 (IntKind.u8.wrap ((↑(slLen (c.getD (i * 3 + 1 + 1) PV.nilp)) : Int).tmod 256))])).append [PV.int IntKind.u8 (IntKind.u8.wrap (IntKind.i64.wrap ((asI (c.getD (i * 3 + 1) PV.nilp)).tdiv 256))), PV.int IntKind.u8 (IntKind.u8.wrap ((asI (c.getD (i * 3 + 1) PV.nilp)).tmod 256))])) <|
                                              L9b H9 N (m) (c) (n) (IntKind.i64.wrap ((↑i : Int) + 1)) ((List.take ((j + 1 + 2) * 1) ((List.take ((j + 1) * 1) ((List.take (j * 1) out).append [PV.int IntKind.u8 (IntKind.u8.wrap (asI (c.getD (i * 3) PV.nilp)))])).append [PV.int IntKind.u8 (IntKind.u8.wrap (IntKind.i64.wrap ((↑(slLen (c.getD (i * 3 + 1 + 1) PV.nilp)) : Int).tdiv 256))), PV.int IntKind.u8 (IntKind.u8.wrap ((↑(slLen (c.getD (i * 3 + 1 + 1) PV.nilp)) : Int).tmod 256))])).append [PV.int IntKind.u8 (IntKind.u8.wrap (IntKind.i64.wrap ((asI (c.getD (i * 3 + 1) PV.nilp)).tdiv 256))), PV.int IntKind.u8 (IntKind.u8.wrap ((asI (c.getD (i * 3 + 1) PV.nilp)).tmod 256))]) (j + 1 + 2 + 2))))
                                else
                                  (ass (oldL 0 c) <|
                                  ass (oldL 0 c) <|
                                    ass (oldL 0 ((List.take ((j + 1) * 1) ((List.take (j * 1) out).append [PV.int IntKind.u8 (IntKind.u8.wrap (asI (c.getD (i * 3) PV.nilp)))])).append [PV.int IntKind.u8 (IntKind.u8.wrap (IntKind.i64.wrap ((↑(slLen (c.getD (i * 3 + 1 + 1) PV.nilp)) : Int).tdiv 256))), PV.int IntKind.u8 (IntKind.u8.wrap ((↑(slLen (c.getD (i * 3 + 1 + 1) PV.nilp)) : Int).tmod 256))])) <|
                                      L9b H9 N (m) (c) (n) (IntKind.i64.wrap ((↑i : Int) + 1)) ((List.take ((j + 1) * 1) ((List.take (j * 1) out).append [PV.int IntKind.u8 (IntKind.u8.wrap (asI (c.getD (i * 3) PV.nilp)))])).append [PV.int IntKind.u8 (IntKind.u8.wrap (IntKind.i64.wrap ((↑(slLen (c.getD (i * 3 + 1 + 1) PV.nilp)) : Int).tdiv 256))), PV.int IntKind.u8 (IntKind.u8.wrap ((↑(slLen (c.getD (i * 3 + 1 + 1) PV.nilp)) : Int).tmod 256))]) (j + 1 + 2))))
                            else
                              (ass (j + 1 + 2 == j + 1 + 2 && (decide (j + 1 + 2 ≤ 1048576) && (decide (slLen (c.getD (i * 3 + 1 + 1) PV.nilp) ≤ 1048576) && decide (0 + (j + 1 + 2) * 1 ≤ ((List.take ((j + 1) * 1) ((List.take (j * 1) out).append [PV.int IntKind.u8 (IntKind.u8.wrap (asI (c.getD (i * 3) PV.nilp)))])).append [PV.int IntKind.u8 (IntKind.u8.wrap (IntKind.i64.wrap ((↑(slLen (c.getD (i * 3 + 1 + 1) PV.nilp)) : Int).tdiv 256))), PV.int IntKind.u8 (IntKind.u8.wrap ((↑(slLen (c.getD (i * 3 + 1 + 1) PV.nilp)) : Int).tmod 256))]).length)))) <|
                              ass (!decide (0 + (j + 1 + 2) + slLen (c.getD (i * 3 + 1 + 1) PV.nilp) ≤ j + 1 + 2)) <|
                                bif asI (c.getD (i * 3) PV.nilp) == 2 then
                                    (bif decide (asI (c.getD (i * 3 + 1) PV.nilp) ≥ 0) then
                                      (bif decide (asI (c.getD (i * 3 + 1) PV.nilp) < 255) then
                                        (ass (j + 1 + 2 + slLen (c.getD (i * 3 + 1 + 1) PV.nilp) == j + 1 + 2 + slLen (c.getD (i * 3 + 1 + 1) PV.nilp) && (decide (j + 1 + 2 + slLen (c.getD (i * 3 + 1 + 1) PV.nilp) ≤ 1048576) && (decide (1 ≤ 1048576) && decide (0 + (j + 1 + 2 + slLen (c.getD (i * 3 + 1 + 1) PV.nilp)) * 1 ≤ ((List.take ((j + 1 + 2) * 1) ((List.take ((j + 1) * 1) ((List.take (j * 1) out).append [PV.int IntKind.u8 (IntKind.u8.wrap (asI (c.getD (i * 3) PV.nilp)))])).append [PV.int IntKind.u8 (IntKind.u8.wrap (IntKind.i64.wrap ((↑(slLen (c.getD (i * 3 + 1 + 1) PV.nilp)) : Int).tdiv 256))), PV.int IntKind.u8 (IntKind.u8.wrap ((↑(slLen (c.getD (i * 3 + 1 + 1) PV.nilp)) : Int).tmod 256))])).append (slCells (c.getD (i * 3 + 1 + 1) PV.nilp))).length)))) <|
                                        ass (!decide (0 + (j + 1 + 2 + slLen (c.getD (i * 3 + 1 + 1) PV.nilp)) + 1 ≤ j + 1 + 2 + slLen (c.getD (i * 3 + 1 + 1) PV.nilp))) <|
                                          bif asI (c.getD (i * 3) PV.nilp) == 4 then
                                              (bif decide (asI (c.getD (i * 3 + 1) PV.nilp) < 0) then
                                                (some (PV.tup [PV.sl [] 1 0 none, PV.int IntKind.i64 1]))
                                              else
                                                (bif decide (asI (c.getD (i * 3 + 1) PV.nilp) > 65535) then
                                                  (some (PV.tup [PV.sl [] 1 0 none, PV.int IntKind.i64 1]))
                                                else
                                                  (ass (j + 1 + 2 + slLen (c.getD (i * 3 + 1 + 1) PV.nilp) + 1 == j + 1 + 2 + slLen (c.getD (i * 3 + 1 + 1) PV.nilp) + 1 && (decide (j + 1 + 2 + slLen (c.getD (i * 3 + 1 + 1) PV.nilp) + 1 ≤ 1048576) && (decide (2 ≤ 1048576) && decide (0 + (j + 1 + 2 + slLen (c.getD (i * 3 + 1 + 1) PV.nilp) + 1) * 1 ≤ ((List.take ((j + 1 + 2 + slLen (c.getD (i * 3 + 1 + 1) PV.nilp)) * 1) ((List.take ((j + 1 + 2) * 1) ((List.take ((j + 1) * 1) ((List.take (j * 1) out).append [PV.int IntKind.u8 (IntKind.u8.wrap (asI (c.getD (i * 3) PV.nilp)))])).append [PV.int IntKind.u8 (IntKind.u8.wrap (IntKind.i64.wrap ((↑(slLen (c.getD (i * 3 + 1 + 1) PV.nilp)) : Int).tdiv 256))), PV.int IntKind.u8 (IntKind.u8.wrap ((↑(slLen (c.getD (i * 3 + 1 + 1) PV.nilp)) : Int).tmod 256))])).append (slCells (c.getD (i * 3 + 1 + 1) PV.nilp)))).append [PV.int IntKind.u8 (IntKind.u8.wrap (asI (c.getD (i * 3 + 1) PV.nilp)))]).length)))) <|
                                                  ass (!decide (0 + (j + 1 + 2 + slLen (c.getD (i * 3 + 1 + 1) PV.nilp) + 1) + 2 ≤ j + 1 + 2 + slLen (c.getD (i * 3 + 1 + 1) PV.nilp) + 1)) <|
                                                    ass (oldL 0 c) <|
                                                      ass (oldL 0 c) <|
                                                        ass (oldL 0 ((List.take ((j + 1 + 2 + slLen (c.getD (i * 3 + 1 + 1) PV.nilp) + 1) * 1) ((List.take ((j + 1 + 2 + slLen (c.getD (i * 3 + 1 + 1) PV.nilp)) * 1) ((List.take ((j + 1 + 2) * 1) ((List.take ((j + 1) * 1) ((List.take (j * 1) out).append [PV.int IntKind.u8 (IntKind.u8.wrap (asI (c.getD (i * 3) PV.nilp)))])).append [PV.int IntKind.u8 (IntKind.u8.wrap (IntKind.i64.wrap ((↑(slLen (c.getD (i * 3 + 1 + 1) PV.nilp)) : Int).tdiv 256))), PV.int IntKind.u8 (IntKind.u8.wrap ((↑(slLen (c.getD (i * 3 + 1 + 1) PV.nilp)) : Int).tmod 256))])).append (slCells (c.getD (i * 3 + 1 + 1) PV.nilp)))).append [PV.int IntKind.u8 (IntKind.u8.wrap (asI (c.getD (i * 3 + 1) PV.nilp)))])).append [PV.int IntKind.u8 (IntKind.u8.wrap (IntKind.i64.wrap ((asI (c.getD (i * 3 + 1) PV.nilp)).tdiv 256))), PV.int IntKind.u8 (IntKind.u8.wrap ((asI (c.getD (i * 3 + 1) PV.nilp)).tmod 256))])) <|
                                                          L9b H9 N (m) (c) (n) (IntKind.i64.wrap ((↑i : Int) + 1)) ((List.take ((j + 1 + 2 + slLen (c.getD (i * 3 + 1 + 1) PV.nilp) + 1) * 1) ((List.take ((j + 1 + 2 + slLen (c.getD (i * 3 + 1 + 1) PV.nilp)) * 1) ((List.take ((j + 1 + 2) * 1) ((List.take ((j + 1) * 1) ((List.take (j * 1) out).append [PV.int IntKind.u8 (IntKind.u8.wrap (asI (c.getD (i * 3) PV.nilp)))])).append [PV.int IntKind.u8 (IntKind.u8.wrap (IntKind.i64.wrap ((↑(slLen (c.getD (i * 3 + 1 + 1) PV.nilp)) : Int).tdiv 256))), PV.int IntKind.u8 (IntKind.u8.wrap ((↑(slLen (c.getD (i * 3 + 1 + 1) PV.nilp)) : Int).tmod 256))])).append (slCells (c.getD (i * 3 + 1 + 1) PV.nilp)))).append [PV.int IntKind.u8 (IntKind.u8.wrap (asI (c.getD (i * 3 + 1) PV.nilp)))])).append [PV.int IntKind.u8 (IntKind.u8.wrap (IntKind.i64.wrap ((asI (c.getD (i * 3 + 1) PV.nilp)).tdiv 256))), PV.int IntKind.u8 (IntKind.u8.wrap ((asI (c.getD (i * 3 + 1) PV.nilp)).tmod 256))]) (j + 1 + 2 + slLen (c.getD (i * 3 + 1 + 1) PV.nilp) + 1 + 2))))
                                            else
                                              (ass (oldL 0 c) <|
                                              ass (oldL 0 c) <|
                                                ass (oldL 0 ((List.take ((j + 1 + 2 + slLen (c.getD (i * 3 + 1 + 1) PV.nilp)) * 1) ((List.take ((j + 1 + 2) * 1) ((List.take ((j + 1) * 1) ((List.take (j * 1) out).append [PV.int IntKind.u8 (IntKind.u8.wrap (asI (c.getD (i * 3) PV.nilp)))])).append [PV.int IntKind.u8 (IntKind.u8.wrap (IntKind.i64.wrap ((↑(slLen (c.getD (i * 3 + 1 + 1) PV.nilp)) : Int).tdiv 256))), PV.int IntKind.u8 (IntKind.u8.wrap ((↑(slLen (c.getD (i * 3 + 1 + 1) PV.nilp)) : Int).tmod 256))])).append (slCells (c.getD (i * 3 + 1 + 1) PV.nilp)))).append [PV.int IntKind.u8 (IntKind.u8.wrap (asI (c.getD (i * 3 + 1) PV.nilp)))])) <|
                                                  L9b H9 N (m) (c) (n) (IntKind.i64.wrap ((↑i : Int) + 1)) ((List.take ((j + 1 + 2 + slLen (c.getD (i * 3 + 1 + 1) PV.nilp)) * 1) ((List.take ((j + 1 + 2) * 1) ((List.take ((j + 1) * 1) ((List.take (j * 1) out).append [PV.int IntKind.u8 (IntKind.u8.wrap (asI (c.getD (i * 3) PV.nilp)))])).append [PV.int IntKind.u8 (IntKind.u8.wrap (IntKind.i64.wrap ((↑(slLen (c.getD (i * 3 + 1 + 1) PV.nilp)) : Int).tdiv 256))), PV.int IntKind.u8 (IntKind.u8.wrap ((↑(slLen (c.getD (i * 3 + 1 + 1) PV.nilp)) : Int).tmod 256))])).append (slCells (c.getD (i * 3 + 1 + 1) PV.nilp)))).append [PV.int IntKind.u8 (IntKind.u8.wrap (asI (c.getD (i * 3 + 1) PV.nilp)))]) (j + 1 + 2 + slLen (c.getD (i * 3 + 1 + 1) PV.nilp) + 1)))
                                      else
                                        (ass (j + 1 + 2 + slLen (c.getD (i * 3 + 1 + 1) PV.nilp) == j + 1 + 2 + slLen (c.getD (i * 3 + 1 + 1) PV.nilp) && (decide (j + 1 + 2 + slLen (c.getD (i * 3 + 1 + 1) PV.nilp) ≤ 1048576) && (decide (1 ≤ 1048576) && decide (0 + (j + 1 + 2 + slLen (c.getD (i * 3 + 1 + 1) PV.nilp)) * 1 ≤ ((List.take ((j + 1 + 2) * 1) ((List.take ((j + 1) * 1) ((List.take (j * 1) out).append [PV.int IntKind.u8 (IntKind.u8.wrap (asI (c.getD (i * 3) PV.nilp)))])).append [PV.int IntKind.u8 (IntKind.u8.wrap (IntKind.i64.wrap ((↑(slLen (c.getD (i * 3 + 1 + 1) PV.nilp)) : Int).tdiv 256))), PV.int IntKind.u8 (IntKind.u8.wrap ((↑(slLen (c.getD (i * 3 + 1 + 1) PV.nilp)) : Int).tmod 256))])).append (slCells (c.getD (i * 3 + 1 + 1) PV.nilp))).length)))) <|
                                        ass (!decide (0 + (j + 1 + 2 + slLen (c.getD (i * 3 + 1 + 1) PV.nilp)) + 1 ≤ j + 1 + 2 + slLen (c.getD (i * 3 + 1 + 1) PV.nilp))) <|
                                          bif asI (c.getD (i * 3) PV.nilp) == 4 then
                                              (bif decide (asI (c.getD (i * 3 + 1) PV.nilp) < 0) then
                                                (some (PV.tup [PV.sl [] 1 0 none, PV.int IntKind.i64 1]))
                                              else
                                                (bif decide (asI (c.getD (i * 3 + 1) PV.nilp) > 65535) then
                                                  (some (PV.tup [PV.sl [] 1 0 none, PV.int IntKind.i64 1]))
                                                else
                                                  (ass (j + 1 + 2 + slLen (c.getD (i * 3 + 1 + 1) PV.nilp) + 1 == j + 1 + 2 + slLen (c.getD (i * 3 + 1 + 1) PV.nilp) + 1 && (decide (j + 1 + 2 + slLen (c.getD (i * 3 + 1 + 1) PV.nilp) + 1 ≤ 1048576) && (decide (2 ≤ 1048576) && decide (0 + (j + 1 + 2 + slLen (c.getD (i * 3 + 1 + 1) PV.nilp) + 1) * 1 ≤ ((List.take ((j + 1 + 2 + slLen (c.getD (i * 3 + 1 + 1) PV.nilp)) * 1) ((List.take ((j + 1 + 2) * 1) ((List.take ((j + 1) * 1) ((List.take (j * 1) out).append [PV.int IntKind.u8 (IntKind.u8.wrap (asI (c.getD (i * 3) PV.nilp)))])).append [PV.int IntKind.u8 (IntKind.u8.wrap (IntKind.i64.wrap ((↑(slLen (c.getD (i * 3 + 1 + 1) PV.nilp)) : Int).tdiv 256))), PV.int IntKind.u8 (IntKind.u8.wrap ((↑(slLen (c.getD (i * 3 + 1 + 1) PV.nilp)) : Int).tmod 256))])).append (slCells (c.getD (i * 3 + 1 + 1) PV.nilp)))).append [PV.int IntKind.u8 255]).length)))) <|
                                                  ass (!decide (0 + (j + 1 + 2 + slLen (c.getD (i * 3 + 1 + 1) PV.nilp) + 1) + 2 ≤ j + 1 + 2 + slLen (c.getD (i * 3 + 1 + 1) PV.nilp) + 1)) <|
                                                    ass (oldL 0 c) <|
                                                      ass (oldL 0 c) <|
                                                        ass (oldL 0 ((List.take ((j + 1 + 2 + slLen (c.getD (i * 3 + 1 + 1) PV.nilp) + 1) * 1) ((List.take ((j + 1 + 2 + slLen (c.getD (i * 3 + 1 + 1) PV.nilp)) * 1) ((List.take ((j + 1 + 2) * 1) ((List.take ((j + 1) * 1) ((List.take (j * 1) out).append [PV.int IntKind.u8 (IntKind.u8.wrap (asI (c.getD (i * 3) PV.nilp)))])).append [PV.int IntKind.u8 (IntKind.u8.wrap (IntKind.i64.wrap ((↑(slLen (c.getD (i * 3 + 1 + 1) PV.nilp)) : Int).tdiv 256))), PV.int IntKind.u8 (IntKind.u8.wrap ((↑(slLen (c.getD (i * 3 + 1 + 1) PV.nilp)) : Int).tmod 256))])).append (slCells (c.getD (i * 3 + 1 + 1) PV.nilp)))).append [PV.int IntKind.u8 255])).append [PV.int IntKind.u8 (IntKind.u8.wrap (IntKind.i64.wrap ((asI (c.getD (i * 3 + 1) PV.nilp)).tdiv 256))), PV.int IntKind.u8 (IntKind.u8.wrap ((asI (c.getD (i * 3 + 1) PV.nilp)).tmod 256))])) <|
                                                          L9b H9 N (m) (c) (n) (IntKind.i64.wrap ((↑i : Int) + 1)) ((List.take ((j + 1 + 2 + slLen (c.getD (i * 3 + 1 + 1) PV.nilp) + 1) * 1) ((List.take ((j + 1 + 2 + slLen (c.getD (i * 3 + 1 + 1) PV.nilp)) * 1) ((List.take ((j + 1 + 2) * 1) ((List.take ((j + 1) * 1) ((List.take (j * 1) out).append [PV.int IntKind.u8 (IntKind.u8.wrap (asI (c.getD (i * 3) PV.nilp)))])).append [PV.int IntKind.u8 (IntKind.u8.wrap (IntKind.i64.wrap ((↑(slLen (c.getD (i * 3 + 1 + 1) PV.nilp)) : Int).tdiv 256))), PV.int IntKind.u8 (IntKind.u8.wrap ((↑(slLen (c.getD (i * 3 + 1 + 1) PV.nilp)) : Int).tmod 256))])).append (slCells (c.getD (i * 3 + 1 + 1) PV.nilp)))).append [PV.int IntKind.u8 255])).append [PV.int IntKind.u8 (IntKind.u8.wrap (IntKind.i64.wrap ((asI (c.getD (i * 3 + 1) PV.nilp)).tdiv 256))), PV.int IntKind.u8 (IntKind.u8.wrap ((asI (c.getD (i * 3 + 1) PV.nilp)).tmod 256))]) (j + 1 + 2 + slLen (c.getD (i * 3 + 1 + 1) PV.nilp) + 1 + 2))))
                                            else
                                              (ass (oldL 0 c) <|
                                              ass (oldL 0 c) <|
                                                ass (oldL 0 ((List.take ((j + 1 + 2 + slLen (c.getD (i * 3 + 1 + 1) PV.nilp)) * 1) ((List.take ((j + 1 + 2) * 1) ((List.take ((j + 1) * 1) ((List.take (j * 1) out).append [PV.int IntKind.u8 (IntKind.u8.wrap (asI (c.getD (i * 3) PV.nilp)))])).append [PV.int IntKind.u8 (IntKind.u8.wrap (IntKind.i64.wrap ((↑(slLen (c.getD (i * 3 + 1 + 1) PV.nilp)) : Int).tdiv 256))), PV.int IntKind.u8 (IntKind.u8.wrap ((↑(slLen (c.getD (i * 3 + 1 + 1) PV.nilp)) : Int).tmod 256))])).append (slCells (c.getD (i * 3 + 1 + 1) PV.nilp)))).append [PV.int IntKind.u8 255])) <|
                                                  L9b H9 N (m) (c) (n) (IntKind.i64.wrap ((↑i : Int) + 1)) ((List.take ((j + 1 + 2 + slLen (c.getD (i * 3 + 1 + 1) PV.nilp)) * 1) ((List.take ((j + 1 + 2) * 1) ((List.take ((j + 1) * 1) ((List.take (j * 1) out).append [PV.int IntKind.u8 (IntKind.u8.wrap (asI (c.getD (i * 3) PV.nilp)))])).append [PV.int IntKind.u8 (IntKind.u8.wrap (IntKind.i64.wrap ((↑(slLen (c.getD (i * 3 + 1 + 1) PV.nilp)) : Int).tdiv 256))), PV.int IntKind.u8 (IntKind.u8.wrap ((↑(slLen (c.getD (i * 3 + 1 + 1) PV.nilp)) : Int).tmod 256))])).append (slCells (c.getD (i * 3 + 1 + 1) PV.nilp)))).append [PV.int IntKind.u8 255]) (j + 1 + 2 + slLen (c.getD (i * 3 + 1 + 1) PV.nilp) + 1))))
                                    else
                                      (ass (j + 1 + 2 + slLen (c.getD (i * 3 + 1 + 1) PV.nilp) == j + 1 + 2 + slLen (c.getD (i * 3 + 1 + 1) PV.nilp) && (decide (j + 1 + 2 + slLen (c.getD (i * 3 + 1 + 1) PV.nilp) ≤ 1048576) && (decide (1 ≤ 1048576) && decide (0 + (j + 1 + 2 + slLen (c.getD (i * 3 + 1 + 1) PV.nilp)) * 1 ≤ ((List.take ((j + 1 + 2) * 1) ((List.take ((j + 1) * 1) ((List.take (j * 1) out).append [PV.int IntKind.u8 (IntKind.u8.wrap (asI (c.getD (i * 3) PV.nilp)))])).append [PV.int IntKind.u8 (IntKind.u8.wrap (IntKind.i64.wrap ((↑(slLen (c.getD (i * 3 + 1 + 1) PV.nilp)) : Int).tdiv 256))), PV.int IntKind.u8 (IntKind.u8.wrap ((↑(slLen (c.getD (i * 3 + 1 + 1) PV.nilp)) : Int).tmod 256))])).append (slCells (c.getD (i * 3 + 1 + 1) PV.nilp))).length)))) <|
                                      ass (!decide (0 + (j + 1 + 2 + slLen (c.getD (i * 3 + 1 + 1) PV.nilp)) + 1 ≤ j + 1 + 2 + slLen (c.getD (i * 3 + 1 + 1) PV.nilp))) <|
                                        bif asI (c.getD (i * 3) PV.nilp) == 4 then
                                            (bif decide (asI (c.getD (i * 3 + 1) PV.nilp) < 0) then
                                              (some (PV.tup [PV.sl [] 1 0 none, PV.int IntKind.i64 1]))
                                            else
                                              (bif decide (asI (c.getD (i * 3 + 1) PV.nilp) > 65535) then
                                                (some (PV.tup [PV.sl [] 1 0 none, PV.int IntKind.i64 1]))
                                              else
                                                (ass (j + 1 + 2 + slLen (c.getD (i * 3 + 1 + 1) PV.nilp) + 1 == j + 1 + 2 + slLen (c.getD (i * 3 + 1 + 1) PV.nilp) + 1 && (decide (j + 1 + 2 + slLen (c.getD (i * 3 + 1 + 1) PV.nilp) + 1 ≤ 1048576) && (decide (2 ≤ 1048576) && decide (0 + (j + 1 + 2 + slLen (c.getD (i * 3 + 1 + 1) PV.nilp) + 1) * 1 ≤ ((List.take ((j + 1 + 2 + slLen (c.getD (i * 3 + 1 + 1) PV.nilp)) * 1) ((List.take ((j + 1 + 2) * 1) ((List.take ((j + 1) * 1) ((List.take (j * 1) out).append [PV.int IntKind.u8 (IntKind.u8.wrap (asI (c.getD (i * 3) PV.nilp)))])).append [PV.int IntKind.u8 (IntKind.u8.wrap (IntKind.i64.wrap ((↑(slLen (c.getD (i * 3 + 1 + 1) PV.nilp)) : Int).tdiv 256))), PV.int IntKind.u8 (IntKind.u8.wrap ((↑(slLen (c.getD (i * 3 + 1 + 1) PV.nilp)) : Int).tmod 256))])).append (slCells (c.getD (i * 3 + 1 + 1) PV.nilp)))).append [PV.int IntKind.u8 255]).length)))) <|
                                                ass (!decide (0 + (j + 1 + 2 + slLen (c.getD (i * 3 + 1 + 1) PV.nilp) + 1) + 2 ≤ j + 1 + 2 + slLen (c.getD (i * 3 + 1 + 1) PV.nilp) + 1)) <|
                                                  ass (oldL 0 c) <|
                                                    ass (oldL 0 c) <|
                                                      ass (oldL 0 ((List.take ((j + 1 + 2 + slLen (c.getD (i * 3 + 1 + 1) PV.nilp) + 1) * 1) ((List.take ((j + 1 + 2 + slLen (c.getD (i * 3 + 1 + 1) PV.nilp)) * 1) ((List.take ((j + 1 + 2) * 1) ((List.take ((j + 1) * 1) ((List.take (j * 1) out).append [PV.int IntKind.u8 (IntKind.u8.wrap (asI (c.getD (i * 3) PV.nilp)))])).append [PV.int IntKind.u8 (IntKind.u8.wrap (IntKind.i64.wrap ((↑(slLen (c.getD (i * 3 + 1 + 1) PV.nilp)) : Int).tdiv 256))), PV.int IntKind.u8 (IntKind.u8.wrap ((↑(slLen (c.getD (i * 3 + 1 + 1) PV.nilp)) : Int).tmod 256))])).append (slCells (c.getD (i * 3 + 1 + 1) PV.nilp)))).append [PV.int IntKind.u8 255])).append [PV.int IntKind.u8 (IntKind.u8.wrap (IntKind.i64.wrap ((asI (c.getD (i * 3 + 1) PV.nilp)).tdiv 256))), PV.int IntKind.u8 (IntKind.u8.wrap ((asI (c.getD (i * 3 + 1) PV.nilp)).tmod 256))])) <|
                                                        L9b H9 N (m) (c) (n) (IntKind.i64.wrap ((↑i : Int) + 1)) ((List.take ((j + 1 + 2 + slLen (c.getD (i * 3 + 1 + 1) PV.nilp) + 1) * 1) ((List.take ((j + 1 + 2 + slLen (c.getD (i * 3 + 1 + 1) PV.nilp)) * 1) ((List.take ((j + 1 + 2) * 1) ((List.take ((j + 1) * 1) ((List.take (j * 1) out).append [PV.int IntKind.u8 (IntKind.u8.wrap (asI (c.getD (i * 3) PV.nilp)))])).append [PV.int IntKind.u8 (IntKind.u8.wrap (IntKind.i64.wrap ((↑(slLen (c.getD (i * 3 + 1 + 1) PV.nilp)) : Int).tdiv 256))), PV.int IntKind.u8 (IntKind.u8.wrap ((↑(slLen (c.getD (i * 3 + 1 + 1) PV.nilp)) : Int).tmod 256))])).append (slCells (c.getD (i * 3 + 1 + 1) PV.nilp)))).append [PV.int IntKind.u8 255])).append [PV.int IntKind.u8 (IntKind.u8.wrap (IntKind.i64.wrap ((asI (c.getD (i * 3 + 1) PV.nilp)).tdiv 256))), PV.int IntKind.u8 (IntKind.u8.wrap ((asI (c.getD (i * 3 + 1) PV.nilp)).tmod 256))]) (j + 1 + 2 + slLen (c.getD (i * 3 + 1 + 1) PV.nilp) + 1 + 2))))
                                          else
                                            (ass (oldL 0 c) <|
                                            ass (oldL 0 c) <|
                                              ass (oldL 0 ((List.take ((j + 1 + 2 + slLen (c.getD (i * 3 + 1 + 1) PV.nilp)) * 1) ((List.take ((j + 1 + 2) * 1) ((List.take ((j + 1) * 1) ((List.take (j * 1) out).append [PV.int IntKind.u8 (IntKind.u8.wrap (asI (c.getD (i * 3) PV.nilp)))])).append [PV.int IntKind.u8 (IntKind.u8.wrap (IntKind.i64.wrap ((↑(slLen (c.getD (i * 3 + 1 + 1) PV.nilp)) : Int).tdiv 256))), PV.int IntKind.u8 (IntKind.u8.wrap ((↑(slLen (c.getD (i * 3 + 1 + 1) PV.nilp)) : Int).tmod 256))])).append (slCells (c.getD (i * 3 + 1 + 1) PV.nilp)))).append [PV.int IntKind.u8 255])) <|
                                                L9b H9 N (m) (c) (n) (IntKind.i64.wrap ((↑i : Int) + 1)) ((List.take ((j + 1 + 2 + slLen (c.getD (i * 3 + 1 + 1) PV.nilp)) * 1) ((List.take ((j + 1 + 2) * 1) ((List.take ((j + 1) * 1) ((List.take (j * 1) out).append [PV.int IntKind.u8 (IntKind.u8.wrap (asI (c.getD (i * 3) PV.nilp)))])).append [PV.int IntKind.u8 (IntKind.u8.wrap (IntKind.i64.wrap ((↑(slLen (c.getD (i * 3 + 1 + 1) PV.nilp)) : Int).tdiv 256))), PV.int IntKind.u8 (IntKind.u8.wrap ((↑(slLen (c.getD (i * 3 + 1 + 1) PV.nilp)) : Int).tmod 256))])).append (slCells (c.getD (i * 3 + 1 + 1) PV.nilp)))).append [PV.int IntKind.u8 255]) (j + 1 + 2 + slLen (c.getD (i * 3 + 1 + 1) PV.nilp) + 1))))
                                  else
                                    (bif asI (c.getD (i * 3) PV.nilp) == 4 then
                                      (bif decide (asI (c.getD (i * 3 + 1) PV.nilp) < 0) then
                                        (some (PV.tup [PV.sl [] 1 0 none, PV.int IntKind.i64 1]))
                                      else
                                        (bif decide (asI (c.getD (i * 3 + 1) PV.nilp) > 65535) then
                                          (some (PV.tup [PV.sl [] 1 0 none, PV.int IntKind.i64 1]))
                                        else
                                          (ass (j + 1 + 2 + slLen (c.getD (i * 3 + 1 + 1) PV.nilp) == j + 1 + 2 + slLen (c.getD (i * 3 + 1 + 1) PV.nilp) && (decide (j + 1 + 2 + slLen (c.getD (i * 3 + 1 + 1) PV.nilp) ≤ 1048576) && (decide (2 ≤ 1048576) && decide (0 + (j + 1 + 2 + slLen (c.getD (i * 3 + 1 + 1) PV.nilp)) * 1 ≤ ((List.take ((j + 1 + 2) * 1) ((List.take ((j + 1) * 1) ((List.take (j * 1) out).append [PV.int IntKind.u8 (IntKind.u8.wrap (asI (c.getD (i * 3) PV.nilp)))])).append [PV.int IntKind.u8 (IntKind.u8.wrap (IntKind.i64.wrap ((↑(slLen (c.getD (i * 3 + 1 + 1) PV.nilp)) : Int).tdiv 256))), PV.int IntKind.u8 (IntKind.u8.wrap ((↑(slLen (c.getD (i * 3 + 1 + 1) PV.nilp)) : Int).tmod 256))])).append (slCells (c.getD (i * 3 + 1 + 1) PV.nilp))).length)))) <|
                                          ass (!decide (0 + (j + 1 + 2 + slLen (c.getD (i * 3 + 1 + 1) PV.nilp)) + 2 ≤ j + 1 + 2 + slLen (c.getD (i * 3 + 1 + 1) PV.nilp))) <|
                                            ass (oldL 0 c) <|
                                              ass (oldL 0 c) <|
                                                ass (oldL 0 ((List.take ((j + 1 + 2 + slLen (c.getD (i * 3 + 1 + 1) PV.nilp)) * 1) ((List.take ((j + 1 + 2) * 1) ((List.take ((j + 1) * 1) ((List.take (j * 1) out).append [PV.int IntKind.u8 (IntKind.u8.wrap (asI (c.getD (i * 3) PV.nilp)))])).append [PV.int IntKind.u8 (IntKind.u8.wrap (IntKind.i64.wrap ((↑(slLen (c.getD (i * 3 + 1 + 1) PV.nilp)) : Int).tdiv 256))), PV.int IntKind.u8 (IntKind.u8.wrap ((↑(slLen (c.getD (i * 3 + 1 + 1) PV.nilp)) : Int).tmod 256))])).append (slCells (c.getD (i * 3 + 1 + 1) PV.nilp)))).append [PV.int IntKind.u8 (IntKind.u8.wrap (IntKind.i64.wrap ((asI (c.getD (i * 3 + 1) PV.nilp)).tdiv 256))), PV.int IntKind.u8 (IntKind.u8.wrap ((asI (c.getD (i * 3 + 1) PV.nilp)).tmod 256))])) <|
                                                  L9b H9 N (m) (c) (n) (IntKind.i64.wrap ((↑i : Int) + 1)) ((List.take ((j + 1 + 2 + slLen (c.getD (i * 3 + 1 + 1) PV.nilp)) * 1) ((List.take ((j + 1 + 2) * 1) ((List.take ((j + 1) * 1) ((List.take (j * 1) out).append [PV.int IntKind.u8 (IntKind.u8.wrap (asI (c.getD (i * 3) PV.nilp)))])).append [PV.int IntKind.u8 (IntKind.u8.wrap (IntKind.i64.wrap ((↑(slLen (c.getD (i * 3 + 1 + 1) PV.nilp)) : Int).tdiv 256))), PV.int IntKind.u8 (IntKind.u8.wrap ((↑(slLen (c.getD (i * 3 + 1 + 1) PV.nilp)) : Int).tmod 256))])).append (slCells (c.getD (i * 3 + 1 + 1) PV.nilp)))).append [PV.int IntKind.u8 (IntKind.u8.wrap (IntKind.i64.wrap ((asI (c.getD (i * 3 + 1) PV.nilp)).tdiv 256))), PV.int IntKind.u8 (IntKind.u8.wrap ((asI (c.getD (i * 3 + 1) PV.nilp)).tmod 256))]) (j + 1 + 2 + slLen (c.getD (i * 3 + 1 + 1) PV.nilp) + 2))))
                                    else
                                      (ass (oldL 0 c) <|
                                      ass (oldL 0 c) <|
                                        ass (oldL 0 ((List.take ((j + 1 + 2) * 1) ((List.take ((j + 1) * 1) ((List.take (j * 1) out).append [PV.int IntKind.u8 (IntKind.u8.wrap (asI (c.getD (i * 3) PV.nilp)))])).append [PV.int IntKind.u8 (IntKind.u8.wrap (IntKind.i64.wrap ((↑(slLen (c.getD (i * 3 + 1 + 1) PV.nilp)) : Int).tdiv 256))), PV.int IntKind.u8 (IntKind.u8.wrap ((↑(slLen (c.getD (i * 3 + 1 + 1) PV.nilp)) : Int).tmod 256))])).append (slCells (c.getD (i * 3 + 1 + 1) PV.nilp)))) <|
                                          L9b H9 N (m) (c) (n) (IntKind.i64.wrap ((↑i : Int) + 1)) ((List.take ((j + 1 + 2) * 1) ((List.take ((j + 1) * 1) ((List.take (j * 1) out).append [PV.int IntKind.u8 (IntKind.u8.wrap (asI (c.getD (i * 3) PV.nilp)))])).append [PV.int IntKind.u8 (IntKind.u8.wrap (IntKind.i64.wrap ((↑(slLen (c.getD (i * 3 + 1 + 1) PV.nilp)) : Int).tdiv 256))), PV.int IntKind.u8 (IntKind.u8.wrap ((↑(slLen (c.getD (i * 3 + 1 + 1) PV.nilp)) : Int).tmod 256))])).append (slCells (c.getD (i * 3 + 1 + 1) PV.nilp))) (j + 1 + 2 + slLen (c.getD (i * 3 + 1 + 1) PV.nilp)))))))
                else
                  (bif asI (c.getD (i * 3) PV.nilp) == 3 then
                    (bif decide ((↑(slLen (c.getD (i * 3 + 1 + 1) PV.nilp)) : Int) > 65535) then
                      (some (PV.tup [PV.sl [] 1 0 none, PV.int IntKind.i64 3]))
                    else
                      (ass (j + 1 == j + 1 && (decide (j + 1 ≤ 1048576) && (decide (2 ≤ 1048576) && decide (0 + (j + 1) * 1 ≤ ((List.take (j * 1) out).append [PV.int IntKind.u8 (IntKind.u8.wrap (asI (c.getD (i * 3) PV.nilp)))]).length)))) <|
                      ass (!decide (0 + (j + 1) + 2 ≤ j + 1)) <|
                        ass (oldL 2 (slCells (c.getD (i * 3 + 1 + 1) PV.nilp))) <|
                          ass ((slCells (c.getD (i * 3 + 1 + 1) PV.nilp)).length == slLen (c.getD (i * 3 + 1 + 1) PV.nilp) * 1) <|
                            bif decide (slLen (c.getD (i * 3 + 1 + 1) PV.nilp) = 0) then
                                (bif asI (c.getD (i * 3) PV.nilp) == 2 then
                                  (bif decide (asI (c.getD (i * 3 + 1) PV.nilp) ≥ 0) then
                                    (bif decide (asI (c.getD (i * 3 + 1) PV.nilp) < 255) then
                                      (ass (j + 1 + 2 == j + 1 + 2 && (decide (j + 1 + 2 ≤ 1048576) && (decide (1 ≤ 1048576) && decide (0 + (j + 1 + 2) * 1 ≤ ((List.take ((j + 1) * 1) ((List.take (j * 1) out).append [PV.int IntKind.u8 (IntKind.u8.wrap (asI (c.getD (i * 3) PV.nilp)))])).append [PV.int IntKind.u8 (IntKind.u8.wrap (IntKind.i64.wrap ((↑(slLen (c.getD (i * 3 + 1 + 1) PV.nilp)) : Int).tdiv 256))), PV.int IntKind.u8 (IntKind.u8.wrap ((↑(slLen (c.getD (i * 3 + 1 + 1) PV.nilp)) : Int).tmod 256))]).length)))) <|
                                      ass (!decide (0 + (j + 1 + 2) + 1 ≤ j + 1 + 2)) <|
                                        bif asI (c.getD (i * 3) PV.nilp) == 4 then
                                            (bif decide (asI (c.getD (i * 3 + 1) PV.nilp) < 0) then
                                              (some (PV.tup [PV.sl [] 1 0 none, PV.int IntKind.i64 1]))
                                            else
                                              (bif decide (asI (c.getD (i * 3 + 1) PV.nilp) > 65535) then
                                                (some (PV.tup [PV.sl [] 1 0 none, PV.int IntKind.i64 1]))
                                              else
                                                (ass (j + 1 + 2 + 1 == j + 1 + 2 + 1 && (decide (j + 1 + 2 + 1 ≤ 1048576) && (decide (2 ≤ 1048576) && decide (0 + (j + 1 + 2 + 1) * 1 ≤ ((List.take ((j + 1 + 2) * 1) ((List.take ((j + 1) * 1) ((List.take (j * 1) out).append [PV.int IntKind.u8 (IntKind.u8.wrap (asI (c.getD (i * 3) PV.nilp)))])).append [PV.int IntKind.u8 (IntKind.u8.wrap (IntKind.i64.wrap ((↑(slLen (c.getD (i * 3 + 1 + 1) PV.nilp)) : Int).tdiv 256))), PV.int IntKind.u8 (IntKind.u8.wrap ((↑(slLen (c.getD (i * 3 + 1 + 1) PV.nilp)) : Int).tmod 256))])).append [PV.int IntKind.u8 (IntKind.u8.wrap (asI (c.getD (i * 3 + 1) PV.nilp)))]).length)))) <|
                                                ass (!decide (0 + (j + 1 + 2 + 1) + 2 ≤ j + 1 + 2 + 1)) <|
                                                  ass (oldL 0 c) <|
                                                    ass (oldL 0 c) <|
                                                      ass (oldL 0 ((List.take ((j + 1 + 2 + 1) * 1) ((List.take ((j + 1 + 2) * 1) ((List.take ((j + 1) * 1) ((List.take (j * 1) out).append [PV.int IntKind.u8 (IntKind.u8.wrap (asI (c.getD (i * 3) PV.nilp)))])).append [PV.int IntKind.u8 (IntKind.u8.wrap (IntKind.i64.wrap ((↑(slLen (c.getD (i * 3 + 1 + 1) PV.nilp)) : Int).tdiv 256))), PV.int IntKind.u8 (IntKind.u8.wrap ((↑(slLen (c.getD (i * 3 + 1 + 1) PV.nilp)) : Int).tmod 256))])).append [PV.int IntKind.u8 (IntKind.u8.wrap (asI (c.getD (i * 3 + 1) PV.nilp)))])).append [PV.int IntKind.u8 (IntKind.u8.wrap (IntKind.i64.wrap ((asI (c.getD (i * 3 + 1) PV.nilp)).tdiv 256))), PV.int IntKind.u8 (IntKind.u8.wrap ((asI (c.getD (i * 3 + 1) PV.nilp)).tmod 256))])) <|
                                                        L9b H9 N (m) (c) (n) (IntKind.i64.wrap ((↑i : Int) + 1)) ((List.take ((j + 1 + 2 + 1) * 1) ((List.take ((j + 1 + 2) * 1) ((List.take ((j + 1) * 1) ((List.take (j * 1) out).append [PV.int IntKind.u8 (IntKind.u8.wrap (asI (c.getD (i * 3) PV.nilp)))])).append [PV.int IntKind.u8 (IntKind.u8.wrap (IntKind.i64.wrap ((↑(slLen (c.getD (i * 3 + 1 + 1) PV.nilp)) : Int).tdiv 256))), PV.int IntKind.u8 (IntKind.u8.wrap ((↑(slLen (c.getD (i * 3 + 1 + 1) PV.nilp)) : Int).tmod 256))])).append [PV.int IntKind.u8 (IntKind.u8.wrap (asI (c.getD (i * 3 + 1) PV.nilp)))])).append [PV.int IntKind.u8 (IntKind.u8.wrap (IntKind.i64.wrap ((asI (c.getD (i * 3 + 1) PV.nilp)).tdiv 256))), PV.int IntKind.u8 (IntKind.u8.wrap ((asI (c.getD (i * 3 + 1) PV.nilp)).tmod 256))]) (j + 1 + 2 + 1 + 2))))
                                          else
                                            (ass (oldL 0 c) <|
                                            ass (oldL 0 c) <|
                                              ass (oldL 0 ((List.take ((j + 1 + 2) * 1) ((List.take ((j + 1) * 1) ((List.take (j * 1) out).append [PV.int IntKind.u8 (IntKind.u8.wrap (asI (c.getD (i * 3) PV.nilp)))])).append [PV.int IntKind.u8 (IntKind.u8.wrap (IntKind.i64.wrap ((↑(slLen (c.getD (i * 3 + 1 + 1) PV.nilp)) : Int).tdiv 256))), PV.int IntKind.u8 (IntKind.u8.wrap ((↑(slLen (c.getD (i * 3 + 1 + 1) PV.nilp)) : Int).tmod 256))])).append [PV.int IntKind.u8 (IntKind.u8.wrap (asI (c.getD (i * 3 + 1) PV.nilp)))])) <|
                                                L9b H9 N (m) (c) (n) (IntKind.i64.wrap ((↑i : Int) + 1)) ((List.take ((j + 1 + 2) * 1) ((List.take ((j + 1) * 1) ((List.take (j * 1) out).append [PV.int IntKind.u8 (IntKind.u8.wrap (asI (c.getD (i * 3) PV.nilp)))])).append [PV.int IntKind.u8 (IntKind.u8.wrap (IntKind.i64.wrap ((↑(slLen (c.getD (i * 3 + 1 + 1) PV.nilp)) : Int).tdiv 256))), PV.int IntKind.u8 (IntKind.u8.wrap ((↑(slLen (c.getD (i * 3 + 1 + 1) PV.nilp)) : Int).tmod 256))])).append [PV.int IntKind.u8 (IntKind.u8.wrap (asI (c.getD (i * 3 + 1) PV.nilp)))]) (j + 1 + 2 + 1)))
                                    else
                                      (ass (j + 1 + 2 == j + 1 + 2 && (decide (j + 1 + 2 ≤ 1048576) && (decide (1 ≤ 1048576) && decide (0 + (j + 1 + 2) * 1 ≤ ((List.take ((j + 1) * 1) ((List.take (j * 1) out).append [PV.int IntKind.u8 (IntKind.u8.wrap (asI (c.getD (i * 3) PV.nilp)))])).append [PV.int IntKind.u8 (IntKind.u8.wrap (IntKind.i64.wrap ((↑(slLen (c.getD (i * 3 + 1 + 1) PV.nilp)) : Int).tdiv 256))), PV.int IntKind.u8 (IntKind.u8.wrap ((↑(slLen (c.getD (i * 3 + 1 + 1) PV.nilp)) : Int).tmod 256))]).length)))) <|
                                      ass (!decide (0 + (j + 1 + 2) + 1 ≤ j + 1 + 2)) <|
                                        bif asI (c.getD (i * 3) PV.nilp) == 4 then
                                            (bif decide (asI (c.getD (i * 3 + 1) PV.nilp) < 0) then
                                              (some (PV.tup [PV.sl [] 1 0 none, PV.int IntKind.i64 1]))
                                            else
                                              (bif decide (asI (c.getD (i * 3 + 1) PV.nilp) > 65535) then
                                                (some (PV.tup [PV.sl [] 1 0 none, PV.int IntKind.i64 1]))
                                              else
                                                (ass (j + 1 + 2 + 1 == j + 1 + 2 + 1 && (decide (j + 1 + 2 + 1 ≤ 1048576) && (decide (2 ≤ 1048576) && decide (0 + (j + 1 + 2 + 1) * 1 ≤ ((List.take ((j + 1 + 2) * 1) ((List.take ((j + 1) * 1) ((List.take (j * 1) out).append [PV.int IntKind.u8 (IntKind.u8.wrap (asI (c.getD (i * 3) PV.nilp)))])).append [PV.int IntKind.u8 (IntKind.u8.wrap (IntKind.i64.wrap ((↑(slLen (c.getD (i * 3 + 1 + 1) PV.nilp)) : Int).tdiv 256))), PV.int IntKind.u8 (IntKind.u8.wrap ((↑(slLen (c.getD (i * 3 + 1 + 1) PV.nilp)) : Int).tmod 256))])).append [PV.int IntKind.u8 255]).length)))) <|
                                                ass (!decide (0 + (j + 1 + 2 + 1) + 2 ≤ j + 1 + 2 + 1)) <|
                                                  ass (oldL 0 c) <|
                                                    ass (oldL 0 c) <|
                                                      ass (oldL 0 ((List.take ((j + 1 + 2 + 1) * 1) ((List.take ((j + 1 + 2) * 1) ((List.take ((j + 1) * 1) ((List.take (j * 1) out).append [PV.int IntKind.u8 (IntKind.u8.wrap (asI (c.getD (i * 3) PV.nilp)))])).append [PV.int IntKind.u8 (IntKind.u8.wrap (IntKind.i64.wrap ((↑(slLen (c.getD (i * 3 + 1 + 1) PV.nilp)) : Int).tdiv 256))), PV.int IntKind.u8 (IntKind.u8.wrap ((↑(slLen (c.getD (i * 3 + 1 + 1) PV.nilp)) : Int).tmod 256))])).append [PV.int IntKind.u8 255])).append [PV.int IntKind.u8 (IntKind.u8.wrap (IntKind.i64.wrap ((asI (c.getD (i * 3 + 1) PV.nilp)).tdiv 256))), PV.int IntKind.u8 (IntKind.u8.wrap ((asI (c.getD (i * 3 + 1) PV.nilp)).tmod 256))])) <|
                                                        L9b H9 N (m) (c) (n) (IntKind.i64.wrap ((↑i : Int) + 1)) ((List.take ((j + 1 + 2 + 1) * 1) ((List.take ((j + 1 + 2) * 1) ((List.take ((j + 1) * 1) ((List.take (j * 1) out).append [PV.int IntKind.u8 (IntKind.u8.wrap (asI (c.getD (i * 3) PV.nilp)))])).append [PV.int IntKind.u8 (IntKind.u8.wrap (IntKind.i64.wrap ((↑(slLen (c.getD (i * 3 + 1 + 1) PV.nilp)) : Int).tdiv 256))), PV.int IntKind.u8 (IntKind.u8.wrap ((↑(slLen (c.getD (i * 3 + 1 + 1) PV.nilp)) : Int).tmod 256))])).append [PV.int IntKind.u8 255])).append [PV.int IntKind.u8 (IntKind.u8.wrap (IntKind.i64.wrap ((asI (c.getD (i * 3 + 1) PV.nilp)).tdiv 256))), PV.int IntKind.u8 (IntKind.u8.wrap ((asI (c.getD (i * 3 + 1) PV.nilp)).tmod 256))]) (j + 1 + 2 + 1 + 2))))
                                          else
                                            (ass (oldL 0 c) <|
                                            ass (oldL 0 c) <|
                                              ass (oldL 0 ((List.take ((j + 1 + 2) * 1) ((List.take ((j + 1) * 1) ((List.take (j * 1) out).append [PV.int IntKind.u8 (IntKind.u8.wrap (asI (c.getD (i * 3) PV.nilp)))])).append [PV.int IntKind.u8 (IntKind.u8.wrap (IntKind.i64.wrap ((↑(slLen (c.getD (i * 3 + 1 + 1) PV.nilp)) : Int).tdiv 256))), PV.int IntKind.u8 (IntKind.u8.wrap ((↑(slLen (c.getD (i * 3 + 1 + 1) PV.nilp)) : Int).tmod 256))])).append [PV.int IntKind.u8 255])) <|
                                                L9b H9 N (m) (c) (n) (IntKind.i64.wrap ((↑i : Int) + 1)) ((List.take ((j + 1 + 2) * 1) ((List.take ((j + 1) * 1) ((List.take (j * 1) out).append [PV.int IntKind.u8 (IntKind.u8.wrap (asI (c.getD (i * 3) PV.nilp)))])).append [PV.int IntKind.u8 (IntKind.u8.wrap (IntKind.i64.wrap ((↑(slLen (c.getD (i * 3 + 1 + 1) PV.nilp)) : Int).tdiv 256))), PV.int IntKind.u8 (IntKind.u8.wrap ((↑(slLen (c.getD (i * 3 + 1 + 1) PV.nilp)) : Int).tmod 256))])).append [PV.int IntKind.u8 255]) (j + 1 + 2 + 1))))
                                  else
                                    (ass (j + 1 + 2 == j + 1 + 2 && (decide (j + 1 + 2 ≤ 1048576) && (decide (1 ≤ 1048576) && decide (0 + (j + 1 + 2) * 1 ≤ ((List.take ((j + 1) * 1) ((List.take (j * 1) out).append [PV.int IntKind.u8 (IntKind.u8.wrap (asI (c.getD (i * 3) PV.nilp)))])).append [PV.int IntKind.u8 (IntKind.u8.wrap (IntKind.i64.wrap ((↑(slLen (c.getD (i * 3 + 1 + 1) PV.nilp)) : Int).tdiv 256))), PV.int IntKind.u8 (IntKind.u8.wrap ((↑(slLen (c.getD (i * 3 + 1 + 1) PV.nilp)) : Int).tmod 256))]).length)))) <|
                                    ass (!decide (0 + (j + 1 + 2) + 1 ≤ j + 1 + 2)) <|
                                      bif asI (c.getD (i * 3) PV.nilp) == 4 then
                                          (bif decide (asI (c.getD (i * 3 + 1) PV.nilp) < 0) then
                                            (some (PV.tup [PV.sl [] 1 0 none, PV.int IntKind.i64 1]))
                                          else
                                            (bif decide (asI (c.getD (i * 3 + 1) PV.nilp) > 65535) then
                                              (some (PV.tup [PV.sl [] 1 0 none, PV.int IntKind.i64 1]))
                                            else
                                              (ass (j + 1 + 2 + 1 == j + 1 + 2 + 1 && (decide (j + 1 + 2 + 1 ≤ 1048576) && (decide (2 ≤ 1048576) && decide (0 + (j + 1 + 2 + 1) * 1 ≤ ((List.take ((j + 1 + 2) * 1) ((List.take ((j + 1) * 1) ((List.take (j * 1) out).append [PV.int IntKind.u8 (IntKind.u8.wrap (asI (c.getD (i * 3) PV.nilp)))])).append [PV.int IntKind.u8 (IntKind.u8.wrap (IntKind.i64.wrap ((↑(slLen (c.getD (i * 3 + 1 + 1) PV.nilp)) : Int).tdiv 256))), PV.int IntKind.u8 (IntKind.u8.wrap ((↑(slLen (c.getD (i * 3 + 1 + 1) PV.nilp)) : Int).tmod 256))])).append [PV.int IntKind.u8 255]).length)))) <|
                                              ass (!decide (0 + (j + 1 + 2 + 1) + 2 ≤ j + 1 + 2 + 1)) <|
                                                ass (oldL 0 c) <|
                                                  ass (oldL 0 c) <|
                                                    ass (oldL 0 ((List.take ((j + 1 + 2 + 1) * 1) ((List.take ((j + 1 + 2) * 1) ((List.take ((j + 1) * 1) ((List.take (j * 1) out).append [PV.int IntKind.u8 (IntKind.u8.wrap (asI (c.getD (i * 3) PV.nilp)))])).append [PV.int IntKind.u8 (IntKind.u8.wrap (IntKind.i64.wrap ((↑(slLen (c.getD (i * 3 + 1 + 1) PV.nilp)) : Int).tdiv 256))), PV.int IntKind.u8 (IntKind.u8.wrap ((↑(slLen (c.getD (i * 3 + 1 + 1) PV.nilp)) : Int).tmod 256))])).append [PV.int IntKind.u8 255])).append [PV.int IntKind.u8 (IntKind.u8.wrap (IntKind.i64.wrap ((asI (c.getD (i * 3 + 1) PV.nilp)).tdiv 256))), PV.int IntKind.u8 (IntKind.u8.wrap ((asI (c.getD (i * 3 + 1) PV.nilp)).tmod 256))])) <|
                                                      L9b H9 N (m) (c) (n) (IntKind.i64.wrap ((↑i : Int) + 1)) ((List.take ((j + 1 + 2 + 1) * 1) ((List.take ((j + 1 + 2) * 1) ((List.take ((j + 1) * 1) ((List.take (j * 1) out).append [PV.int IntKind.u8 (IntKind.u8.wrap (asI (c.getD (i * 3) PV.nilp)))])).append [PV.int IntKind.u8 (IntKind.u8.wrap (IntKind.i64.wrap ((↑(slLen (c.getD (i * 3 + 1 + 1) PV.nilp)) : Int).tdiv 256))), PV.int IntKind.u8 (IntKind.u8.wrap ((↑(slLen (c.getD (i * 3 + 1 + 1) PV.nilp)) : Int).tmod 256))])).append [PV.int IntKind.u8 255])).append [PV.int IntKind.u8 (IntKind.u8.wrap (IntKind.i64.wrap ((asI (c.getD (i * 3 + 1) PV.nilp)).tdiv 256))), PV.int IntKind.u8 (IntKind.u8.wrap ((asI (c.getD (i * 3 + 1) PV.nilp)).tmod 256))]) (j + 1 + 2 + 1 + 2))))
                                        else
                                          (ass (oldL 0 c) <|
                                          ass (oldL 0 c) <|
                                            ass (oldL 0 ((List.take ((j + 1 + 2) * 1) ((List.take ((j + 1) * 1) ((List.take (j * 1) out).append [PV.int IntKind.u8 (IntKind.u8.wrap (asI (c.getD (i * 3) PV.nilp)))])).append [PV.int IntKind.u8 (IntKind.u8.wrap (IntKind.i64.wrap ((↑(slLen (c.getD (i * 3 + 1 + 1) PV.nilp)) : Int).tdiv 256))), PV.int IntKind.u8 (IntKind.u8.wrap ((↑(slLen (c.getD (i * 3 + 1 + 1) PV.nilp)) : Int).tmod 256))])).append [PV.int IntKind.u8 255])) <|
                                              L9b H9 N (m) (c) (n) (IntKind.i64.wrap ((↑i : Int) + 1)) ((List.take ((j + 1 + 2) * 1) ((List.take ((j + 1) * 1) ((List.take (j * 1) out).append [PV.int IntKind.u8 (IntKind.u8.wrap (asI (c.getD (i * 3) PV.nilp)))])).append [PV.int IntKind.u8 (IntKind.u8.wrap (IntKind.i64.wrap ((↑(slLen (c.getD (i * 3 + 1 + 1) PV.nilp)) : Int).tdiv 256))), PV.int IntKind.u8 (IntKind.u8.wrap ((↑(slLen (c.getD (i * 3 + 1 + 1) PV.nilp)) : Int).tmod 256))])).append [PV.int IntKind.u8 255]) (j + 1 + 2 + 1))))
                                else
                                  (bif asI (c.getD (i * 3) PV.nilp) == 4 then
                                    (bif decide (asI (c.getD (i * 3 + 1) PV.nilp) < 0) then
                                      (some (PV.tup [PV.sl [] 1 0 none, PV.int IntKind.i64 1]))
                                    else
                                      (bif decide (asI (c.getD (i * 3 + 1) PV.nilp) > 65535) then
                                        (some (PV.tup [PV.sl [] 1 0 none, PV.int IntKind.i64 1]))
                                      else
                                        (ass (j + 1 + 2 == j + 1 + 2 && (decide (j + 1 + 2 ≤ 1048576) && (decide (2 ≤ 1048576) && decide (0 + (j + 1 + 2) * 1 ≤ ((List.take ((j + 1) * 1) ((List.take (j * 1) out).append [PV.int IntKind.u8 (IntKind.u8.wrap (asI (c.getD (i * 3) PV.nilp)))])).append [PV.int IntKind.u8 (IntKind.u8.wrap (IntKind.i64.wrap ((↑(slLen (c.getD (i * 3 + 1 + 1) PV.nilp)) : Int).tdiv 256))), PV.int IntKind.u8 (IntKind.u8.wrap ((↑(slLen (c.getD (i * 3 + 1 + 1) PV.nilp)) : Int).tmod 256))]).length)))) <|
                                        ass (!decide (0 + (j + 1 + 2) + 2 ≤ j + 1 + 2)) <|
                                          ass (oldL 0 c) <|
                                            ass (oldL 0 c) <|
                                              ass (oldL 0 ((List.take ((j + 1 + 2) * 1) ((List.take ((j + 1) * 1) ((List.take (j * 1) out).append [PV.int IntKind.u8 (IntKind.u8.wrap (asI (c.getD (i * 3) PV.nilp)))])).append [PV.int IntKind.u8 (IntKind.u8.wrap (IntKind.i64.wrap ((↑(slLen (c.getD (i * 3 + 1 + 1) PV.nilp)) : Int).tdiv 256))), PV.int IntKind.u8 (IntKind.u8.wrap ((↑(slLen (c.getD (i * 3 + 1 + 1) PV.nilp)) : Int).tmod 256))])).append [PV.int IntKind.u8 (IntKind.u8.wrap (IntKind.i64.wrap ((asI (c.getD (i * 3 + 1) PV.nilp)).tdiv 256))), PV.int IntKind.u8 (IntKind.u8.wrap ((asI (c.getD (i * 3 + 1) PV.nilp)).tmod 256))])) <|
                                                L9b H9 N (m) (c) (n) (IntKind.i64.wrap ((↑i : Int) + 1)) ((List.take ((j + 1 + 2) * 1) ((List.take ((j + 1) * 1) ((List.take (j * 1) out).append [PV.int IntKind.u8 (IntKind.u8.wrap (asI (c.getD (i * 3) PV.nilp)))])).append [PV.int IntKind.u8 (IntKind.u8.wrap (IntKind.i64.wrap ((↑(slLen (c.getD (i * 3 + 1 + 1) PV.nilp)) : Int).tdiv 256))), PV.int IntKind.u8 (IntKind.u8.wrap ((↑(slLen (c.getD (i * 3 + 1 + 1) PV.nilp)) : Int).tmod 256))])).append [PV.int IntKind.u8 (IntKind.u8.wrap (IntKind.i64.wrap ((asI (c.getD (i * 3 + 1) PV.nilp)).tdiv 256))), PV.int IntKind.u8 (IntKind.u8.wrap ((asI (c.getD (i * 3 + 1) PV.nilp)).tmod 256))]) (j + 1 + 2 + 2))))
                                  else
                                    (ass (oldL 0 c) <|
                                    ass (oldL 0 c) <|
                                      ass (oldL 0 ((List.take ((j + 1) * 1) ((List.take (j * 1) out).append [PV.int IntKind.u8 (IntKind.u8.wrap (asI (c.getD (i * 3) PV.nilp)))])).append [PV.int IntKind.u8 (IntKind.u8.wrap (IntKind.i64.wrap ((↑(slLen (c.getD (i * 3 + 1 + 1) PV.nilp)) : Int).tdiv 256))), PV.int IntKind.u8 (IntKind.u8.wrap ((↑(slLen (c.getD (i * 3 + 1 + 1) PV.nilp)) : Int).tmod 256))])) <|
                                        L9b H9 N (m) (c) (n) (IntKind.i64.wrap ((↑i : Int) + 1)) ((List.take ((j + 1) * 1) ((List.take (j * 1) out).append [PV.int IntKind.u8 (IntKind.u8.wrap (asI (c.getD (i * 3) PV.nilp)))])).append [PV.int IntKind.u8 (IntKind.u8.wrap (IntKind.i64.wrap ((↑(slLen (c.getD (i * 3 + 1 + 1) PV.nilp)) : Int).tdiv 256))), PV.int IntKind.u8 (IntKind.u8.wrap ((↑(slLen (c.getD (i * 3 + 1 + 1) PV.nilp)) : Int).tmod 256))]) (j + 1 + 2))))
                              else
                                (ass (j + 1 + 2 == j + 1 + 2 && (decide (j + 1 + 2 ≤ 1048576) && (decide (slLen (c.getD (i * 3 + 1 + 1) PV.nilp) ≤ 1048576) && decide (0 + (j + 1 + 2) * 1 ≤ ((List.take ((j + 1) * 1) ((List.take (j * 1) out).append [PV.int IntKind.u8 (IntKind.u8.wrap (asI (c.getD (i * 3) PV.nilp)))])).append [PV.int IntKind.u8 (IntKind.u8.wrap (IntKind.i64.wrap ((↑(slLen (c.getD (i * 3 + 1 + 1) PV.nilp)) : Int).tdiv 256))), PV.int IntKind.u8 (IntKind.u8.wrap ((↑(slLen (c.getD (i * 3 + 1 + 1) PV.nilp)) : Int).tmod 256))]).length)))) <|
                                ass (!decide (0 + (j + 1 + 2) + slLen (c.getD (i * 3 + 1 + 1) PV.nilp) ≤ j + 1 + 2)) <|
                                  bif asI (c.getD (i * 3) PV.nilp) == 2 then
                                      (bif decide (asI (c.getD (i * 3 + 1) PV.nilp) ≥ 0) then
                                        (bif decide (asI (c.getD (i * 3 + 1) PV.nilp) < 255) then
                                          (ass (j + 1 + 2 + slLen (c.getD (i * 3 + 1 + 1) PV.nilp) == j + 1 + 2 + slLen (c.getD (i * 3 + 1 + 1) PV.nilp) && (decide (j + 1 + 2 + slLen (c.getD (i * 3 + 1 + 1) PV.nilp) ≤ 1048576) && (decide (1 ≤ 1048576) && decide (0 + (j + 1 + 2 + slLen (c.getD (i * 3 + 1 + 1) PV.nilp)) * 1 ≤ ((List.take ((j + 1 + 2) * 1) ((List.take ((j + 1) * 1) ((List.take (j * 1) out).append [PV.int IntKind.u8 (IntKind.u8.wrap (asI (c.getD (i * 3) PV.nilp)))])).append [PV.int IntKind.u8 (IntKind.u8.wrap (IntKind.i64.wrap ((↑(slLen (c.getD (i * 3 + 1 + 1) PV.nilp)) : Int).tdiv 256))), PV.int IntKind.u8 (IntKind.u8.wrap ((↑(slLen (c.getD (i * 3 + 1 + 1) PV.nilp)) : Int).tmod 256))])).append (slCells (c.getD (i * 3 + 1 + 1) PV.nilp))).length)))) <|
                                          ass (!decide (0 + (j + 1 + 2 + slLen (c.getD (i * 3 + 1 + 1) PV.nilp)) + 1 ≤ j + 1 + 2 + slLen (c.getD (i * 3 + 1 + 1) PV.nilp))) <|
                                            bif asI (c.getD (i * 3) PV.nilp) == 4 then
                                                (bif decide (asI (c.getD (i * 3 + 1) PV.nilp) < 0) then
                                                  (some (PV.tup [PV.sl [] 1 0 none, PV.int IntKind.i64 1]))
                                                else
                                                  (bif decide (asI (c.getD (i * 3 + 1) PV.nilp) > 65535) then
                                                    (some (PV.tup [PV.sl [] 1 0 none, PV.int IntKind.i64 1]))
                                                  else
                                                    (ass (j + 1 + 2 + slLen (c.getD (i * 3 + 1 + 1) PV.nilp) + 1 == j + 1 + 2 + slLen (c.getD (i * 3 + 1 + 1) PV.nilp) + 1 && (decide (j + 1 + 2 + slLen (c.getD (i * 3 + 1 + 1) PV.nilp) + 1 ≤ 1048576) && (decide (2 ≤ 1048576) && decide (0 + (j + 1 + 2 + slLen (c.getD (i * 3 + 1 + 1) PV.nilp) + 1) * 1 ≤ ((List.take ((j + 1 + 2 + slLen (c.getD (i * 3 + 1 + 1) PV.nilp)) * 1) ((List.take ((j + 1 + 2) * 1) ((List.take ((j + 1) * 1) ((List.take (j * 1) out).append [PV.int IntKind.u8 (IntKind.u8.wrap (asI (c.getD (i * 3) PV.nilp)))])).append [PV.int IntKind.u8 (IntKind.u8.wrap (IntKind.i64.wrap ((↑(slLen (c.getD (i * 3 + 1 + 1) PV.nilp)) : Int).tdiv 256))), PV.int IntKind.u8 (IntKind.u8.wrap ((↑(slLen (c.getD (i * 3 + 1 + 1) PV.nilp)) : Int).tmod 256))])).append (slCells (c.getD (i * 3 + 1 + 1) PV.nilp)))).append [PV.int IntKind.u8 (IntKind.u8.wrap (asI (c.getD (i * 3 + 1) PV.nilp)))]).length)))) <|
                                                    ass (!decide (0 + (j + 1 + 2 + slLen (c.getD (i * 3 + 1 + 1) PV.nilp) + 1) + 2 ≤ j + 1 + 2 + slLen (c.getD (i * 3 + 1 + 1) PV.nilp) + 1)) <|
                                                      ass (oldL 0 c) <|
                                                        ass (oldL 0 c) <|
                                                          ass (oldL 0 ((List.take ((j + 1 + 2 + slLen (c.getD (i * 3 + 1 + 1) PV.nilp) + 1) * 1) ((List.take ((j + 1 + 2 + slLen (c.getD (i * 3 + 1 + 1) PV.nilp)) * 1) ((List.take ((j + 1 + 2) * 1) ((List.take ((j + 1) * 1) ((List.take (j * 1) out).append [PV.int IntKind.u8 (IntKind.u8.wrap (asI (c.getD (i * 3) PV.nilp)))])).append [PV.int IntKind.u8 (IntKind.u8.wrap (IntKind.i64.wrap ((↑(slLen (c.getD (i * 3 + 1 + 1) PV.nilp)) : Int).tdiv 256))), PV.int IntKind.u8 (IntKind.u8.wrap ((↑(slLen (c.getD (i * 3 + 1 + 1) PV.nilp)) : Int).tmod 256))])).append (slCells (c.getD (i * 3 + 1 + 1) PV.nilp)))).append [PV.int IntKind.u8 (IntKind.u8.wrap (asI (c.getD (i * 3 + 1) PV.nilp)))])).append [PV.int IntKind.u8 (IntKind.u8.wrap (IntKind.i64.wrap ((asI (c.getD (i * 3 + 1) PV.nilp)).tdiv 256))), PV.int IntKind.u8 (IntKind.u8.wrap ((asI (c.getD (i * 3 + 1) PV.nilp)).tmod 256))])) <|
                                                            L9b H9 N (m) (c) (n) (IntKind.i64.wrap ((↑i : Int) + 1)) ((List.take ((j + 1 + 2 + slLen (c.getD (i * 3 + 1 + 1) PV.nilp) + 1) * 1) ((List.take ((j + 1 + 2 + slLen (c.getD (i * 3 + 1 + 1) PV.nilp)) * 1) ((List.take ((j + 1 + 2) * 1) ((List.take ((j + 1) * 1) ((List.take (j * 1) out).append [PV.int IntKind.u8 (IntKind.u8.wrap (asI (c.getD (i * 3) PV.nilp)))])).append [PV.int IntKind.u8 (IntKind.u8.wrap (IntKind.i64.wrap ((↑(slLen (c.getD (i * 3 + 1 + 1) PV.nilp)) : Int).tdiv 256))), PV.int IntKind.u8 (IntKind.u8.wrap ((↑(slLen (c.getD (i * 3 + 1 + 1) PV.nilp)) : Int).tmod 256))])).append (slCells (c.getD (i * 3 + 1 + 1) PV.nilp)))).append [PV.int IntKind.u8 (IntKind.u8.wrap (asI (c.getD (i * 3 + 1) PV.nilp)))])).append [PV.int IntKind.u8 (IntKind.u8.wrap (IntKind.i64.wrap ((asI (c.getD (i * 3 + 1) PV.nilp)).tdiv 256))), PV.int IntKind.u8 (IntKind.u8.wrap ((asI (c.getD (i * 3 + 1) PV.nilp)).tmod 256))]) (j + 1 + 2 + slLen (c.getD (i * 3 + 1 + 1) PV.nilp) + 1 + 2))))
                                              else
                                                (ass (oldL 0 c) <|
                                                ass (oldL 0 c) <|
                                                  ass (oldL 0 ((List.take ((j + 1 + 2 + slLen (c.getD (i * 3 + 1 + 1) PV.nilp)) * 1) ((List.take ((j + 1 + 2) * 1) ((List.take ((j + 1) * 1) ((List.take (j * 1) out).append [PV.int IntKind.u8 (IntKind.u8.wrap (asI (c.getD (i * 3) PV.nilp)))])).append [PV.int IntKind.u8 (IntKind.u8.wrap (IntKind.i64.wrap ((↑(slLen (c.getD (i * 3 + 1 + 1) PV.nilp)) : Int).tdiv 256))), PV.int IntKind.u8 (IntKind.u8.wrap ((↑(slLen (c.getD (i * 3 + 1 + 1) PV.nilp)) : Int).tmod 256))])).append (slCells (c.getD (i * 3 + 1 + 1) PV.nilp)))).append [PV.int IntKind.u8 (IntKind.u8.wrap (asI (c.getD (i * 3 + 1) PV.nilp)))])) <|
                                                    L9b H9 N (m) (c) (n) (IntKind.i64.wrap ((↑i : Int) + 1)) ((List.take ((j + 1 + 2 + slLen (c.getD (i * 3 + 1 + 1) PV.nilp)) * 1) ((List.take ((j + 1 + 2) * 1) ((List.take ((j + 1) * 1) ((List.take (j * 1) out).append [PV.int IntKind.u8 (IntKind.u8.wrap (asI (c.getD (i * 3) PV.nilp)))])).append [PV.int IntKind.u8 (IntKind.u8.wrap (IntKind.i64.wrap ((↑(slLen (c.getD (i * 3 + 1 + 1) PV.nilp)) : Int).tdiv 256))), PV.int IntKind.u8 (IntKind.u8.wrap ((↑(slLen (c.getD (i * 3 + 1 + 1) PV.nilp)) : Int).tmod 256))])).append (slCells (c.getD (i * 3 + 1 + 1) PV.nilp)))).append [PV.int IntKind.u8 (IntKind.u8.wrap (asI (c.getD (i * 3 + 1) PV.nilp)))]) (j + 1 + 2 + slLen (c.getD (i * 3 + 1 + 1) PV.nilp) + 1)))
                                        else
                                          (ass (j + 1 + 2 + slLen (c.getD (i * 3 + 1 + 1) PV.nilp) == j + 1 + 2 + slLen (c.getD (i * 3 + 1 + 1) PV.nilp) && (decide (j + 1 + 2 + slLen (c.getD (i * 3 + 1 + 1) PV.nilp) ≤ 1048576) && (decide (1 ≤ 1048576) && decide (0 + (j + 1 + 2 + slLen (c.getD (i * 3 + 1 + 1) PV.nilp)) * 1 ≤ ((List.take ((j + 1 + 2) * 1) ((List.take ((j + 1) * 1) ((List.take (j * 1) out).append [PV.int IntKind.u8 (IntKind.u8.wrap (asI (c.getD (i * 3) PV.nilp)))])).append [PV.int IntKind.u8 (IntKind.u8.wrap (IntKind.i64.wrap ((↑(slLen (c.getD (i * 3 + 1 + 1) PV.nilp)) : Int).tdiv 256))), PV.int IntKind.u8 (IntKind.u8.wrap ((↑(slLen (c.getD (i * 3 + 1 + 1) PV.nilp)) : Int).tmod 256))])).append (slCells (c.getD (i * 3 + 1 + 1) PV.nilp))).length)))) <|
                                          ass (!decide (0 + (j + 1 + 2 + slLen (c.getD (i * 3 + 1 + 1) PV.nilp)) + 1 ≤ j + 1 + 2 + slLen (c.getD (i * 3 + 1 + 1) PV.nilp))) <|
                                            bif asI (c.getD (i * 3) PV.nilp) == 4 then
                                                (bif decide (asI (c.getD (i * 3 + 1) PV.nilp) < 0) then
                                                  (some (PV.tup [PV.sl [] 1 0 none, PV.int IntKind.i64 1]))
                                                else
                                                  (bif decide (asI (c.getD (i * 3 + 1) PV.nilp) > 65535) then
                                                    (some (PV.tup [PV.sl [] 1 0 none, PV.int IntKind.i64 1]))
                                                  else
                                                    (ass (j + 1 + 2 + slLen (c.getD (i * 3 + 1 + 1) PV.nilp) + 1 == j + 1 + 2 + slLen (c.getD (i * 3 + 1 + 1) PV.nilp) + 1 && (decide (j + 1 + 2 + slLen (c.getD (i * 3 + 1 + 1) PV.nilp) + 1 ≤ 1048576) && (decide (2 ≤ 1048576) && decide (0 + (j + 1 + 2 + slLen (c.getD (i * 3 + 1 + 1) PV.nilp) + 1) * 1 ≤ ((List.take ((j + 1 + 2 + slLen (c.getD (i * 3 + 1 + 1) PV.nilp)) * 1) ((List.take ((j + 1 + 2) * 1) ((List.take ((j + 1) * 1) ((List.take (j * 1) out).append [PV.int IntKind.u8 (IntKind.u8.wrap (asI (c.getD (i * 3) PV.nilp)))])).append [PV.int IntKind.u8 (IntKind.u8.wrap (IntKind.i64.wrap ((↑(slLen (c.getD (i * 3 + 1 + 1) PV.nilp)) : Int).tdiv 256))), PV.int IntKind.u8 (IntKind.u8.wrap ((↑(slLen (c.getD (i * 3 + 1 + 1) PV.nilp)) : Int).tmod 256))])).append (slCells (c.getD (i * 3 + 1 + 1) PV.nilp)))).append [PV.int IntKind.u8 255]).length)))) <|
                                                    ass (!decide (0 + (j + 1 + 2 + slLen (c.getD (i * 3 + 1 + 1) PV.nilp) + 1) + 2 ≤ j + 1 + 2 + slLen (c.getD (i * 3 + 1 + 1) PV.nilp) + 1)) <|
                                                      ass (oldL 0 c) <|
                                                        ass (oldL 0 c) <|
                                                          ass (oldL 0 ((List.take ((j + 1 + 2 + slLen (c.getD (i * 3 + 1 + 1) PV.nilp) + 1) * 1) ((List.take ((j + 1 + 2 + slLen (c.getD (i * 3 + 1 + 1) PV.nilp)) * 1) ((List.take ((j + 1 + 2) * 1) ((List.take ((j + 1) * 1) ((List.take (j * 1) out).append [PV.int IntKind.u8 (IntKind.u8.wrap (asI (c.getD (i * 3) PV.nilp)))])).append [PV.int IntKind.u8 (IntKind.u8.wrap (IntKind.i64.wrap ((↑(slLen (c.getD (i * 3 + 1 + 1) PV.nilp)) : Int).tdiv 256))), PV.int IntKind.u8 (IntKind.u8.wrap ((↑(slLen (c.getD (i * 3 + 1 + 1) PV.nilp)) : Int).tmod 256))])).append (slCells (c.getD (i * 3 + 1 + 1) PV.nilp)))).append [PV.int IntKind.u8 255])).append [PV.int IntKind.u8 (IntKind.u8.wrap (IntKind.i64.wrap ((asI (c.getD (i * 3 + 1) PV.nilp)).tdiv 256))), PV.int IntKind.u8 (IntKind.u8.wrap ((asI (c.getD (i * 3 + 1) PV.nilp)).tmod 256))])) <|
                                                            L9b H9 N (m) (c) (n) (IntKind.i64.wrap ((↑i : Int) + 1)) ((List.take ((j + 1 + 2 + slLen (c.getD (i * 3 + 1 + 1) PV.nilp) + 1) * 1) ((List.take ((j + 1 + 2 + slLen (c.getD (i * 3 + 1 + 1) PV.nilp)) * 1) ((List.take ((j + 1 + 2) * 1) ((List.take ((j + 1) * 1) ((List.take (j * 1) out).append [PV.int IntKind.u8 (IntKind.u8.wrap (asI (c.getD (i * 3) PV.nilp)))])).append [PV.int IntKind.u8 (IntKind.u8.wrap (IntKind.i64.wrap ((↑(slLen (c.getD (i * 3 + 1 + 1) PV.nilp)) : Int).tdiv 256))), PV.int IntKind.u8 (IntKind.u8.wrap ((↑(slLen (c.getD (i * 3 + 1 + 1) PV.nilp)) : Int).tmod 256))])).append (slCells (c.getD (i * 3 + 1 + 1) PV.nilp)))).append [PV.int IntKind.u8 255])).append [PV.int IntKind.u8 (IntKind.u8.wrap (IntKind.i64.wrap ((asI (c.getD (i * 3 + 1) PV.nilp)).tdiv 256))), PV.int IntKind.u8 (IntKind.u8.wrap ((asI (c.getD (i * 3 + 1) PV.nilp)).tmod 256))]) (j + 1 + 2 + slLen (c.getD (i * 3 + 1 + 1) PV.nilp) + 1 + 2))))
                                              else
                                                (ass (oldL 0 c) <|
                                                ass (oldL 0 c) <|
                                                  ass (oldL 0 ((List.take ((j + 1 + 2 + slLen (c.getD (i * 3 + 1 + 1) PV.nilp)) * 1) ((List.take ((j + 1 + 2) * 1) ((List.take ((j + 1) * 1) ((List.take (j * 1) out).append [PV.int IntKind.u8 (IntKind.u8.wrap (asI (c.getD (i * 3) PV.nilp)))])).append [PV.int IntKind.u8 (IntKind.u8.wrap (IntKind.i64.wrap ((↑(slLen (c.getD (i * 3 + 1 + 1) PV.nilp)) : Int).tdiv 256))), PV.int IntKind.u8 (IntKind.u8.wrap ((↑(slLen (c.getD (i * 3 + 1 + 1) PV.nilp)) : Int).tmod 256))])).append (slCells (c.getD (i * 3 + 1 + 1) PV.nilp)))).append [PV.int IntKind.u8 255])) <|
                                                    L9b H9 N (m) (c) (n) (IntKind.i64.wrap ((↑i : Int) + 1)) ((List.take ((j + 1 + 2 + slLen (c.getD (i * 3 + 1 + 1) PV.nilp)) * 1) ((List.take ((j + 1 + 2) * 1) ((List.take ((j + 1) * 1) ((List.take (j * 1) out).append [PV.int IntKind.u8 (IntKind.u8.wrap (asI (c.getD (i * 3) PV.nilp)))])).append [PV.int IntKind.u8 (IntKind.u8.wrap (IntKind.i64.wrap ((↑(slLen (c.getD (i * 3 + 1 + 1) PV.nilp)) : Int).tdiv 256))), PV.int IntKind.u8 (IntKind.u8.wrap ((↑(slLen (c.getD (i * 3 + 1 + 1) PV.nilp)) : Int).tmod 256))])).append (slCells (c.getD (i * 3 + 1 + 1) PV.nilp)))).append [PV.int IntKind.u8 255]) (j + 1 + 2 + slLen (c.getD (i * 3 + 1 + 1) PV.nilp) + 1))))
                                      else
                                        (ass (j + 1 + 2 + slLen (c.getD (i * 3 + 1 + 1) PV.nilp) == j + 1 + 2 + slLen (c.getD (i * 3 + 1 + 1) PV.nilp) && (decide (j + 1 + 2 + slLen (c.getD (i * 3 + 1 + 1) PV.nilp) ≤ 1048576) && (decide (1 ≤ 1048576) && decide (0 + (j + 1 + 2 + slLen (c.getD (i * 3 + 1 + 1) PV.nilp)) * 1 ≤ ((List.take ((j + 1 + 2) * 1) ((List.take ((j + 1) * 1) ((List.take (j * 1) out).append [PV.int IntKind.u8 (IntKind.u8.wrap (asI (c.getD (i * 3) PV.nilp)))])).append [PV.int IntKind.u8 (IntKind.u8.wrap (IntKind.i64.wrap ((↑(slLen (c.getD (i * 3 + 1 + 1) PV.nilp)) : Int).tdiv 256))), PV.int IntKind.u8 (IntKind.u8.wrap ((↑(slLen (c.getD (i * 3 + 1 + 1) PV.nilp)) : Int).tmod 256))])).append (slCells (c.getD (i * 3 + 1 + 1) PV.nilp))).length)))) <|
                                        ass (!decide (0 + (j + 1 + 2 + slLen (c.getD (i * 3 + 1 + 1) PV.nilp)) + 1 ≤ j + 1 + 2 + slLen (c.getD (i * 3 + 1 + 1) PV.nilp))) <|
                                          bif asI (c.getD (i * 3) PV.nilp) == 4 then
                                              (bif decide (asI (c.getD (i * 3 + 1) PV.nilp) < 0) then
                                                (some (PV.tup [PV.sl [] 1 0 none, PV.int IntKind.i64 1]))
                                              else
                                                (bif decide (asI (c.getD (i * 3 + 1) PV.nilp) > 65535) then
                                                  (some (PV.tup [PV.sl [] 1 0 none, PV.int IntKind.i64 1]))
                                                else
                                                  (ass (j + 1 + 2 + slLen (c.getD (i * 3 + 1 + 1) PV.nilp) + 1 == j + 1 + 2 + slLen (c.getD (i * 3 + 1 + 1) PV.nilp) + 1 && (decide (j + 1 + 2 + slLen (c.getD (i * 3 + 1 + 1) PV.nilp) + 1 ≤ 1048576) && (decide (2 ≤ 1048576) && decide (0 + (j + 1 + 2 + slLen (c.getD (i * 3 + 1 + 1) PV.nilp) + 1) * 1 ≤ ((List.take ((j + 1 + 2 + slLen (c.getD (i * 3 + 1 + 1) PV.nilp)) * 1) ((List.take ((j + 1 + 2) * 1) ((List.take ((j + 1) * 1) ((List.take (j * 1) out).append [PV.int IntKind.u8 (IntKind.u8.wrap (asI (c.getD (i * 3) PV.nilp)))])).append [PV.int IntKind.u8 (IntKind.u8.wrap (IntKind.i64.wrap ((↑(slLen (c.getD (i * 3 + 1 + 1) PV.nilp)) : Int).tdiv 256))), PV.int IntKind.u8 (IntKind.u8.wrap ((↑(slLen (c.getD (i * 3 + 1 + 1) PV.nilp)) : Int).tmod 256))])).append (slCells (c.getD (i * 3 + 1 + 1) PV.nilp)))).append [PV.int IntKind.u8 255]).length)))) <|
                                                  ass (!decide (0 + (j + 1 + 2 + slLen (c.getD (i * 3 + 1 + 1) PV.nilp) + 1) + 2 ≤ j + 1 + 2 + slLen (c.getD (i * 3 + 1 + 1) PV.nilp) + 1)) <|
                                                    ass (oldL 0 c) <|
                                                      ass (oldL 0 c) <|
                                                        ass (oldL 0 ((List.take ((j + 1 + 2 + slLen (c.getD (i * 3 + 1 + 1) PV.nilp) + 1) * 1) ((List.take ((j + 1 + 2 + slLen (c.getD (i * 3 + 1 + 1) PV.nilp)) * 1) ((List.take ((j + 1 + 2) * 1) ((List.take ((j + 1) * 1) ((List.take (j * 1) out).append [PV.int IntKind.u8 (IntKind.u8.wrap (asI (c.getD (i * 3) PV.nilp)))])).append [PV.int IntKind.u8 (IntKind.u8.wrap (IntKind.i64.wrap ((↑(slLen (c.getD (i * 3 + 1 + 1) PV.nilp)) : Int).tdiv 256))), PV.int IntKind.u8 (IntKind.u8.wrap ((↑(slLen (c.getD (i * 3 + 1 + 1) PV.nilp)) : Int).tmod 256))])).append (slCells (c.getD (i * 3 + 1 + 1) PV.nilp)))).append [PV.int IntKind.u8 255])).append [PV.int IntKind.u8 (IntKind.u8.wrap (IntKind.i64.wrap ((asI (c.getD (i * 3 + 1) PV.nilp)).tdiv 256))), PV.int IntKind.u8 (IntKind.u8.wrap ((asI (c.getD (i * 3 + 1) PV.nilp)).tmod 256))])) <|
                                                          L9b H9 N (m) (c) (n) (IntKind.i64.wrap ((↑i : Int) + 1)) ((List.take ((j + 1 + 2 + slLen (c.getD (i * 3 + 1 + 1) PV.nilp) + 1) * 1) ((List.take ((j + 1 + 2 + slLen (c.getD (i * 3 + 1 + 1) PV.nilp)) * 1) ((List.take ((j + 1 + 2) * 1) ((List.take ((j + 1) * 1) ((List.take (j * 1) out).append [PV.int IntKind.u8 (IntKind.u8.wrap (asI (c.getD (i * 3) PV.nilp)))])).append [PV.int IntKind.u8 (IntKind.u8.wrap (IntKind.i64.wrap ((↑(slLen (c.getD (i * 3 + 1 + 1) PV.nilp)) : Int).tdiv 256))), PV.int IntKind.u8 (IntKind.u8.wrap ((↑(slLen (c.getD (i * 3 + 1 + 1) PV.nilp)) : Int).tmod 256))])).append (slCells (c.getD (i * 3 + 1 + 1) PV.nilp)))).append [PV.int IntKind.u8 255])).append [PV.int IntKind.u8 (IntKind.u8.wrap (IntKind.i64.wrap ((asI (c.getD (i * 3 + 1) PV.nilp)).tdiv 256))), PV.int IntKind.u8 (IntKind.u8.wrap ((asI (c.getD (i * 3 + 1) PV.nilp)).tmod 256))]) (j + 1 + 2 + slLen (c.getD (i * 3 + 1 + 1) PV.nilp) + 1 + 2))))
                                            else
                                              (ass (oldL 0 c) <|
                                              ass (oldL 0 c) <|
                                                ass (oldL 0 ((List.take ((j + 1 + 2 + slLen (c.getD (i * 3 + 1 + 1) PV.nilp)) * 1) ((List.take ((j + 1 + 2) * 1) ((List.take ((j + 1) * 1) ((List.take (j * 1) out).append [PV.int IntKind.u8 (IntKind.u8.wrap (asI (c.getD (i * 3) PV.nilp)))])).append [PV.int IntKind.u8 (IntKind.u8.wrap (IntKind.i64.wrap ((↑(slLen (c.getD (i * 3 + 1 + 1) PV.nilp)) : Int).tdiv 256))), PV.int IntKind.u8 (IntKind.u8.wrap ((↑(slLen (c.getD (i * 3 + 1 + 1) PV.nilp)) : Int).tmod 256))])).append (slCells (c.getD (i * 3 + 1 + 1) PV.nilp)))).append [PV.int IntKind.u8 255])) <|
                                                  L9b H9 N (m) (c) (n) (IntKind.i64.wrap ((↑i : Int) + 1)) ((List.take ((j + 1 + 2 + slLen (c.getD (i * 3 + 1 + 1) PV.nilp)) * 1) ((List.take ((j + 1 + 2) * 1) ((List.take ((j + 1) * 1) ((List.take (j * 1) out).append [PV.int IntKind.u8 (IntKind.u8.wrap (asI (c.getD (i * 3) PV.nilp)))])).append [PV.int IntKind.u8 (IntKind.u8.wrap (IntKind.i64.wrap ((↑(slLen (c.getD (i * 3 + 1 + 1) PV.nilp)) : Int).tdiv 256))), PV.int IntKind.u8 (IntKind.u8.wrap ((↑(slLen (c.getD (i * 3 + 1 + 1) PV.nilp)) : Int).tmod 256))])).append (slCells (c.getD (i * 3 + 1 + 1) PV.nilp)))).append [PV.int IntKind.u8 255]) (j + 1 + 2 + slLen (c.getD (i * 3 + 1 + 1) PV.nilp) + 1))))
                                    else
                                      (bif asI (c.getD (i * 3) PV.nilp) == 4 then
                                        (bif decide (asI (c.getD (i * 3 + 1) PV.nilp) < 0) then
                                          (some (PV.tup [PV.sl [] 1 0 none, PV.int IntKind.i64 1]))
                                        else
                                          (bif decide (asI (c.getD (i * 3 + 1) PV.nilp) > 65535) then
                                            (some (PV.tup [PV.sl [] 1 0 none, PV.int IntKind.i64 1]))
                                          else
                                            (ass (j + 1 + 2 + slLen (c.getD (i * 3 + 1 + 1) PV.nilp) == j + 1 + 2 + slLen (c.getD (i * 3 + 1 + 1) PV.nilp) && (decide (j + 1 + 2 + slLen (c.getD (i * 3 + 1 + 1) PV.nilp) ≤ 1048576) && (decide (2 ≤ 1048576) && decide (0 + (j + 1 + 2 + slLen (c.getD (i * 3 + 1 + 1) PV.nilp)) * 1 ≤ ((List.take ((j + 1 + 2) * 1) ((List.take ((j + 1) * 1) ((List.take (j * 1) out).append [PV.int IntKind.u8 (IntKind.u8.wrap (asI (c.getD (i * 3) PV.nilp)))])).append [PV.int IntKind.u8 (IntKind.u8.wrap (IntKind.i64.wrap ((↑(slLen (c.getD (i * 3 + 1 + 1) PV.nilp)) : Int).tdiv 256))), PV.int IntKind.u8 (IntKind.u8.wrap ((↑(slLen (c.getD (i * 3 + 1 + 1) PV.nilp)) : Int).tmod 256))])).append (slCells (c.getD (i * 3 + 1 + 1) PV.nilp))).length)))) <|
                                            ass (!decide (0 + (j + 1 + 2 + slLen (c.getD (i * 3 + 1 + 1) PV.nilp)) + 2 ≤ j + 1 + 2 + slLen (c.getD (i * 3 + 1 + 1) PV.nilp))) <|
                                              ass (oldL 0 c) <|
                                                ass (oldL 0 c) <|
                                                  ass (oldL 0 ((List.take ((j + 1 + 2 + slLen (c.getD (i * 3 + 1 + 1) PV.nilp)) * 1) ((List.take ((j + 1 + 2) * 1) ((List.take ((j + 1) * 1) ((List.take (j * 1) out).append [PV.int IntKind.u8 (IntKind.u8.wrap (asI (c.getD (i * 3) PV.nilp)))])).append [PV.int IntKind.u8 (IntKind.u8.wrap (IntKind.i64.wrap ((↑(slLen (c.getD (i * 3 + 1 + 1) PV.nilp)) : Int).tdiv 256))), PV.int IntKind.u8 (IntKind.u8.wrap ((↑(slLen (c.getD (i * 3 + 1 + 1) PV.nilp)) : Int).tmod 256))])).append (slCells (c.getD (i * 3 + 1 + 1) PV.nilp)))).append [PV.int IntKind.u8 (IntKind.u8.wrap (IntKind.i64.wrap ((asI (c.getD (i * 3 + 1) PV.nilp)).tdiv 256))), PV.int IntKind.u8 (IntKind.u8.wrap ((asI (c.getD (i * 3 + 1) PV.nilp)).tmod 256))])) <|
                                                    L9b H9 N (m) (c) (n) (IntKind.i64.wrap ((↑i : Int) + 1)) ((List.take ((j + 1 + 2 + slLen (c.getD (i * 3 + 1 + 1) PV.nilp)) * 1) ((List.take ((j + 1 + 2) * 1) ((List.take ((j + 1) * 1) ((List.take (j * 1) out).append [PV.int IntKind.u8 (IntKind.u8.wrap (asI (c.getD (i * 3) PV.nilp)))])).append [PV.int IntKind.u8 (IntKind.u8.wrap (IntKind.i64.wrap ((↑(slLen (c.getD (i * 3 + 1 + 1) PV.nilp)) : Int).tdiv 256))), PV.int IntKind.u8 (IntKind.u8.wrap ((↑(slLen (c.getD (i * 3 + 1 + 1) PV.nilp)) : Int).tmod 256))])).append (slCells (c.getD (i * 3 + 1 + 1) PV.nilp)))).append [PV.int IntKind.u8 (IntKind.u8.wrap (IntKind.i64.wrap ((asI (c.getD (i * 3 + 1) PV.nilp)).tdiv 256))), PV.int IntKind.u8 (IntKind.u8.wrap ((asI (c.getD (i * 3 + 1) PV.nilp)).tmod 256))]) (j + 1 + 2 + slLen (c.getD (i * 3 + 1 + 1) PV.nilp) + 2))))
                                      else
                                        (ass (oldL 0 c) <|
                                        ass (oldL 0 c) <|
                                          ass (oldL 0 ((List.take ((j + 1 + 2) * 1) ((List.take ((j + 1) * 1) ((List.take (j * 1) out).append [PV.int IntKind.u8 (IntKind.u8.wrap (asI (c.getD (i * 3) PV.nilp)))])).append [PV.int IntKind.u8 (IntKind.u8.wrap (IntKind.i64.wrap ((↑(slLen (c.getD (i * 3 + 1 + 1) PV.nilp)) : Int).tdiv 256))), PV.int IntKind.u8 (IntKind.u8.wrap ((↑(slLen (c.getD (i * 3 + 1 + 1) PV.nilp)) : Int).tmod 256))])).append (slCells (c.getD (i * 3 + 1 + 1) PV.nilp)))) <|
                                            L9b H9 N (m) (c) (n) (IntKind.i64.wrap ((↑i : Int) + 1)) ((List.take ((j + 1 + 2) * 1) ((List.take ((j + 1) * 1) ((List.take (j * 1) out).append [PV.int IntKind.u8 (IntKind.u8.wrap (asI (c.getD (i * 3) PV.nilp)))])).append [PV.int IntKind.u8 (IntKind.u8.wrap (IntKind.i64.wrap ((↑(slLen (c.getD (i * 3 + 1 + 1) PV.nilp)) : Int).tdiv 256))), PV.int IntKind.u8 (IntKind.u8.wrap ((↑(slLen (c.getD (i * 3 + 1 + 1) PV.nilp)) : Int).tmod 256))])).append (slCells (c.getD (i * 3 + 1 + 1) PV.nilp))) (j + 1 + 2 + slLen (c.getD (i * 3 + 1 + 1) PV.nilp)))))))
                  else
                    (bif asI (c.getD (i * 3) PV.nilp) == 2 then
                      (bif decide (asI (c.getD (i * 3 + 1) PV.nilp) ≥ 0) then
                        (bif decide (asI (c.getD (i * 3 + 1) PV.nilp) < 255) then
                          (ass (j + 1 == j + 1 && (decide (j + 1 ≤ 1048576) && (decide (1 ≤ 1048576) && decide (0 + (j + 1) * 1 ≤ ((List.take (j * 1) out).append [PV.int IntKind.u8 (IntKind.u8.wrap (asI (c.getD (i * 3) PV.nilp)))]).length)))) <|
                          ass (!decide (0 + (j + 1) + 1 ≤ j + 1)) <|
                            bif asI (c.getD (i * 3) PV.nilp) == 4 then
                                (bif decide (asI (c.getD (i * 3 + 1) PV.nilp) < 0) then
                                  (some (PV.tup [PV.sl [] 1 0 none, PV.int IntKind.i64 1]))
                                else
                                  (bif decide (asI (c.getD (i * 3 + 1) PV.nilp) > 65535) then
                                    (some (PV.tup [PV.sl [] 1 0 none, PV.int IntKind.i64 1]))
                                  else
                                    (ass (j + 1 + 1 == j + 1 + 1 && (decide (j + 1 + 1 ≤ 1048576) && (decide (2 ≤ 1048576) && decide (0 + (j + 1 + 1) * 1 ≤ ((List.take ((j + 1) * 1) ((List.take (j * 1) out).append [PV.int IntKind.u8 (IntKind.u8.wrap (asI (c.getD (i * 3) PV.nilp)))])).append [PV.int IntKind.u8 (IntKind.u8.wrap (asI (c.getD (i * 3 + 1) PV.nilp)))]).length)))) <|
                                    ass (!decide (0 + (j + 1 + 1) + 2 ≤ j + 1 + 1)) <|
                                      ass (oldL 0 c) <|
                                        ass (oldL 0 c) <|
                                          ass (oldL 0 ((List.take ((j + 1 + 1) * 1) ((List.take ((j + 1) * 1) ((List.take (j * 1) out).append [PV.int IntKind.u8 (IntKind.u8.wrap (asI (c.getD (i * 3) PV.nilp)))])).append [PV.int IntKind.u8 (IntKind.u8.wrap (asI (c.getD (i * 3 + 1) PV.nilp)))])).append [PV.int IntKind.u8 (IntKind.u8.wrap (IntKind.i64.wrap ((asI (c.getD (i * 3 + 1) PV.nilp)).tdiv 256))), PV.int IntKind.u8 (IntKind.u8.wrap ((asI (c.getD (i * 3 + 1) PV.nilp)).tmod 256))])) <|
                                            L9b H9 N (m) (c) (n) (IntKind.i64.wrap ((↑i : Int) + 1)) ((List.take ((j + 1 + 1) * 1) ((List.take ((j + 1) * 1) ((List.take (j * 1) out).append [PV.int IntKind.u8 (IntKind.u8.wrap (asI (c.getD (i * 3) PV.nilp)))])).append [PV.int IntKind.u8 (IntKind.u8.wrap (asI (c.getD (i * 3 + 1) PV.nilp)))])).append [PV.int IntKind.u8 (IntKind.u8.wrap (IntKind.i64.wrap ((asI (c.getD (i * 3 + 1) PV.nilp)).tdiv 256))), PV.int IntKind.u8 (IntKind.u8.wrap ((asI (c.getD (i * 3 + 1) PV.nilp)).tmod 256))]) (j + 1 + 1 + 2))))
                              else
                                (ass (oldL 0 c) <|
                                ass (oldL 0 c) <|
                                  ass (oldL 0 ((List.take ((j + 1) * 1) ((List.take (j * 1) out).append [PV.int IntKind.u8 (IntKind.u8.wrap (asI (c.getD (i * 3) PV.nilp)))])).append [PV.int IntKind.u8 (IntKind.u8.wrap (asI (c.getD (i * 3 + 1) PV.nilp)))])) <|
                                    L9b H9 N (m) (c) (n) (IntKind.i64.wrap ((↑i : Int) + 1)) ((List.take ((j + 1) * 1) ((List.take (j * 1) out).append [PV.int IntKind.u8 (IntKind.u8.wrap (asI (c.getD (i * 3) PV.nilp)))])).append [PV.int IntKind.u8 (IntKind.u8.wrap (asI (c.getD (i * 3 + 1) PV.nilp)))]) (j + 1 + 1)))
                        else
                          (ass (j + 1 == j + 1 && (decide (j + 1 ≤ 1048576) && (decide (1 ≤ 1048576) && decide (0 + (j + 1) * 1 ≤ ((List.take (j * 1) out).append [PV.int IntKind.u8 (IntKind.u8.wrap (asI (c.getD (i * 3) PV.nilp)))]).length)))) <|
                          ass (!decide (0 + (j + 1) + 1 ≤ j + 1)) <|
                            bif asI (c.getD (i * 3) PV.nilp) == 4 then
                                (bif decide (asI (c.getD (i * 3 + 1) PV.nilp) < 0) then
                                  (some (PV.tup [PV.sl [] 1 0 none, PV.int IntKind.i64 1]))
                                else
                                  (bif decide (asI (c.getD (i * 3 + 1) PV.nilp) > 65535) then
                                    (some (PV.tup [PV.sl [] 1 0 none, PV.int IntKind.i64 1]))
                                  else
                                    (ass (j + 1 + 1 == j + 1 + 1 && (decide (j + 1 + 1 ≤ 1048576) && (decide (2 ≤ 1048576) && decide (0 + (j + 1 + 1) * 1 ≤ ((List.take ((j + 1) * 1) ((List.take (j * 1) out).append [PV.int IntKind.u8 (IntKind.u8.wrap (asI (c.getD (i * 3) PV.nilp)))])).append [PV.int IntKind.u8 255]).length)))) <|
                                    ass (!decide (0 + (j + 1 + 1) + 2 ≤ j + 1 + 1)) <|
                                      ass (oldL 0 c) <|
                                        ass (oldL 0 c) <|
                                          ass (oldL 0 ((List.take ((j + 1 + 1) * 1) ((List.take ((j + 1) * 1) ((List.take (j * 1) out).append [PV.int IntKind.u8 (IntKind.u8.wrap (asI (c.getD (i * 3) PV.nilp)))])).append [PV.int IntKind.u8 255])).append [PV.int IntKind.u8 (IntKind.u8.wrap (IntKind.i64.wrap ((asI (c.getD (i * 3 + 1) PV.nilp)).tdiv 256))), PV.int IntKind.u8 (IntKind.u8.wrap ((asI (c.getD (i * 3 + 1) PV.nilp)).tmod 256))])) <|
                                            L9b H9 N (m) (c) (n) (IntKind.i64.wrap ((↑i : Int) + 1)) ((List.take ((j + 1 + 1) * 1) ((List.take ((j + 1) * 1) ((List.take (j * 1) out).append [PV.int IntKind.u8 (IntKind.u8.wrap (asI (c.getD (i * 3) PV.nilp)))])).append [PV.int IntKind.u8 255])).append [PV.int IntKind.u8 (IntKind.u8.wrap (IntKind.i64.wrap ((asI (c.getD (i * 3 + 1) PV.nilp)).tdiv 256))), PV.int IntKind.u8 (IntKind.u8.wrap ((asI (c.getD (i * 3 + 1) PV.nilp)).tmod 256))]) (j + 1 + 1 + 2))))
                              else
                                (ass (oldL 0 c) <|
                                ass (oldL 0 c) <|
                                  ass (oldL 0 ((List.take ((j + 1) * 1) ((List.take (j * 1) out).append [PV.int IntKind.u8 (IntKind.u8.wrap (asI (c.getD (i * 3) PV.nilp)))])).append [PV.int IntKind.u8 255])) <|
                                    L9b H9 N (m) (c) (n) (IntKind.i64.wrap ((↑i : Int) + 1)) ((List.take ((j + 1) * 1) ((List.take (j * 1) out).append [PV.int IntKind.u8 (IntKind.u8.wrap (asI (c.getD (i * 3) PV.nilp)))])).append [PV.int IntKind.u8 255]) (j + 1 + 1))))
                      else
                        (ass (j + 1 == j + 1 && (decide (j + 1 ≤ 1048576) && (decide (1 ≤ 1048576) && decide (0 + (j + 1) * 1 ≤ ((List.take (j * 1) out).append [PV.int IntKind.u8 (IntKind.u8.wrap (asI (c.getD (i * 3) PV.nilp)))]).length)))) <|
                        ass (!decide (0 + (j + 1) + 1 ≤ j + 1)) <|
                          bif asI (c.getD (i * 3) PV.nilp) == 4 then
                              (bif decide (asI (c.getD (i * 3 + 1) PV.nilp) < 0) then
                                (some (PV.tup [PV.sl [] 1 0 none, PV.int IntKind.i64 1]))
                              else
                                (bif decide (asI (c.getD (i * 3 + 1) PV.nilp) > 65535) then
                                  (some (PV.tup [PV.sl [] 1 0 none, PV.int IntKind.i64 1]))
                                else
                                  (ass (j + 1 + 1 == j + 1 + 1 && (decide (j + 1 + 1 ≤ 1048576) && (decide (2 ≤ 1048576) && decide (0 + (j + 1 + 1) * 1 ≤ ((List.take ((j + 1) * 1) ((List.take (j * 1) out).append [PV.int IntKind.u8 (IntKind.u8.wrap (asI (c.getD (i * 3) PV.nilp)))])).append [PV.int IntKind.u8 255]).length)))) <|
                                  ass (!decide (0 + (j + 1 + 1) + 2 ≤ j + 1 + 1)) <|
                                    ass (oldL 0 c) <|
                                      ass (oldL 0 c) <|
                                        ass (oldL 0 ((List.take ((j + 1 + 1) * 1) ((List.take ((j + 1) * 1) ((List.take (j * 1) out).append [PV.int IntKind.u8 (IntKind.u8.wrap (asI (c.getD (i * 3) PV.nilp)))])).append [PV.int IntKind.u8 255])).append [PV.int IntKind.u8 (IntKind.u8.wrap (IntKind.i64.wrap ((asI (c.getD (i * 3 + 1) PV.nilp)).tdiv 256))), PV.int IntKind.u8 (IntKind.u8.wrap ((asI (c.getD (i * 3 + 1) PV.nilp)).tmod 256))])) <|
                                          L9b H9 N (m) (c) (n) (IntKind.i64.wrap ((↑i : Int) + 1)) ((List.take ((j + 1 + 1) * 1) ((List.take ((j + 1) * 1) ((List.take (j * 1) out).append [PV.int IntKind.u8 (IntKind.u8.wrap (asI (c.getD (i * 3) PV.nilp)))])).append [PV.int IntKind.u8 255])).append [PV.int IntKind.u8 (IntKind.u8.wrap (IntKind.i64.wrap ((asI (c.getD (i * 3 + 1) PV.nilp)).tdiv 256))), PV.int IntKind.u8 (IntKind.u8.wrap ((asI (c.getD (i * 3 + 1) PV.nilp)).tmod 256))]) (j + 1 + 1 + 2))))
                            else
                              (ass (oldL 0 c) <|
                              ass (oldL 0 c) <|
                                ass (oldL 0 ((List.take ((j + 1) * 1) ((List.take (j * 1) out).append [PV.int IntKind.u8 (IntKind.u8.wrap (asI (c.getD (i * 3) PV.nilp)))])).append [PV.int IntKind.u8 255])) <|
                                  L9b H9 N (m) (c) (n) (IntKind.i64.wrap ((↑i : Int) + 1)) ((List.take ((j + 1) * 1) ((List.take (j * 1) out).append [PV.int IntKind.u8 (IntKind.u8.wrap (asI (c.getD (i * 3) PV.nilp)))])).append [PV.int IntKind.u8 255]) (j + 1 + 1))))
                    else
                      (bif asI (c.getD (i * 3) PV.nilp) == 4 then
                        (bif decide (asI (c.getD (i * 3 + 1) PV.nilp) < 0) then
                          (some (PV.tup [PV.sl [] 1 0 none, PV.int IntKind.i64 1]))
                        else
                          (bif decide (asI (c.getD (i * 3 + 1) PV.nilp) > 65535) then
                            (some (PV.tup [PV.sl [] 1 0 none, PV.int IntKind.i64 1]))
                          else
                            (ass (j + 1 == j + 1 && (decide (j + 1 ≤ 1048576) && (decide (2 ≤ 1048576) && decide (0 + (j + 1) * 1 ≤ ((List.take (j * 1) out).append [PV.int IntKind.u8 (IntKind.u8.wrap (asI (c.getD (i * 3) PV.nilp)))]).length)))) <|
                            ass (!decide (0 + (j + 1) + 2 ≤ j + 1)) <|
                              ass (oldL 0 c) <|
                                ass (oldL 0 c) <|
                                  ass (oldL 0 ((List.take ((j + 1) * 1) ((List.take (j * 1) out).append [PV.int IntKind.u8 (IntKind.u8.wrap (asI (c.getD (i * 3) PV.nilp)))])).append [PV.int IntKind.u8 (IntKind.u8.wrap (IntKind.i64.wrap ((asI (c.getD (i * 3 + 1) PV.nilp)).tdiv 256))), PV.int IntKind.u8 (IntKind.u8.wrap ((asI (c.getD (i * 3 + 1) PV.nilp)).tmod 256))])) <|
                                    L9b H9 N (m) (c) (n) (IntKind.i64.wrap ((↑i : Int) + 1)) ((List.take ((j + 1) * 1) ((List.take (j * 1) out).append [PV.int IntKind.u8 (IntKind.u8.wrap (asI (c.getD (i * 3) PV.nilp)))])).append [PV.int IntKind.u8 (IntKind.u8.wrap (IntKind.i64.wrap ((asI (c.getD (i * 3 + 1) PV.nilp)).tdiv 256))), PV.int IntKind.u8 (IntKind.u8.wrap ((asI (c.getD (i * 3 + 1) PV.nilp)).tmod 256))]) (j + 1 + 2))))
                      else
                        (ass (oldL 0 c) <|
                        ass (oldL 0 c) <|
                          ass (oldL 0 ((List.take (j * 1) out).append [PV.int IntKind.u8 (IntKind.u8.wrap (asI (c.getD (i * 3) PV.nilp)))])) <|
                            L9b H9 N (m) (c) (n) (IntKind.i64.wrap ((↑i : Int) + 1)) ((List.take (j * 1) out).append [PV.int IntKind.u8 (IntKind.u8.wrap (asI (c.getD (i * 3) PV.nilp)))]) (j + 1))))))))
  else
    (ass (j == j && (decide (0 + j * 1 ≤ out.length) && (decide (0 < 1) && (List.take (j * 1) (List.drop 0 out)).all PV.calm))) <|
    ass (oldL 0 (List.take (j * 1) (List.drop 0 out))) <|
      some (PV.tup [PV.sl (List.take (j * 1) (List.drop 0 out)) 1 j none, PV.int IntKind.i64 0]))) := by kernel_rfl

theorem t7r (N : Nat) (m : Nat) (c : List PV) (n : Nat) (k : Int) (i : Nat) : L7 H0 N (m + 1) c n k (↑i : Int) =
  (bif decide ((↑i : Int) < (↑n : Int)) then
    (ass (decide (0 ≤ (↑i : Int)) && decide ((↑i : Int) < (↑n : Int))) <|
    ass (okAt [Kd.int IntKind.i64, Kd.int IntKind.i64, Kd.sl 1] c (i * 3)) <|
      bif decide ((↑(slLen (c.getD (i * 3 + 1 + 1) PV.nilp)) : Int) > 1300) then
          (some (PV.bool true))
        else
          (ass (oldL 0 c) <|
          ass (oldL 0 c) <|
            ass (oldL 0 c) <|
              L7 H0 N (m) (c) (n) (k) (IntKind.i64.wrap ((↑i : Int) + 1))))
  else
    (some (PV.bool false))) := by kernel_rfl

end Go.Proofs.YtbnfofcbajaiiaaDoor.Am
