/- Scripts: the trees of the functions that read acts. -/
import Derived.Test.YtbnfofcbajaiiaaScr1
import Derived.KernelRfl
set_option linter.unusedVariables false
set_option maxRecDepth 100000
namespace Go.Proofs.Ytbnfofcbajaiiaa.Am

def H10 : FuncId → Hint := fun f t => if f = 10 ∧ t = 16 then [false, false] else []
def H12 : FuncId → Hint := fun f t => if f = 12 ∧ t = 91 then [false, false] else []

theorem t74 (cells : List PV) (n : Nat) (xc : Option Nat) (σ : Store) (fl : Nat) : recS EN0 T0 H0 50 3 74 [PV.sl cells 1 (n + 1) xc] σ fl (fun (v : PV) (σ : Store) => some (v, σ)) =
  (ass (cells.length == (n + 1) * 1) <|
  ass (1 == 1 && (decide (0 < 0 + (n + 1)) && (decide (0 + (n + 1) ≤ 1048576) && [].all PV.oneCell))) <|
    some ((PV.osl (List.length σ) (0 + (n + 1)) 0 1 (0 + (n + 1)) none, List.append σ [Ob.mem { cells := [].append cells, size := 1, len := 0 + (n + 1), exact := false, ice := false, box := false }]))) := by kernel_rfl

theorem t38 (b : List PV) (n : Nat) (N : Nat) (i : Int) : apartS EN T0 H0 N 0 38 [PV.sl b 1 n none, PV.int IntKind.i64 i] =
  (bif decide (i < (↑n : Int)) then
    (ass (decide (0 ≤ i) && decide (i < (↑n : Int))) <|
    ass (okAt [Kd.int IntKind.u8] b (i.toNat * 1)) <|
      some (PV.int IntKind.i64 (IntKind.i64.wrap (asI (b.getD (i.toNat * 1) PV.nilp)))))
  else
    (some (PV.int IntKind.i64 0))) := by kernel_rfl

theorem t39 (N : Nat) (i : Int) (j : Int) : apartS EN T38 H0 N 0 39 [PV.int IntKind.i64 i, PV.int IntKind.i64 j] =
  (bif decide (i < j) then
    (some (PV.int IntKind.i64 i))
  else
    (some (PV.int IntKind.i64 j))) := by kernel_rfl

theorem t10 (cells : List PV) (n : Nat) (N : Nat) : apartS EN T0 H10 N 0 10 [PV.sl cells 3 n none] =
  (L10a H10 N (N) (cells) (n) (0)) := by kernel_rfl

theorem t10a (cells : List PV) (n : Nat) (i : Nat) (N : Nat) (m : Nat) : L10a H10 N (m + 1) cells n (↑i : Int) =
  (bif decide ((↑i : Int) < (↑n : Int)) then
    (ass (decide (0 ≤ (↑i : Int)) && decide ((↑i : Int) < (↑n : Int))) <|
    ass (okAt [Kd.int IntKind.i64, Kd.int IntKind.i64, Kd.sl 1] cells (i * 3)) <|
      ass (oldL 0 cells) <|
        ass (oldL 0 cells) <|
          ass (oldL 0 [PV.int IntKind.i64 (asI (cells.getD (i * 3) PV.nilp)), PV.int IntKind.i64 (asI (cells.getD (i * 3 + 1) PV.nilp)), PV.sl (slCells (cells.getD (i * 3 + 1 + 1) PV.nilp)) 1 (slLen (cells.getD (i * 3 + 1 + 1) PV.nilp)) none]) <|
            L10b H10 N (m) (cells) (n) (IntKind.i64.wrap ((↑i : Int) + 1)) ([PV.int IntKind.i64 (asI (cells.getD (i * 3) PV.nilp)), PV.int IntKind.i64 (asI (cells.getD (i * 3 + 1) PV.nilp)), PV.sl (slCells (cells.getD (i * 3 + 1 + 1) PV.nilp)) 1 (slLen (cells.getD (i * 3 + 1 + 1) PV.nilp)) none]) (1))
  else
    (some (PV.sl [] 3 0 none))) := by kernel_rfl

theorem t10b (cells : List PV) (n : Nat) (i : Nat) (out : List PV) (j : Nat) (N : Nat) (m : Nat) : L10b H10 N (m + 1) cells n (↑i : Int) out j =
  (bif decide ((↑i : Int) < (↑n : Int)) then
    (ass (decide (0 ≤ (↑i : Int)) && decide ((↑i : Int) < (↑n : Int))) <|
    ass (okAt [Kd.int IntKind.i64, Kd.int IntKind.i64, Kd.sl 1] cells (i * 3)) <|
      ass (j == j && (decide (j ≤ 1048576) && (decide (1 ≤ 1048576) && decide (0 + j * 3 ≤ out.length)))) <|
        ass (!decide (0 + j + 1 ≤ j)) <|
          ass (oldL 0 cells) <|
            ass (oldL 0 cells) <|
              ass (oldL 0 ((List.take (j * 3) out).append [PV.int IntKind.i64 (asI (cells.getD (i * 3) PV.nilp)), PV.int IntKind.i64 (asI (cells.getD (i * 3 + 1) PV.nilp)), PV.sl (slCells (cells.getD (i * 3 + 1 + 1) PV.nilp)) 1 (slLen (cells.getD (i * 3 + 1 + 1) PV.nilp)) none])) <|
                L10b H10 N (m) (cells) (n) (IntKind.i64.wrap ((↑i : Int) + 1)) ((List.take (j * 3) out).append [PV.int IntKind.i64 (asI (cells.getD (i * 3) PV.nilp)), PV.int IntKind.i64 (asI (cells.getD (i * 3 + 1) PV.nilp)), PV.sl (slCells (cells.getD (i * 3 + 1 + 1) PV.nilp)) 1 (slLen (cells.getD (i * 3 + 1 + 1) PV.nilp)) none]) (j + 1))
  else
    (ass (j == j && (decide (0 + j * 3 ≤ out.length) && (decide (0 < 3) && (List.take (j * 3) (List.drop 0 out)).all PV.calm))) <|
    ass (oldL 0 (List.take (j * 3) (List.drop 0 out))) <|
      some (PV.sl (List.take (j * 3) (List.drop 0 out)) 3 j none))) := by kernel_rfl

theorem t9 (ac : List PV) (bc : List PV) (n : Nat) (m : Nat) (N : Nat) : apartS EN T0 H0 N 0 9 [PV.sl ac 3 n none, PV.sl bc 3 m none] =
  (bif (↑n : Int) != (↑m : Int) then
    (some (PV.bool false))
  else
    (loopS EN T0 H0 N 0 9 Try.f9 [1, 1, 0, 1, 0] [true, true, false, false, true, false, true, true, true, true, true, true, true, true, false, false, false, false, false, false, false, false, false, false, false, false, false, false, false, false, false, false, false, false, false, false, false, false, false, false, false, false, false, false, false, false, false, false, false, false, false, false, false, false, false, false] (0) (N) [some (PV.sl ac 3 n none), some (PV.sl bc 3 m none), none, none, some (PV.bool false), none, some (PV.sl ac 3 n none), some (PV.int IntKind.i64 (↑n : Int)), some (PV.sl bc 3 m none), some (PV.int IntKind.i64 (↑m : Int)), some (PV.bool false), some (PV.sl ac 3 n none), some (PV.int IntKind.i64 (↑n : Int)), some (PV.int IntKind.i64 0), none, none, none, none, none, none, none, none, none, none, none, none, none, none, none, none, none, none, none, none, none, none, none, none, none, none, none, none, none, none, none, none, none, none, none, none, none, none, none, none, none, none] [])) := by kernel_rfl

theorem t9r (ac : List PV) (bc : List PV) (n : Nat) (i : Nat) (N : Nat) (m : Nat) : L9 H0 N (m + 1) ac bc n (↑i : Int) =
  (bif decide ((↑i : Int) < (↑n : Int)) then
    (ass (decide (0 ≤ (↑i : Int)) && decide ((↑i : Int) < (↑n : Int))) <|
    ass (okAt [Kd.int IntKind.i64] ac (i * 3 + 0)) <|
      ass (decide (0 ≤ (↑i : Int)) && decide ((↑i : Int) < (↑n : Int))) <|
        ass (okAt [Kd.int IntKind.i64] bc (i * 3 + 0)) <|
          bif asI (ac.getD (i * 3 + 0) PV.nilp) != asI (bc.getD (i * 3 + 0) PV.nilp) then
              (some (PV.bool false))
            else
              (ass (decide (0 ≤ (↑i : Int)) && decide ((↑i : Int) < (↑n : Int))) <|
              ass (okAt [Kd.int IntKind.i64] ac (i * 3 + 1)) <|
                ass (decide (0 ≤ (↑i : Int)) && decide ((↑i : Int) < (↑n : Int))) <|
                  ass (okAt [Kd.int IntKind.i64] bc (i * 3 + 1)) <|
                    bif asI (ac.getD (i * 3 + 1) PV.nilp) != asI (bc.getD (i * 3 + 1) PV.nilp) then
                        (some (PV.bool false))
                      else
                        (ass (decide (0 ≤ (↑i : Int)) && decide ((↑i : Int) < (↑n : Int))) <|
                        ass (okAt [Kd.sl 1] ac (i * 3 + 2)) <|
                          ass (oldL 0 (slCells (ac.getD (i * 3 + 2) PV.nilp))) <|
                            ass ((slCells (ac.getD (i * 3 + 2) PV.nilp)).length == slLen (ac.getD (i * 3 + 2) PV.nilp) && (slCells (ac.getD (i * 3 + 2) PV.nilp)).all okByte) <|
                              ass (decide (0 ≤ (↑i : Int)) && decide ((↑i : Int) < (↑n : Int))) <|
                                ass (okAt [Kd.sl 1] bc (i * 3 + 2)) <|
                                  ass (oldL 0 (slCells (bc.getD (i * 3 + 2) PV.nilp))) <|
                                    ass ((slCells (bc.getD (i * 3 + 2) PV.nilp)).length == slLen (bc.getD (i * 3 + 2) PV.nilp) && (slCells (bc.getD (i * 3 + 2) PV.nilp)).all okByte) <|
                                      bif !bytesL (slCells (ac.getD (i * 3 + 2) PV.nilp)) == bytesL (slCells (bc.getD (i * 3 + 2) PV.nilp)) then
                                          (some (PV.bool false))
                                        else
                                          (ass (oldL 0 ac) <|
                                          ass (oldL 0 bc) <|
                                            ass (oldL 0 ac) <|
                                              ass (oldL 0 bc) <|
                                                ass (oldL 0 ac) <|
                                                  L9 H0 N (m) (ac) (bc) (n) (IntKind.i64.wrap ((↑i : Int) + 1))))))
  else
    (some (PV.bool true))) := by kernel_rfl

theorem t12 (b : List PV) (n : Nat) (N : Nat) : apartS EN T39 H12 N 0 12 [PV.sl b 1 n none] =
  (L12a H12 N (N) (b) (n) (0)) := by kernel_rfl

theorem t12a (b : List PV) (n : Nat) (i : Nat) (N : Nat) (m : Nat) : L12a H12 N (m + 1) b n (↑i : Int) =
  (bif decide ((↑i : Int) < (↑n : Int)) then
    (ass (decide (0 ≤ (↑i : Int)) && decide ((↑i : Int) < (↑n : Int))) <|
    ass (okAt [Kd.int IntKind.u8] b (i * 1)) <|
      bif IntKind.i64.wrap (asI (b.getD (i * 1) PV.nilp)) == 1 then
          (ass (oldL 0 b) <|
          ass (isBytes n b && decide (0 ≤ IntKind.i64.wrap ((↑i : Int) + 1))) <|
            ass (oldL 0 b) <|
              ass (isBytes n b && decide (0 ≤ IntKind.i64.wrap (IntKind.i64.wrap ((↑i : Int) + 1) + 1))) <|
                ass (decide (0 ≤ min (IntKind.i64.wrap (min (IntKind.i64.wrap (IntKind.i64.wrap ((↑i : Int) + 1) + 2)) (↑n : Int) + IntKind.i64.wrap (IntKind.i64.wrap (Sp.getB (bytesL b) (IntKind.i64.wrap ((↑i : Int) + 1)).toNat * 256) + Sp.getB (bytesL b) (IntKind.i64.wrap (IntKind.i64.wrap ((↑i : Int) + 1) + 1)).toNat))) (↑n : Int)) && decide (min (IntKind.i64.wrap (min (IntKind.i64.wrap (IntKind.i64.wrap ((↑i : Int) + 1) + 2)) (↑n : Int) + IntKind.i64.wrap (IntKind.i64.wrap (Sp.getB (bytesL b) (IntKind.i64.wrap ((↑i : Int) + 1)).toNat * 256) + Sp.getB (bytesL b) (IntKind.i64.wrap (IntKind.i64.wrap ((↑i : Int) + 1) + 1)).toNat))) (↑n : Int) ≤ (↑n : Int))) <|
                  ass (decide (0 ≤ min (IntKind.i64.wrap (IntKind.i64.wrap ((↑i : Int) + 1) + 2)) (↑n : Int)) && decide (min (IntKind.i64.wrap (IntKind.i64.wrap ((↑i : Int) + 1) + 2)) (↑n : Int) ≤ (↑(min (IntKind.i64.wrap (min (IntKind.i64.wrap (IntKind.i64.wrap ((↑i : Int) + 1) + 2)) (↑n : Int) + IntKind.i64.wrap (IntKind.i64.wrap (Sp.getB (bytesL b) (IntKind.i64.wrap ((↑i : Int) + 1)).toNat * 256) + Sp.getB (bytesL b) (IntKind.i64.wrap (IntKind.i64.wrap ((↑i : Int) + 1) + 1)).toNat))) (↑n : Int)).toNat : Int))) <|
                    ass (oldL 0 b) <|
                      ass (oldL 0 [PV.int IntKind.i64 (IntKind.i64.wrap (asI (b.getD (i * 1) PV.nilp))), PV.int IntKind.i64 0, PV.sl (List.take (((min (IntKind.i64.wrap (min (IntKind.i64.wrap (IntKind.i64.wrap ((↑i : Int) + 1) + 2)) (↑n : Int) + IntKind.i64.wrap (IntKind.i64.wrap (Sp.getB (bytesL b) (IntKind.i64.wrap ((↑i : Int) + 1)).toNat * 256) + Sp.getB (bytesL b) (IntKind.i64.wrap (IntKind.i64.wrap ((↑i : Int) + 1) + 1)).toNat))) (↑n : Int)).toNat - (min (IntKind.i64.wrap (IntKind.i64.wrap ((↑i : Int) + 1) + 2)) (↑n : Int)).toNat) * 1) (List.drop ((min (IntKind.i64.wrap (IntKind.i64.wrap ((↑i : Int) + 1) + 2)) (↑n : Int)).toNat * 1) b)) 1 ((min (IntKind.i64.wrap (min (IntKind.i64.wrap (IntKind.i64.wrap ((↑i : Int) + 1) + 2)) (↑n : Int) + IntKind.i64.wrap (IntKind.i64.wrap (Sp.getB (bytesL b) (IntKind.i64.wrap ((↑i : Int) + 1)).toNat * 256) + Sp.getB (bytesL b) (IntKind.i64.wrap (IntKind.i64.wrap ((↑i : Int) + 1) + 1)).toNat))) (↑n : Int)).toNat - (min (IntKind.i64.wrap (IntKind.i64.wrap ((↑i : Int) + 1) + 2)) (↑n : Int)).toNat) none]) <|
                        L12b H12 N (m) (b) (n) (min (IntKind.i64.wrap (min (IntKind.i64.wrap (IntKind.i64.wrap ((↑i : Int) + 1) + 2)) (↑n : Int) + IntKind.i64.wrap (IntKind.i64.wrap (Sp.getB (bytesL b) (IntKind.i64.wrap ((↑i : Int) + 1)).toNat * 256) + Sp.getB (bytesL b) (IntKind.i64.wrap (IntKind.i64.wrap ((↑i : Int) + 1) + 1)).toNat))) (↑n : Int)) ([PV.int IntKind.i64 (IntKind.i64.wrap (asI (b.getD (i * 1) PV.nilp))), PV.int IntKind.i64 0, PV.sl (List.take (((min (IntKind.i64.wrap (min (IntKind.i64.wrap (IntKind.i64.wrap ((↑i : Int) + 1) + 2)) (↑n : Int) + IntKind.i64.wrap (IntKind.i64.wrap (Sp.getB (bytesL b) (IntKind.i64.wrap ((↑i : Int) + 1)).toNat * 256) + Sp.getB (bytesL b) (IntKind.i64.wrap (IntKind.i64.wrap ((↑i : Int) + 1) + 1)).toNat))) (↑n : Int)).toNat - (min (IntKind.i64.wrap (IntKind.i64.wrap ((↑i : Int) + 1) + 2)) (↑n : Int)).toNat) * 1) (List.drop ((min (IntKind.i64.wrap (IntKind.i64.wrap ((↑i : Int) + 1) + 2)) (↑n : Int)).toNat * 1) b)) 1 ((min (IntKind.i64.wrap (min (IntKind.i64.wrap (IntKind.i64.wrap ((↑i : Int) + 1) + 2)) (↑n : Int) + IntKind.i64.wrap (IntKind.i64.wrap (Sp.getB (bytesL b) (IntKind.i64.wrap ((↑i : Int) + 1)).toNat * 256) + Sp.getB (bytesL b) (IntKind.i64.wrap (IntKind.i64.wrap ((↑i : Int) + 1) + 1)).toNat))) (↑n : Int)).toNat - (min (IntKind.i64.wrap (IntKind.i64.wrap ((↑i : Int) + 1) + 2)) (↑n : Int)).toNat) none]) (1))
        else
          (bif IntKind.i64.wrap (asI (b.getD (i * 1) PV.nilp)) == 3 then
            (ass (oldL 0 b) <|
            ass (isBytes n b && decide (0 ≤ IntKind.i64.wrap ((↑i : Int) + 1))) <|
              ass (oldL 0 b) <|
                ass (isBytes n b && decide (0 ≤ IntKind.i64.wrap (IntKind.i64.wrap ((↑i : Int) + 1) + 1))) <|
                  ass (decide (0 ≤ min (IntKind.i64.wrap (min (IntKind.i64.wrap (IntKind.i64.wrap ((↑i : Int) + 1) + 2)) (↑n : Int) + IntKind.i64.wrap (IntKind.i64.wrap (Sp.getB (bytesL b) (IntKind.i64.wrap ((↑i : Int) + 1)).toNat * 256) + Sp.getB (bytesL b) (IntKind.i64.wrap (IntKind.i64.wrap ((↑i : Int) + 1) + 1)).toNat))) (↑n : Int)) && decide (min (IntKind.i64.wrap (min (IntKind.i64.wrap (IntKind.i64.wrap ((↑i : Int) + 1) + 2)) (↑n : Int) + IntKind.i64.wrap (IntKind.i64.wrap (Sp.getB (bytesL b) (IntKind.i64.wrap ((↑i : Int) + 1)).toNat * 256) + Sp.getB (bytesL b) (IntKind.i64.wrap (IntKind.i64.wrap ((↑i : Int) + 1) + 1)).toNat))) (↑n : Int) ≤ (↑n : Int))) <|
                    ass (decide (0 ≤ min (IntKind.i64.wrap (IntKind.i64.wrap ((↑i : Int) + 1) + 2)) (↑n : Int)) && decide (min (IntKind.i64.wrap (IntKind.i64.wrap ((↑i : Int) + 1) + 2)) (↑n : Int) ≤ (↑(min (IntKind.i64.wrap (min (IntKind.i64.wrap (IntKind.i64.wrap ((↑i : Int) + 1) + 2)) (↑n : Int) + IntKind.i64.wrap (IntKind.i64.wrap (Sp.getB (bytesL b) (IntKind.i64.wrap ((↑i : Int) + 1)).toNat * 256) + Sp.getB (bytesL b) (IntKind.i64.wrap (IntKind.i64.wrap ((↑i : Int) + 1) + 1)).toNat))) (↑n : Int)).toNat : Int))) <|
                      ass (oldL 0 b) <|
                        ass (oldL 0 [PV.int IntKind.i64 (IntKind.i64.wrap (asI (b.getD (i * 1) PV.nilp))), PV.int IntKind.i64 0, PV.sl (List.take (((min (IntKind.i64.wrap (min (IntKind.i64.wrap (IntKind.i64.wrap ((↑i : Int) + 1) + 2)) (↑n : Int) + IntKind.i64.wrap (IntKind.i64.wrap (Sp.getB (bytesL b) (IntKind.i64.wrap ((↑i : Int) + 1)).toNat * 256) + Sp.getB (bytesL b) (IntKind.i64.wrap (IntKind.i64.wrap ((↑i : Int) + 1) + 1)).toNat))) (↑n : Int)).toNat - (min (IntKind.i64.wrap (IntKind.i64.wrap ((↑i : Int) + 1) + 2)) (↑n : Int)).toNat) * 1) (List.drop ((min (IntKind.i64.wrap (IntKind.i64.wrap ((↑i : Int) + 1) + 2)) (↑n : Int)).toNat * 1) b)) 1 ((min (IntKind.i64.wrap (min (IntKind.i64.wrap (IntKind.i64.wrap ((↑i : Int) + 1) + 2)) (↑n : Int) + IntKind.i64.wrap (IntKind.i64.wrap (Sp.getB (bytesL b) (IntKind.i64.wrap ((↑i : Int) + 1)).toNat * 256) + Sp.getB (bytesL b) (IntKind.i64.wrap (IntKind.i64.wrap ((↑i : Int) + 1) + 1)).toNat))) (↑n : Int)).toNat - (min (IntKind.i64.wrap (IntKind.i64.wrap ((↑i : Int) + 1) + 2)) (↑n : Int)).toNat) none]) <|
                          L12b H12 N (m) (b) (n) (min (IntKind.i64.wrap (min (IntKind.i64.wrap (IntKind.i64.wrap ((↑i : Int) + 1) + 2)) (↑n : Int) + IntKind.i64.wrap (IntKind.i64.wrap (Sp.getB (bytesL b) (IntKind.i64.wrap ((↑i : Int) + 1)).toNat * 256) + Sp.getB (bytesL b) (IntKind.i64.wrap (IntKind.i64.wrap ((↑i : Int) + 1) + 1)).toNat))) (↑n : Int)) ([PV.int IntKind.i64 (IntKind.i64.wrap (asI (b.getD (i * 1) PV.nilp))), PV.int IntKind.i64 0, PV.sl (List.take (((min (IntKind.i64.wrap (min (IntKind.i64.wrap (IntKind.i64.wrap ((↑i : Int) + 1) + 2)) (↑n : Int) + IntKind.i64.wrap (IntKind.i64.wrap (Sp.getB (bytesL b) (IntKind.i64.wrap ((↑i : Int) + 1)).toNat * 256) + Sp.getB (bytesL b) (IntKind.i64.wrap (IntKind.i64.wrap ((↑i : Int) + 1) + 1)).toNat))) (↑n : Int)).toNat - (min (IntKind.i64.wrap (IntKind.i64.wrap ((↑i : Int) + 1) + 2)) (↑n : Int)).toNat) * 1) (List.drop ((min (IntKind.i64.wrap (IntKind.i64.wrap ((↑i : Int) + 1) + 2)) (↑n : Int)).toNat * 1) b)) 1 ((min (IntKind.i64.wrap (min (IntKind.i64.wrap (IntKind.i64.wrap ((↑i : Int) + 1) + 2)) (↑n : Int) + IntKind.i64.wrap (IntKind.i64.wrap (Sp.getB (bytesL b) (IntKind.i64.wrap ((↑i : Int) + 1)).toNat * 256) + Sp.getB (bytesL b) (IntKind.i64.wrap (IntKind.i64.wrap ((↑i : Int) + 1) + 1)).toNat))) (↑n : Int)).toNat - (min (IntKind.i64.wrap (IntKind.i64.wrap ((↑i : Int) + 1) + 2)) (↑n : Int)).toNat) none]) (1))
          else
            (bif IntKind.i64.wrap (asI (b.getD (i * 1) PV.nilp)) == 2 then
              (bif decide (IntKind.i64.wrap ((↑i : Int) + 1) < (↑n : Int)) then
                (ass (decide (0 ≤ IntKind.i64.wrap ((↑i : Int) + 1)) && decide (IntKind.i64.wrap ((↑i : Int) + 1) < (↑n : Int))) <|
                ass (okAt [Kd.int IntKind.u8] b ((IntKind.i64.wrap ((↑i : Int) + 1)).toNat * 1)) <|
                  bif asI (b.getD ((IntKind.i64.wrap ((↑i : Int) + 1)).toNat * 1) PV.nilp) != 255 then
                      (ass (decide (0 ≤ IntKind.i64.wrap ((↑i : Int) + 1)) && decide (IntKind.i64.wrap ((↑i : Int) + 1) < (↑n : Int))) <|
                      ass (okAt [Kd.int IntKind.u8] b ((IntKind.i64.wrap ((↑i : Int) + 1)).toNat * 1)) <|
                        ass (oldL 0 b) <|
                          L12b H12 N (m) (b) (n) (IntKind.i64.wrap (IntKind.i64.wrap ((↑i : Int) + 1) + 1)) ([PV.int IntKind.i64 (IntKind.i64.wrap (asI (b.getD (i * 1) PV.nilp))), PV.int IntKind.i64 (IntKind.i64.wrap (asI (b.getD ((IntKind.i64.wrap ((↑i : Int) + 1)).toNat * 1) PV.nilp))), PV.sl [] 1 0 none]) (1))
                    else
                      (ass (oldL 0 b) <|
                      L12b H12 N (m) (b) (n) (IntKind.i64.wrap (IntKind.i64.wrap ((↑i : Int) + 1) + 1)) ([PV.int IntKind.i64 (IntKind.i64.wrap (asI (b.getD (i * 1) PV.nilp))), PV.int IntKind.i64 (-1), PV.sl [] 1 0 none]) (1)))
              else
                (ass (oldL 0 b) <|
                L12b H12 N (m) (b) (n) (IntKind.i64.wrap (IntKind.i64.wrap ((↑i : Int) + 1) + 1)) ([PV.int IntKind.i64 (IntKind.i64.wrap (asI (b.getD (i * 1) PV.nilp))), PV.int IntKind.i64 (-1), PV.sl [] 1 0 none]) (1)))
            else
              (bif IntKind.i64.wrap (asI (b.getD (i * 1) PV.nilp)) == 4 then
                (ass (oldL 0 b) <|
                ass (isBytes n b && decide (0 ≤ IntKind.i64.wrap ((↑i : Int) + 1))) <|
                  ass (oldL 0 b) <|
                    ass (isBytes n b && decide (0 ≤ IntKind.i64.wrap (IntKind.i64.wrap ((↑i : Int) + 1) + 1))) <|
                      ass (oldL 0 b) <|
                        L12b H12 N (m) (b) (n) (IntKind.i64.wrap (IntKind.i64.wrap ((↑i : Int) + 1) + 2)) ([PV.int IntKind.i64 (IntKind.i64.wrap (asI (b.getD (i * 1) PV.nilp))), PV.int IntKind.i64 (IntKind.i64.wrap (IntKind.i64.wrap (Sp.getB (bytesL b) (IntKind.i64.wrap ((↑i : Int) + 1)).toNat * 256) + Sp.getB (bytesL b) (IntKind.i64.wrap (IntKind.i64.wrap ((↑i : Int) + 1) + 1)).toNat)), PV.sl [] 1 0 none]) (1))
              else
                (ass (oldL 0 b) <|
                L12b H12 N (m) (b) (n) (IntKind.i64.wrap ((↑i : Int) + 1)) ([PV.int IntKind.i64 (IntKind.i64.wrap (asI (b.getD (i * 1) PV.nilp))), PV.int IntKind.i64 0, PV.sl [] 1 0 none]) (1))))))
  else
    (some (PV.sl [] 3 0 none))) := by kernel_rfl

theorem t12b (b : List PV) (n : Nat) (i : Nat) (out : List PV) (j : Nat) (N : Nat) (m : Nat) : L12b H12 N (m + 1) b n (↑i : Int) out j =
  (bif decide ((↑i : Int) < (↑n : Int)) then
    (ass (decide (0 ≤ (↑i : Int)) && decide ((↑i : Int) < (↑n : Int))) <|
    ass (okAt [Kd.int IntKind.u8] b (i * 1)) <|
      bif IntKind.i64.wrap (asI (b.getD (i * 1) PV.nilp)) == 1 then
          (ass (oldL 0 b) <|
          ass (isBytes n b && decide (0 ≤ IntKind.i64.wrap ((↑i : Int) + 1))) <|
            ass (oldL 0 b) <|
              ass (isBytes n b && decide (0 ≤ IntKind.i64.wrap (IntKind.i64.wrap ((↑i : Int) + 1) + 1))) <|
                ass (decide (0 ≤ min (IntKind.i64.wrap (min (IntKind.i64.wrap (IntKind.i64.wrap ((↑i : Int) + 1) + 2)) (↑n : Int) + IntKind.i64.wrap (IntKind.i64.wrap (Sp.getB (bytesL b) (IntKind.i64.wrap ((↑i : Int) + 1)).toNat * 256) + Sp.getB (bytesL b) (IntKind.i64.wrap (IntKind.i64.wrap ((↑i : Int) + 1) + 1)).toNat))) (↑n : Int)) && decide (min (IntKind.i64.wrap (min (IntKind.i64.wrap (IntKind.i64.wrap ((↑i : Int) + 1) + 2)) (↑n : Int) + IntKind.i64.wrap (IntKind.i64.wrap (Sp.getB (bytesL b) (IntKind.i64.wrap ((↑i : Int) + 1)).toNat * 256) + Sp.getB (bytesL b) (IntKind.i64.wrap (IntKind.i64.wrap ((↑i : Int) + 1) + 1)).toNat))) (↑n : Int) ≤ (↑n : Int))) <|
                  ass (decide (0 ≤ min (IntKind.i64.wrap (IntKind.i64.wrap ((↑i : Int) + 1) + 2)) (↑n : Int)) && decide (min (IntKind.i64.wrap (IntKind.i64.wrap ((↑i : Int) + 1) + 2)) (↑n : Int) ≤ (↑(min (IntKind.i64.wrap (min (IntKind.i64.wrap (IntKind.i64.wrap ((↑i : Int) + 1) + 2)) (↑n : Int) + IntKind.i64.wrap (IntKind.i64.wrap (Sp.getB (bytesL b) (IntKind.i64.wrap ((↑i : Int) + 1)).toNat * 256) + Sp.getB (bytesL b) (IntKind.i64.wrap (IntKind.i64.wrap ((↑i : Int) + 1) + 1)).toNat))) (↑n : Int)).toNat : Int))) <|
                    ass (j == j && (decide (j ≤ 1048576) && (decide (1 ≤ 1048576) && decide (0 + j * 3 ≤ out.length)))) <|
                      ass (!decide (0 + j + 1 ≤ j)) <|
                        ass (oldL 0 b) <|
                          ass (oldL 0 ((List.take (j * 3) out).append [PV.int IntKind.i64 (IntKind.i64.wrap (asI (b.getD (i * 1) PV.nilp))), PV.int IntKind.i64 0, PV.sl (List.take (((min (IntKind.i64.wrap (min (IntKind.i64.wrap (IntKind.i64.wrap ((↑i : Int) + 1) + 2)) (↑n : Int) + IntKind.i64.wrap (IntKind.i64.wrap (Sp.getB (bytesL b) (IntKind.i64.wrap ((↑i : Int) + 1)).toNat * 256) + Sp.getB (bytesL b) (IntKind.i64.wrap (IntKind.i64.wrap ((↑i : Int) + 1) + 1)).toNat))) (↑n : Int)).toNat - (min (IntKind.i64.wrap (IntKind.i64.wrap ((↑i : Int) + 1) + 2)) (↑n : Int)).toNat) * 1) (List.drop ((min (IntKind.i64.wrap (IntKind.i64.wrap ((↑i : Int) + 1) + 2)) (↑n : Int)).toNat * 1) b)) 1 ((min (IntKind.i64.wrap (min (IntKind.i64.wrap (IntKind.i64.wrap ((↑i : Int) + 1) + 2)) (↑n : Int) + IntKind.i64.wrap (IntKind.i64.wrap (Sp.getB (bytesL b) (IntKind.i64.wrap ((↑i : Int) + 1)).toNat * 256) + Sp.getB (bytesL b) (IntKind.i64.wrap (IntKind.i64.wrap ((↑i : Int) + 1) + 1)).toNat))) (↑n : Int)).toNat - (min (IntKind.i64.wrap (IntKind.i64.wrap ((↑i : Int) + 1) + 2)) (↑n : Int)).toNat) none])) <|
                            L12b H12 N (m) (b) (n) (min (IntKind.i64.wrap (min (IntKind.i64.wrap (IntKind.i64.wrap ((↑i : Int) + 1) + 2)) (↑n : Int) + IntKind.i64.wrap (IntKind.i64.wrap (Sp.getB (bytesL b) (IntKind.i64.wrap ((↑i : Int) + 1)).toNat * 256) + Sp.getB (bytesL b) (IntKind.i64.wrap (IntKind.i64.wrap ((↑i : Int) + 1) + 1)).toNat))) (↑n : Int)) ((List.take (j * 3) out).append [PV.int IntKind.i64 (IntKind.i64.wrap (asI (b.getD (i * 1) PV.nilp))), PV.int IntKind.i64 0, PV.sl (List.take (((min (IntKind.i64.wrap (min (IntKind.i64.wrap (IntKind.i64.wrap ((↑i : Int) + 1) + 2)) (↑n : Int) + IntKind.i64.wrap (IntKind.i64.wrap (Sp.getB (bytesL b) (IntKind.i64.wrap ((↑i : Int) + 1)).toNat * 256) + Sp.getB (bytesL b) (IntKind.i64.wrap (IntKind.i64.wrap ((↑i : Int) + 1) + 1)).toNat))) (↑n : Int)).toNat - (min (IntKind.i64.wrap (IntKind.i64.wrap ((↑i : Int) + 1) + 2)) (↑n : Int)).toNat) * 1) (List.drop ((min (IntKind.i64.wrap (IntKind.i64.wrap ((↑i : Int) + 1) + 2)) (↑n : Int)).toNat * 1) b)) 1 ((min (IntKind.i64.wrap (min (IntKind.i64.wrap (IntKind.i64.wrap ((↑i : Int) + 1) + 2)) (↑n : Int) + IntKind.i64.wrap (IntKind.i64.wrap (Sp.getB (bytesL b) (IntKind.i64.wrap ((↑i : Int) + 1)).toNat * 256) + Sp.getB (bytesL b) (IntKind.i64.wrap (IntKind.i64.wrap ((↑i : Int) + 1) + 1)).toNat))) (↑n : Int)).toNat - (min (IntKind.i64.wrap (IntKind.i64.wrap ((↑i : Int) + 1) + 2)) (↑n : Int)).toNat) none]) (j + 1))
        else
          (bif IntKind.i64.wrap (asI (b.getD (i * 1) PV.nilp)) == 3 then
            (ass (oldL 0 b) <|
            ass (isBytes n b && decide (0 ≤ IntKind.i64.wrap ((↑i : Int) + 1))) <|
              ass (oldL 0 b) <|
                ass (isBytes n b && decide (0 ≤ IntKind.i64.wrap (IntKind.i64.wrap ((↑i : Int) + 1) + 1))) <|
                  ass (decide (0 ≤ min (IntKind.i64.wrap (min (IntKind.i64.wrap (IntKind.i64.wrap ((↑i : Int) + 1) + 2)) (↑n : Int) + IntKind.i64.wrap (IntKind.i64.wrap (Sp.getB (bytesL b) (IntKind.i64.wrap ((↑i : Int) + 1)).toNat * 256) + Sp.getB (bytesL b) (IntKind.i64.wrap (IntKind.i64.wrap ((↑i : Int) + 1) + 1)).toNat))) (↑n : Int)) && decide (min (IntKind.i64.wrap (min (IntKind.i64.wrap (IntKind.i64.wrap ((↑i : Int) + 1) + 2)) (↑n : Int) + IntKind.i64.wrap (IntKind.i64.wrap (Sp.getB (bytesL b) (IntKind.i64.wrap ((↑i : Int) + 1)).toNat * 256) + Sp.getB (bytesL b) (IntKind.i64.wrap (IntKind.i64.wrap ((↑i : Int) + 1) + 1)).toNat))) (↑n : Int) ≤ (↑n : Int))) <|
                    ass (decide (0 ≤ min (IntKind.i64.wrap (IntKind.i64.wrap ((↑i : Int) + 1) + 2)) (↑n : Int)) && decide (min (IntKind.i64.wrap (IntKind.i64.wrap ((↑i : Int) + 1) + 2)) (↑n : Int) ≤ (↑(min (IntKind.i64.wrap (min (IntKind.i64.wrap (IntKind.i64.wrap ((↑i : Int) + 1) + 2)) (↑n : Int) + IntKind.i64.wrap (IntKind.i64.wrap (Sp.getB (bytesL b) (IntKind.i64.wrap ((↑i : Int) + 1)).toNat * 256) + Sp.getB (bytesL b) (IntKind.i64.wrap (IntKind.i64.wrap ((↑i : Int) + 1) + 1)).toNat))) (↑n : Int)).toNat : Int))) <|
                      ass (j == j && (decide (j ≤ 1048576) && (decide (1 ≤ 1048576) && decide (0 + j * 3 ≤ out.length)))) <|
                        ass (!decide (0 + j + 1 ≤ j)) <|
                          ass (oldL 0 b) <|
                            ass (oldL 0 ((List.take (j * 3) out).append [PV.int IntKind.i64 (IntKind.i64.wrap (asI (b.getD (i * 1) PV.nilp))), PV.int IntKind.i64 0, PV.sl (List.take (((min (IntKind.i64.wrap (min (IntKind.i64.wrap (IntKind.i64.wrap ((↑i : Int) + 1) + 2)) (↑n : Int) + IntKind.i64.wrap (IntKind.i64.wrap (Sp.getB (bytesL b) (IntKind.i64.wrap ((↑i : Int) + 1)).toNat * 256) + Sp.getB (bytesL b) (IntKind.i64.wrap (IntKind.i64.wrap ((↑i : Int) + 1) + 1)).toNat))) (↑n : Int)).toNat - (min (IntKind.i64.wrap (IntKind.i64.wrap ((↑i : Int) + 1) + 2)) (↑n : Int)).toNat) * 1) (List.drop ((min (IntKind.i64.wrap (IntKind.i64.wrap ((↑i : Int) + 1) + 2)) (↑n : Int)).toNat * 1) b)) 1 ((min (IntKind.i64.wrap (min (IntKind.i64.wrap (IntKind.i64.wrap ((↑i : Int) + 1) + 2)) (↑n : Int) + IntKind.i64.wrap (IntKind.i64.wrap (Sp.getB (bytesL b) (IntKind.i64.wrap ((↑i : Int) + 1)).toNat * 256) + Sp.getB (bytesL b) (IntKind.i64.wrap (IntKind.i64.wrap ((↑i : Int) + 1) + 1)).toNat))) (↑n : Int)).toNat - (min (IntKind.i64.wrap (IntKind.i64.wrap ((↑i : Int) + 1) + 2)) (↑n : Int)).toNat) none])) <|
                              L12b H12 N (m) (b) (n) (min (IntKind.i64.wrap (min (IntKind.i64.wrap (IntKind.i64.wrap ((↑i : Int) + 1) + 2)) (↑n : Int) + IntKind.i64.wrap (IntKind.i64.wrap (Sp.getB (bytesL b) (IntKind.i64.wrap ((↑i : Int) + 1)).toNat * 256) + Sp.getB (bytesL b) (IntKind.i64.wrap (IntKind.i64.wrap ((↑i : Int) + 1) + 1)).toNat))) (↑n : Int)) ((List.take (j * 3) out).append [PV.int IntKind.i64 (IntKind.i64.wrap (asI (b.getD (i * 1) PV.nilp))), PV.int IntKind.i64 0, PV.sl (List.take (((min (IntKind.i64.wrap (min (IntKind.i64.wrap (IntKind.i64.wrap ((↑i : Int) + 1) + 2)) (↑n : Int) + IntKind.i64.wrap (IntKind.i64.wrap (Sp.getB (bytesL b) (IntKind.i64.wrap ((↑i : Int) + 1)).toNat * 256) + Sp.getB (bytesL b) (IntKind.i64.wrap (IntKind.i64.wrap ((↑i : Int) + 1) + 1)).toNat))) (↑n : Int)).toNat - (min (IntKind.i64.wrap (IntKind.i64.wrap ((↑i : Int) + 1) + 2)) (↑n : Int)).toNat) * 1) (List.drop ((min (IntKind.i64.wrap (IntKind.i64.wrap ((↑i : Int) + 1) + 2)) (↑n : Int)).toNat * 1) b)) 1 ((min (IntKind.i64.wrap (min (IntKind.i64.wrap (IntKind.i64.wrap ((↑i : Int) + 1) + 2)) (↑n : Int) + IntKind.i64.wrap (IntKind.i64.wrap (Sp.getB (bytesL b) (IntKind.i64.wrap ((↑i : Int) + 1)).toNat * 256) + Sp.getB (bytesL b) (IntKind.i64.wrap (IntKind.i64.wrap ((↑i : Int) + 1) + 1)).toNat))) (↑n : Int)).toNat - (min (IntKind.i64.wrap (IntKind.i64.wrap ((↑i : Int) + 1) + 2)) (↑n : Int)).toNat) none]) (j + 1))
          else
            (bif IntKind.i64.wrap (asI (b.getD (i * 1) PV.nilp)) == 2 then
              (bif decide (IntKind.i64.wrap ((↑i : Int) + 1) < (↑n : Int)) then
                (ass (decide (0 ≤ IntKind.i64.wrap ((↑i : Int) + 1)) && decide (IntKind.i64.wrap ((↑i : Int) + 1) < (↑n : Int))) <|
                ass (okAt [Kd.int IntKind.u8] b ((IntKind.i64.wrap ((↑i : Int) + 1)).toNat * 1)) <|
                  bif asI (b.getD ((IntKind.i64.wrap ((↑i : Int) + 1)).toNat * 1) PV.nilp) != 255 then
                      (ass (decide (0 ≤ IntKind.i64.wrap ((↑i : Int) + 1)) && decide (IntKind.i64.wrap ((↑i : Int) + 1) < (↑n : Int))) <|
                      ass (okAt [Kd.int IntKind.u8] b ((IntKind.i64.wrap ((↑i : Int) + 1)).toNat * 1)) <|
                        ass (j == j && (decide (j ≤ 1048576) && (decide (1 ≤ 1048576) && decide (0 + j * 3 ≤ out.length)))) <|
                          ass (!decide (0 + j + 1 ≤ j)) <|
                            ass (oldL 0 b) <|
                              ass (oldL 0 ((List.take (j * 3) out).append [PV.int IntKind.i64 (IntKind.i64.wrap (asI (b.getD (i * 1) PV.nilp))), PV.int IntKind.i64 (IntKind.i64.wrap (asI (b.getD ((IntKind.i64.wrap ((↑i : Int) + 1)).toNat * 1) PV.nilp))), PV.sl [] 1 0 none])) <|
                                L12b H12 N (m) (b) (n) (IntKind.i64.wrap (IntKind.i64.wrap ((↑i : Int) + 1) + 1)) ((List.take (j * 3) out).append [PV.int IntKind.i64 (IntKind.i64.wrap (asI (b.getD (i * 1) PV.nilp))), PV.int IntKind.i64 (IntKind.i64.wrap (asI (b.getD ((IntKind.i64.wrap ((↑i : Int) + 1)).toNat * 1) PV.nilp))), PV.sl [] 1 0 none]) (j + 1))
                    else
                      (ass (j == j && (decide (j ≤ 1048576) && (decide (1 ≤ 1048576) && decide (0 + j * 3 ≤ out.length)))) <|
                      ass (!decide (0 + j + 1 ≤ j)) <|
                        ass (oldL 0 b) <|
                          ass (oldL 0 ((List.take (j * 3) out).append [PV.int IntKind.i64 (IntKind.i64.wrap (asI (b.getD (i * 1) PV.nilp))), PV.int IntKind.i64 (-1), PV.sl [] 1 0 none])) <|
                            L12b H12 N (m) (b) (n) (IntKind.i64.wrap (IntKind.i64.wrap ((↑i : Int) + 1) + 1)) ((List.take (j * 3) out).append [PV.int IntKind.i64 (IntKind.i64.wrap (asI (b.getD (i * 1) PV.nilp))), PV.int IntKind.i64 (-1), PV.sl [] 1 0 none]) (j + 1)))
              else
                (ass (j == j && (decide (j ≤ 1048576) && (decide (1 ≤ 1048576) && decide (0 + j * 3 ≤ out.length)))) <|
                ass (!decide (0 + j + 1 ≤ j)) <|
                  ass (oldL 0 b) <|
                    ass (oldL 0 ((List.take (j * 3) out).append [PV.int IntKind.i64 (IntKind.i64.wrap (asI (b.getD (i * 1) PV.nilp))), PV.int IntKind.i64 (-1), PV.sl [] 1 0 none])) <|
                      L12b H12 N (m) (b) (n) (IntKind.i64.wrap (IntKind.i64.wrap ((↑i : Int) + 1) + 1)) ((List.take (j * 3) out).append [PV.int IntKind.i64 (IntKind.i64.wrap (asI (b.getD (i * 1) PV.nilp))), PV.int IntKind.i64 (-1), PV.sl [] 1 0 none]) (j + 1)))
            else
              (bif IntKind.i64.wrap (asI (b.getD (i * 1) PV.nilp)) == 4 then
                (ass (oldL 0 b) <|
                ass (isBytes n b && decide (0 ≤ IntKind.i64.wrap ((↑i : Int) + 1))) <|
                  ass (oldL 0 b) <|
                    ass (isBytes n b && decide (0 ≤ IntKind.i64.wrap (IntKind.i64.wrap ((↑i : Int) + 1) + 1))) <|
                      ass (j == j && (decide (j ≤ 1048576) && (decide (1 ≤ 1048576) && decide (0 + j * 3 ≤ out.length)))) <|
                        ass (!decide (0 + j + 1 ≤ j)) <|
                          ass (oldL 0 b) <|
                            ass (oldL 0 ((List.take (j * 3) out).append [PV.int IntKind.i64 (IntKind.i64.wrap (asI (b.getD (i * 1) PV.nilp))), PV.int IntKind.i64 (IntKind.i64.wrap (IntKind.i64.wrap (Sp.getB (bytesL b) (IntKind.i64.wrap ((↑i : Int) + 1)).toNat * 256) + Sp.getB (bytesL b) (IntKind.i64.wrap (IntKind.i64.wrap ((↑i : Int) + 1) + 1)).toNat)), PV.sl [] 1 0 none])) <|
                              L12b H12 N (m) (b) (n) (IntKind.i64.wrap (IntKind.i64.wrap ((↑i : Int) + 1) + 2)) ((List.take (j * 3) out).append [PV.int IntKind.i64 (IntKind.i64.wrap (asI (b.getD (i * 1) PV.nilp))), PV.int IntKind.i64 (IntKind.i64.wrap (IntKind.i64.wrap (Sp.getB (bytesL b) (IntKind.i64.wrap ((↑i : Int) + 1)).toNat * 256) + Sp.getB (bytesL b) (IntKind.i64.wrap (IntKind.i64.wrap ((↑i : Int) + 1) + 1)).toNat)), PV.sl [] 1 0 none]) (j + 1))
              else
                (ass (j == j && (decide (j ≤ 1048576) && (decide (1 ≤ 1048576) && decide (0 + j * 3 ≤ out.length)))) <|
                ass (!decide (0 + j + 1 ≤ j)) <|
                  ass (oldL 0 b) <|
                    ass (oldL 0 ((List.take (j * 3) out).append [PV.int IntKind.i64 (IntKind.i64.wrap (asI (b.getD (i * 1) PV.nilp))), PV.int IntKind.i64 0, PV.sl [] 1 0 none])) <|
                      L12b H12 N (m) (b) (n) (IntKind.i64.wrap ((↑i : Int) + 1)) ((List.take (j * 3) out).append [PV.int IntKind.i64 (IntKind.i64.wrap (asI (b.getD (i * 1) PV.nilp))), PV.int IntKind.i64 0, PV.sl [] 1 0 none]) (j + 1))))))
  else
    (ass (j == j && (decide (0 + j * 3 ≤ out.length) && (decide (0 < 3) && (List.take (j * 3) (List.drop 0 out)).all PV.calm))) <|
    ass (oldL 0 (List.take (j * 3) (List.drop 0 out))) <|
      some (PV.sl (List.take (j * 3) (List.drop 0 out)) 3 j none))) := by kernel_rfl


end Go.Proofs.Ytbnfofcbajaiiaa.Am
