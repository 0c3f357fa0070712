/- Scripts as bytes: the law's tree. -/
import Derived.Test.YtbnfofcbajaiiaaDoorSe1
import Derived.KernelRfl
set_option linter.unusedVariables false
set_option maxRecDepth 100000
set_option maxHeartbeats 4000000
namespace Go.Proofs.YtbnfofcbajaiiaaDoor.Am

noncomputable def L3 (H : FuncId → Hint) (N m : Nat) (c : List PV) (n : Nat) (b : List PV) (bn : Nat) (s : List UInt8) (e : Bool) (dc : List PV) (dn : Nat) (i : Int) : Option PV := loopS EN TAll H N 5 3 Tryd.f3 [1, 1, 1, 1, 1, 1, 1, 1, 1, 0, 1, 0] ([true, false, true, true, true, true, true, true, false, false, true, true, true, true, true, true, true, true, true, true, true, true, true, true, true, true, true, true, true, true, true, true, true, true, true, true, true, true, true, true, true, true, true, true, true, true, true, true] ++ List.replicate 52 false) 0 m ([some (PV.sl c 3 n none), none, some (PV.bool false), some (PV.sl b 1 bn none), some PV.nilif, some (PV.sl b 1 bn none), some (PV.int IntKind.i64 0), some (PV.sl dc 3 dn none), none, none, some (PV.bool true), some (PV.bool false), some (PV.sl c 3 n none), some (PV.bool false), some (PV.tup [PV.sl b 1 bn none, PV.nilif]), some (PV.sl c 3 n none), some (PV.tup [PV.sl b 1 bn none, PV.nilif]), some (PV.sl b 1 bn none), some PV.nilif, some (PV.tup [PV.sl b 1 bn none, PV.int IntKind.i64 0]), some (PV.sl c 3 n none), some (PV.sl c 3 n none), some (PV.tup [PV.sl b 1 bn none, PV.int IntKind.i64 0]), some (PV.sl b 1 bn none), some (PV.int IntKind.i64 0), some PV.nilif, some (PV.int IntKind.i64 0), some (PV.int IntKind.i64 0), some (PV.bool false), some (PV.bool false), some (PV.sl b 1 bn none), some (PV.str s), some (PV.sl b 1 bn none), some (PV.str s), some (PV.bool e), some (PV.bool false), some (PV.int IntKind.i64 0), some (PV.bool false), some (PV.sl b 1 bn none), some (PV.sl dc 3 dn none), some (PV.sl dc 3 dn none), some (PV.int IntKind.i64 (↑dn : Int)), some (PV.sl c 3 n none), some (PV.int IntKind.i64 (↑n : Int)), some (PV.bool false), some (PV.sl c 3 n none), some (PV.int IntKind.i64 (↑n : Int)), some (PV.int IntKind.i64 i)] ++ List.replicate 52 none) []

def H3 : FuncId → Hint := fun f t => match f, t with
  | 3, 92 => [none, none, none, none, none, none, none, none, none, some false]
  | 3, 98 => [none, none, none, none, none, none, none, none, some false]
  | _, _ => []

theorem t13 (N : Nat) (k : Int) (m : Int) (b : List PV) (n : Nat) (k' : Int) (m' : Int) (b' : List PV) (n' : Nat) : apartS EN T0 H0 N 5 13 [PV.agg [PV.int IntKind.i64 k, PV.int IntKind.i64 m, PV.sl b 1 n none], PV.agg [PV.int IntKind.i64 k', PV.int IntKind.i64 m', PV.sl b' 1 n' none]] =
  (bif k == k' then
    (bif m == m' then
      (ass (b.length == n && b.all okByte) <|
      ass (b'.length == n' && b'.all okByte) <|
        some (PV.bool (bytesL b == bytesL b')))
    else
      (some (PV.bool false)))
  else
    (some (PV.bool false))) := by kernel_rfl

theorem t3 (N : Nat) (c : List PV) (n : Nat) : apartS EN TAll H3 N 5 3 [PV.sl c 3 n none] =
  (ass (oldL 0 c) <|
  ass (Sp.okActs n c && (decide ((↑n : Int) > 30) || decide (n ≤ 1000000))) <|
    bif Sp.long n c 30 then
        (some (PV.bool true))
      else
        (ass (oldL 0 c) <|
        bif (Sp.errOf c).beq 0 then
            (ass (Sp.short n c) <|
            ass (oldL 0 c) <|
              ass (Sp.okActs n c && decide (n ≤ 1000000)) <|
                ass (oldL 0 c) <|
                  bif (Sp.errOf c).beq 0 then
                      (ass (Sp.short n c) <|
                      ass ((Sp.encC c).length == Sp.encN c && (Sp.encC c).all okByte) <|
                        ass ((Sp.encC c).length == Sp.encN c && (Sp.encC c).all okByte) <|
                          bif !bytesL (Sp.encC c) == bytesL (Sp.encC c) then
                              (some (PV.bool false))
                            else
                              (ass (oldL 0 (Sp.encC c)) <|
                              ass (isBytes (Sp.encN c) (Sp.encC c) && decide (Sp.encN c ≤ 500000)) <|
                                bif (↑(Sp.decN (bytesL (Sp.encC c))) : Int) != (↑n : Int) then
                                    (some (PV.bool false))
                                  else
                                    (L3 H3 N (N) (c) (n) (Sp.encC c) (Sp.encN c) (bytesL (Sp.encC c)) (!bytesL (Sp.encC c) == bytesL (Sp.encC c)) (Sp.decC (bytesL (Sp.encC c))) (Sp.decN (bytesL (Sp.encC c))) (0))))
                    else
                      (ass (Sp.short n c) <|
                      bif 0 != (↑(Sp.errOf c) : Int) then
                          (some (PV.bool false))
                        else
                          (ass ((Sp.encC c).length == Sp.encN c && (Sp.encC c).all okByte) <|
                          bif !bytesL (Sp.encC c) == [] then
                              (some (PV.bool false))
                            else
                              (bif (↑(Sp.errOf c) : Int) != 0 then
                                (some (PV.bool true))
                              else
                                (ass (oldL 0 (Sp.encC c)) <|
                                ass (isBytes (Sp.encN c) (Sp.encC c) && decide (Sp.encN c ≤ 500000)) <|
                                  bif (↑(Sp.decN (bytesL (Sp.encC c))) : Int) != (↑n : Int) then
                                      (some (PV.bool false))
                                    else
                                      (loopS EN TAll H3 N 5 3 Tryd.f3 [1, 1, 1, 1, 1, 1, 1, 1, 1, 0, 1, 0] [true, false, true, true, true, true, true, true, false, false, true, true, true, true, true, true, true, true, true, true, true, true, true, true, true, true, true, true, true, true, true, true, true, true, true, true, true, true, true, true, true, true, true, true, true, true, true, true, false, false, false, false, false, false, false, false, false, false, false, false, false, false, false, false, false, false, false, false, false, false, false, false, false, false, false, false, false, false, false, false, false, false, false, false, false, false, false, false, false, false, false, false, false, false, false, false, false, false, false, false] (0) (N) [some (PV.sl c 3 n none), none, some (PV.bool false), some (PV.sl (Sp.encC c) 1 (Sp.encN c) none), some PV.nilif, some (PV.sl [] 1 0 none), some (PV.int IntKind.i64 (↑(Sp.errOf c) : Int)), some (PV.sl (Sp.decC (bytesL (Sp.encC c))) 3 (Sp.decN (bytesL (Sp.encC c))) none), none, none, some (PV.bool true), some (PV.bool false), some (PV.sl c 3 n none), some (PV.bool false), some (PV.tup [PV.sl (Sp.encC c) 1 (Sp.encN c) none, PV.nilif]), some (PV.sl c 3 n none), some (PV.tup [PV.sl (Sp.encC c) 1 (Sp.encN c) none, PV.nilif]), some (PV.sl (Sp.encC c) 1 (Sp.encN c) none), some PV.nilif, some (PV.tup [PV.sl [] 1 0 none, PV.int IntKind.i64 (↑(Sp.errOf c) : Int)]), some (PV.sl c 3 n none), some (PV.sl c 3 n none), some (PV.tup [PV.sl [] 1 0 none, PV.int IntKind.i64 (↑(Sp.errOf c) : Int)]), some (PV.sl [] 1 0 none), some (PV.int IntKind.i64 (↑(Sp.errOf c) : Int)), some PV.nilif, some (PV.int IntKind.i64 0), some (PV.int IntKind.i64 (↑(Sp.errOf c) : Int)), some (PV.bool (0 != (↑(Sp.errOf c) : Int))), some (PV.bool false), some (PV.sl (Sp.encC c) 1 (Sp.encN c) none), some (PV.str (bytesL (Sp.encC c))), some (PV.sl [] 1 0 none), some (PV.str []), some (PV.bool !bytesL (Sp.encC c) == []), some (PV.bool false), some (PV.int IntKind.i64 (↑(Sp.errOf c) : Int)), some (PV.bool false), some (PV.sl (Sp.encC c) 1 (Sp.encN c) none), some (PV.sl (Sp.decC (bytesL (Sp.encC c))) 3 (Sp.decN (bytesL (Sp.encC c))) none), some (PV.sl (Sp.decC (bytesL (Sp.encC c))) 3 (Sp.decN (bytesL (Sp.encC c))) none), some (PV.int IntKind.i64 (↑(Sp.decN (bytesL (Sp.encC c))) : Int)), some (PV.sl c 3 n none), some (PV.int IntKind.i64 (↑n : Int)), some (PV.bool false), some (PV.sl c 3 n none), some (PV.int IntKind.i64 (↑n : Int)), some (PV.int IntKind.i64 0), none, none, none, none, none, none, none, none, none, none, none, none, none, none, none, none, none, none, none, none, none, none, none, none, none, none, none, none, none, none, none, none, none, none, none, none, none, none, none, none, none, none, none, none, none, none, none, none, none, none, none, none] []))))))
          else
            (ass (Sp.short n c) <|
            ass (oldL 0 c) <|
              ass (Sp.okActs n c && decide (n ≤ 1000000)) <|
                ass (oldL 0 c) <|
                  bif (Sp.errOf c).beq 0 then
                      (ass (Sp.short n c) <|
                      ass (Nat.beq 188 188 && (Sp.errOf c - 1).blt 18) <|
                        some (PV.bool false))
                    else
                      (ass (Sp.short n c) <|
                      ass (Nat.beq 188 188 && (Sp.errOf c - 1).blt 18) <|
                        bif (↑(Sp.errOf c - 1) : Int) + 1 != (↑(Sp.errOf c) : Int) then
                            (some (PV.bool false))
                          else
                            (bif (↑(Sp.errOf c) : Int) != 0 then
                              (some (PV.bool true))
                            else
                              (ass (isBytes 0 [] && decide (0 ≤ 500000)) <|
                              bif (↑0 : Int) != (↑n : Int) then
                                  (some (PV.bool false))
                                else
                                  (loopS EN TAll H3 N 5 3 Tryd.f3 [1, 1, 1, 1, 1, 1, 1, 1, 1, 0, 1, 0] [true, false, true, true, true, true, true, true, false, false, true, true, true, true, true, true, true, true, true, true, true, true, true, true, true, true, true, true, true, true, true, true, true, true, true, true, true, true, true, true, true, true, true, true, true, true, true, true, false, false, false, false, false, false, false, false, false, false, false, false, false, false, false, false, false, false, false, false, false, false, false, false, false, false, false, false, false, false, false, false, false, false, false, false, false, false, false, false, false, false, false, false, false, false, false, false, false, false, false, false] (0) (N) [some (PV.sl c 3 n none), none, some (PV.bool false), some (PV.sl [] 1 0 none), some (PV.iface 188 (PV.gptr (Sp.errOf c - 1))), some (PV.sl [] 1 0 none), some (PV.int IntKind.i64 (↑(Sp.errOf c) : Int)), some (PV.sl [] 3 0 none), none, none, some (PV.bool true), some (PV.bool false), some (PV.sl c 3 n none), some (PV.bool false), some (PV.tup [PV.sl [] 1 0 none, PV.iface 188 (PV.gptr (Sp.errOf c - 1))]), some (PV.sl c 3 n none), some (PV.tup [PV.sl [] 1 0 none, PV.iface 188 (PV.gptr (Sp.errOf c - 1))]), some (PV.sl [] 1 0 none), some (PV.iface 188 (PV.gptr (Sp.errOf c - 1))), some (PV.tup [PV.sl [] 1 0 none, PV.int IntKind.i64 (↑(Sp.errOf c) : Int)]), some (PV.sl c 3 n none), some (PV.sl c 3 n none), some (PV.tup [PV.sl [] 1 0 none, PV.int IntKind.i64 (↑(Sp.errOf c) : Int)]), some (PV.sl [] 1 0 none), some (PV.int IntKind.i64 (↑(Sp.errOf c) : Int)), some (PV.iface 188 (PV.gptr (Sp.errOf c - 1))), some (PV.int IntKind.i64 ((↑(Sp.errOf c - 1) : Int) + 1)), some (PV.int IntKind.i64 (↑(Sp.errOf c) : Int)), some (PV.bool ((↑(Sp.errOf c - 1) : Int) + 1 != (↑(Sp.errOf c) : Int))), some (PV.bool false), some (PV.sl [] 1 0 none), some (PV.str []), some (PV.sl [] 1 0 none), some (PV.str []), some (PV.bool false), some (PV.bool false), some (PV.int IntKind.i64 (↑(Sp.errOf c) : Int)), some (PV.bool false), some (PV.sl [] 1 0 none), some (PV.sl [] 3 0 none), some (PV.sl [] 3 0 none), some (PV.int IntKind.i64 (↑0 : Int)), some (PV.sl c 3 n none), some (PV.int IntKind.i64 (↑n : Int)), some (PV.bool false), some (PV.sl c 3 n none), some (PV.int IntKind.i64 (↑n : Int)), some (PV.int IntKind.i64 0), none, none, none, none, none, none, none, none, none, none, none, none, none, none, none, none, none, none, none, none, none, none, none, none, none, none, none, none, none, none, none, none, none, none, none, none, none, none, none, none, none, none, none, none, none, none, none, none, none, none, none, none] []))))))) := by kernel_rfl

theorem t3r (N : Nat) (m : Nat) (c : List PV) (n : Nat) (b : List PV) (bn : Nat) (s : List UInt8) (e : Bool) (dc : List PV) (dn : Nat) (i : Nat) : L3 H3 N (m + 1) c n b bn s e dc dn (↑i : Int) =
  (bif decide ((↑i : Int) < (↑n : Int)) then
    (ass (decide (0 ≤ (↑i : Int)) && decide ((↑i : Int) < (↑n : Int))) <|
    ass (okAt [Kd.int IntKind.i64, Kd.int IntKind.i64, Kd.sl 1] c (i * 3)) <|
      bif asI (c.getD (i * 3) PV.nilp) != 1 then
          (bif asI (c.getD (i * 3) PV.nilp) != 3 then
            (bif asI (c.getD (i * 3) PV.nilp) == 2 then
              (bif decide (asI (c.getD (i * 3 + 1) PV.nilp) < 0) then
                (bif asI (c.getD (i * 3) PV.nilp) != 2 then
                  (bif asI (c.getD (i * 3) PV.nilp) != 4 then
                    (ass (decide (0 ≤ (↑i : Int)) && decide ((↑i : Int) < (↑dn : Int))) <|
                    ass (okAt [Kd.int IntKind.i64, Kd.int IntKind.i64, Kd.sl 1] dc (i * 3)) <|
                      ass (oldL 1 (slCells (dc.getD (i * 3 + 1 + 1) PV.nilp))) <|
                        ass (oldL 0 (slCells (dc.getD (i * 3 + 1 + 1) PV.nilp))) <|
                          ass (isBytes (slLen (dc.getD (i * 3 + 1 + 1) PV.nilp)) (slCells (dc.getD (i * 3 + 1 + 1) PV.nilp)) && isBytes 0 []) <|
                            ass (!!Sp.sameA (asI (dc.getD (i * 3) PV.nilp)) (asI (dc.getD (i * 3 + 1) PV.nilp)) (slCells (dc.getD (i * 3 + 1 + 1) PV.nilp)) (asI (c.getD (i * 3) PV.nilp)) 0 []) <|
                              ass (decide (0 ≤ (↑i : Int)) && decide ((↑i : Int) < (↑dn : Int))) <|
                                ass (okAt [Kd.int IntKind.i64, Kd.int IntKind.i64, Kd.sl 1] dc (i * 3)) <|
                                  ass (oldL 1 (slCells (dc.getD (i * 3 + 1 + 1) PV.nilp))) <|
                                    ass (oldL 0 (slCells (dc.getD (i * 3 + 1 + 1) PV.nilp))) <|
                                      ass (isBytes (slLen (dc.getD (i * 3 + 1 + 1) PV.nilp)) (slCells (dc.getD (i * 3 + 1 + 1) PV.nilp)) && isBytes 0 []) <|
                                        ass (!Sp.sameA (asI (dc.getD (i * 3) PV.nilp)) (asI (dc.getD (i * 3 + 1) PV.nilp)) (slCells (dc.getD (i * 3 + 1 + 1) PV.nilp)) 7 0 []) <|
                                          ass (oldL 0 c) <|
                                            ass (oldL 0 b) <|
                                              ass (oldL 0 b) <|
                                                ass (oldL 0 dc) <|
                                                  ass (oldL 0 c) <|
                                                    ass (oldL 0 b) <|
                                                      ass (oldL 0 c) <|
                                                        ass (oldL 0 b) <|
                                                          ass (oldL 0 b) <|
                                                            ass (oldL 0 b) <|
                                                              ass (oldL 0 c) <|
                                                                ass (oldL 0 c) <|
                                                                  ass (oldL 0 b) <|
                                                                    ass (oldL 0 b) <|
                                                                      ass (oldL 0 b) <|
                                                                        ass (oldL 0 b) <|
                                                                          ass (oldL 0 b) <|
                                                                            ass (oldL 0 dc) <|
                                                                              ass (oldL 0 dc) <|
                                                                                ass (oldL 0 c) <|
                                                                                  ass (oldL 0 c) <|
                                                                                    L3 H3 N (m) (c) (n) (b) (bn) (s) (e) (dc) (dn) (IntKind.i64.wrap ((↑i : Int) + 1)))
                  else
                    (ass (decide (0 ≤ (↑i : Int)) && decide ((↑i : Int) < (↑dn : Int))) <|
                    ass (okAt [Kd.int IntKind.i64, Kd.int IntKind.i64, Kd.sl 1] dc (i * 3)) <|
                      ass (oldL 1 (slCells (dc.getD (i * 3 + 1 + 1) PV.nilp))) <|
                        ass (oldL 0 (slCells (dc.getD (i * 3 + 1 + 1) PV.nilp))) <|
                          ass (isBytes (slLen (dc.getD (i * 3 + 1 + 1) PV.nilp)) (slCells (dc.getD (i * 3 + 1 + 1) PV.nilp)) && isBytes 0 []) <|
                            ass (!!Sp.sameA (asI (dc.getD (i * 3) PV.nilp)) (asI (dc.getD (i * 3 + 1) PV.nilp)) (slCells (dc.getD (i * 3 + 1 + 1) PV.nilp)) (asI (c.getD (i * 3) PV.nilp)) (-1) []) <|
                              ass (decide (0 ≤ (↑i : Int)) && decide ((↑i : Int) < (↑dn : Int))) <|
                                ass (okAt [Kd.int IntKind.i64, Kd.int IntKind.i64, Kd.sl 1] dc (i * 3)) <|
                                  ass (oldL 1 (slCells (dc.getD (i * 3 + 1 + 1) PV.nilp))) <|
                                    ass (oldL 0 (slCells (dc.getD (i * 3 + 1 + 1) PV.nilp))) <|
                                      ass (isBytes (slLen (dc.getD (i * 3 + 1 + 1) PV.nilp)) (slCells (dc.getD (i * 3 + 1 + 1) PV.nilp)) && isBytes 0 []) <|
                                        ass (!Sp.sameA (asI (dc.getD (i * 3) PV.nilp)) (asI (dc.getD (i * 3 + 1) PV.nilp)) (slCells (dc.getD (i * 3 + 1 + 1) PV.nilp)) 7 0 []) <|
                                          ass (oldL 0 c) <|
                                            ass (oldL 0 b) <|
                                              ass (oldL 0 b) <|
                                                ass (oldL 0 dc) <|
                                                  ass (oldL 0 c) <|
                                                    ass (oldL 0 b) <|
                                                      ass (oldL 0 c) <|
                                                        ass (oldL 0 b) <|
                                                          ass (oldL 0 b) <|
                                                            ass (oldL 0 b) <|
                                                              ass (oldL 0 c) <|
                                                                ass (oldL 0 c) <|
                                                                  ass (oldL 0 b) <|
                                                                    ass (oldL 0 b) <|
                                                                      ass (oldL 0 b) <|
                                                                        ass (oldL 0 b) <|
                                                                          ass (oldL 0 b) <|
                                                                            ass (oldL 0 dc) <|
                                                                              ass (oldL 0 dc) <|
                                                                                ass (oldL 0 c) <|
                                                                                  ass (oldL 0 c) <|
                                                                                    L3 H3 N (m) (c) (n) (b) (bn) (s) (e) (dc) (dn) (IntKind.i64.wrap ((↑i : Int) + 1))))
                else
                  (ass (decide (0 ≤ (↑i : Int)) && decide ((↑i : Int) < (↑dn : Int))) <|
                  ass (okAt [Kd.int IntKind.i64, Kd.int IntKind.i64, Kd.sl 1] dc (i * 3)) <|
                    ass (oldL 1 (slCells (dc.getD (i * 3 + 1 + 1) PV.nilp))) <|
                      ass (oldL 0 (slCells (dc.getD (i * 3 + 1 + 1) PV.nilp))) <|
                        ass (isBytes (slLen (dc.getD (i * 3 + 1 + 1) PV.nilp)) (slCells (dc.getD (i * 3 + 1 + 1) PV.nilp)) && isBytes 0 []) <|
                          ass (!!Sp.sameA (asI (dc.getD (i * 3) PV.nilp)) (asI (dc.getD (i * 3 + 1) PV.nilp)) (slCells (dc.getD (i * 3 + 1 + 1) PV.nilp)) (asI (c.getD (i * 3) PV.nilp)) (-1) []) <|
                            ass (decide (0 ≤ (↑i : Int)) && decide ((↑i : Int) < (↑dn : Int))) <|
                              ass (okAt [Kd.int IntKind.i64, Kd.int IntKind.i64, Kd.sl 1] dc (i * 3)) <|
                                ass (oldL 1 (slCells (dc.getD (i * 3 + 1 + 1) PV.nilp))) <|
                                  ass (oldL 0 (slCells (dc.getD (i * 3 + 1 + 1) PV.nilp))) <|
                                    ass (isBytes (slLen (dc.getD (i * 3 + 1 + 1) PV.nilp)) (slCells (dc.getD (i * 3 + 1 + 1) PV.nilp)) && isBytes 0 []) <|
                                      ass (!Sp.sameA (asI (dc.getD (i * 3) PV.nilp)) (asI (dc.getD (i * 3 + 1) PV.nilp)) (slCells (dc.getD (i * 3 + 1 + 1) PV.nilp)) 7 0 []) <|
                                        ass (oldL 0 c) <|
                                          ass (oldL 0 b) <|
                                            ass (oldL 0 b) <|
                                              ass (oldL 0 dc) <|
                                                ass (oldL 0 c) <|
                                                  ass (oldL 0 b) <|
                                                    ass (oldL 0 c) <|
                                                      ass (oldL 0 b) <|
                                                        ass (oldL 0 b) <|
                                                          ass (oldL 0 b) <|
                                                            ass (oldL 0 c) <|
                                                              ass (oldL 0 c) <|
                                                                ass (oldL 0 b) <|
                                                                  ass (oldL 0 b) <|
                                                                    ass (oldL 0 b) <|
                                                                      ass (oldL 0 b) <|
                                                                        ass (oldL 0 b) <|
                                                                          ass (oldL 0 dc) <|
                                                                            ass (oldL 0 dc) <|
                                                                              ass (oldL 0 c) <|
                                                                                ass (oldL 0 c) <|
                                                                                  L3 H3 N (m) (c) (n) (b) (bn) (s) (e) (dc) (dn) (IntKind.i64.wrap ((↑i : Int) + 1))))
              else
                (bif decide (asI (c.getD (i * 3 + 1) PV.nilp) > 254) then
                  (bif asI (c.getD (i * 3) PV.nilp) != 2 then
                    (bif asI (c.getD (i * 3) PV.nilp) != 4 then
                      (ass (decide (0 ≤ (↑i : Int)) && decide ((↑i : Int) < (↑dn : Int))) <|
                      ass (okAt [Kd.int IntKind.i64, Kd.int IntKind.i64, Kd.sl 1] dc (i * 3)) <|
                        ass (oldL 1 (slCells (dc.getD (i * 3 + 1 + 1) PV.nilp))) <|
                          ass (oldL 0 (slCells (dc.getD (i * 3 + 1 + 1) PV.nilp))) <|
                            ass (isBytes (slLen (dc.getD (i * 3 + 1 + 1) PV.nilp)) (slCells (dc.getD (i * 3 + 1 + 1) PV.nilp)) && isBytes 0 []) <|
                              ass (!!Sp.sameA (asI (dc.getD (i * 3) PV.nilp)) (asI (dc.getD (i * 3 + 1) PV.nilp)) (slCells (dc.getD (i * 3 + 1 + 1) PV.nilp)) (asI (c.getD (i * 3) PV.nilp)) 0 []) <|
                                ass (decide (0 ≤ (↑i : Int)) && decide ((↑i : Int) < (↑dn : Int))) <|
                                  ass (okAt [Kd.int IntKind.i64, Kd.int IntKind.i64, Kd.sl 1] dc (i * 3)) <|
                                    ass (oldL 1 (slCells (dc.getD (i * 3 + 1 + 1) PV.nilp))) <|
                                      ass (oldL 0 (slCells (dc.getD (i * 3 + 1 + 1) PV.nilp))) <|
                                        ass (isBytes (slLen (dc.getD (i * 3 + 1 + 1) PV.nilp)) (slCells (dc.getD (i * 3 + 1 + 1) PV.nilp)) && isBytes 0 []) <|
                                          ass (!Sp.sameA (asI (dc.getD (i * 3) PV.nilp)) (asI (dc.getD (i * 3 + 1) PV.nilp)) (slCells (dc.getD (i * 3 + 1 + 1) PV.nilp)) 7 0 []) <|
                                            ass (oldL 0 c) <|
                                              ass (oldL 0 b) <|
                                                ass (oldL 0 b) <|
                                                  ass (oldL 0 dc) <|
                                                    ass (oldL 0 c) <|
                                                      ass (oldL 0 b) <|
                                                        ass (oldL 0 c) <|
                                                          ass (oldL 0 b) <|
                                                            ass (oldL 0 b) <|
                                                              ass (oldL 0 b) <|
                                                                ass (oldL 0 c) <|
                                                                  ass (oldL 0 c) <|
                                                                    ass (oldL 0 b) <|
                                                                      ass (oldL 0 b) <|
                                                                        ass (oldL 0 b) <|
                                                                          ass (oldL 0 b) <|
                                                                            ass (oldL 0 b) <|
                                                                              ass (oldL 0 dc) <|
                                                                                ass (oldL 0 dc) <|
                                                                                  ass (oldL 0 c) <|
                                                                                    ass (oldL 0 c) <|
                                                                                      L3 H3 N (m) (c) (n) (b) (bn) (s) (e) (dc) (dn) (IntKind.i64.wrap ((↑i : Int) + 1)))
                    else
                      (ass (decide (0 ≤ (↑i : Int)) && decide ((↑i : Int) < (↑dn : Int))) <|
                      ass (okAt [Kd.int IntKind.i64, Kd.int IntKind.i64, Kd.sl 1] dc (i * 3)) <|
                        ass (oldL 1 (slCells (dc.getD (i * 3 + 1 + 1) PV.nilp))) <|
                          ass (oldL 0 (slCells (dc.getD (i * 3 + 1 + 1) PV.nilp))) <|
                            ass (isBytes (slLen (dc.getD (i * 3 + 1 + 1) PV.nilp)) (slCells (dc.getD (i * 3 + 1 + 1) PV.nilp)) && isBytes 0 []) <|
                              ass (!!Sp.sameA (asI (dc.getD (i * 3) PV.nilp)) (asI (dc.getD (i * 3 + 1) PV.nilp)) (slCells (dc.getD (i * 3 + 1 + 1) PV.nilp)) (asI (c.getD (i * 3) PV.nilp)) (-1) []) <|
                                ass (decide (0 ≤ (↑i : Int)) && decide ((↑i : Int) < (↑dn : Int))) <|
                                  ass (okAt [Kd.int IntKind.i64, Kd.int IntKind.i64, Kd.sl 1] dc (i * 3)) <|
                                    ass (oldL 1 (slCells (dc.getD (i * 3 + 1 + 1) PV.nilp))) <|
                                      ass (oldL 0 (slCells (dc.getD (i * 3 + 1 + 1) PV.nilp))) <|
                                        ass (isBytes (slLen (dc.getD (i * 3 + 1 + 1) PV.nilp)) (slCells (dc.getD (i * 3 + 1 + 1) PV.nilp)) && isBytes 0 []) <|
                                          ass (!Sp.sameA (asI (dc.getD (i * 3) PV.nilp)) (asI (dc.getD (i * 3 + 1) PV.nilp)) (slCells (dc.getD (i * 3 + 1 + 1) PV.nilp)) 7 0 []) <|
                                            ass (oldL 0 c) <|
                                              ass (oldL 0 b) <|
                                                ass (oldL 0 b) <|
                                                  ass (oldL 0 dc) <|
                                                    ass (oldL 0 c) <|
                                                      ass (oldL 0 b) <|
                                                        ass (oldL 0 c) <|
                                                          ass (oldL 0 b) <|
                                                            ass (oldL 0 b) <|
                                                              ass (oldL 0 b) <|
                                                                ass (oldL 0 c) <|
                                                                  ass (oldL 0 c) <|
                                                                    ass (oldL 0 b) <|
                                                                      ass (oldL 0 b) <|
                                                                        ass (oldL 0 b) <|
                                                                          ass (oldL 0 b) <|
                                                                            ass (oldL 0 b) <|
                                                                              ass (oldL 0 dc) <|
                                                                                ass (oldL 0 dc) <|
                                                                                  ass (oldL 0 c) <|
                                                                                    ass (oldL 0 c) <|
                                                                                      L3 H3 N (m) (c) (n) (b) (bn) (s) (e) (dc) (dn) (IntKind.i64.wrap ((↑i : Int) + 1))))
                  else
                    (ass (decide (0 ≤ (↑i : Int)) && decide ((↑i : Int) < (↑dn : Int))) <|
                    ass (okAt [Kd.int IntKind.i64, Kd.int IntKind.i64, Kd.sl 1] dc (i * 3)) <|
                      ass (oldL 1 (slCells (dc.getD (i * 3 + 1 + 1) PV.nilp))) <|
                        ass (oldL 0 (slCells (dc.getD (i * 3 + 1 + 1) PV.nilp))) <|
                          ass (isBytes (slLen (dc.getD (i * 3 + 1 + 1) PV.nilp)) (slCells (dc.getD (i * 3 + 1 + 1) PV.nilp)) && isBytes 0 []) <|
                            ass (!!Sp.sameA (asI (dc.getD (i * 3) PV.nilp)) (asI (dc.getD (i * 3 + 1) PV.nilp)) (slCells (dc.getD (i * 3 + 1 + 1) PV.nilp)) (asI (c.getD (i * 3) PV.nilp)) (-1) []) <|
                              ass (decide (0 ≤ (↑i : Int)) && decide ((↑i : Int) < (↑dn : Int))) <|
                                ass (okAt [Kd.int IntKind.i64, Kd.int IntKind.i64, Kd.sl 1] dc (i * 3)) <|
                                  ass (oldL 1 (slCells (dc.getD (i * 3 + 1 + 1) PV.nilp))) <|
                                    ass (oldL 0 (slCells (dc.getD (i * 3 + 1 + 1) PV.nilp))) <|
                                      ass (isBytes (slLen (dc.getD (i * 3 + 1 + 1) PV.nilp)) (slCells (dc.getD (i * 3 + 1 + 1) PV.nilp)) && isBytes 0 []) <|
                                        ass (!Sp.sameA (asI (dc.getD (i * 3) PV.nilp)) (asI (dc.getD (i * 3 + 1) PV.nilp)) (slCells (dc.getD (i * 3 + 1 + 1) PV.nilp)) 7 0 []) <|
                                          ass (oldL 0 c) <|
                                            ass (oldL 0 b) <|
                                              ass (oldL 0 b) <|
                                                ass (oldL 0 dc) <|
                                                  ass (oldL 0 c) <|
                                                    ass (oldL 0 b) <|
                                                      ass (oldL 0 c) <|
                                                        ass (oldL 0 b) <|
                                                          ass (oldL 0 b) <|
                                                            ass (oldL 0 b) <|
                                                              ass (oldL 0 c) <|
                                                                ass (oldL 0 c) <|
                                                                  ass (oldL 0 b) <|
                                                                    ass (oldL 0 b) <|
                                                                      ass (oldL 0 b) <|
                                                                        ass (oldL 0 b) <|
                                                                          ass (oldL 0 b) <|
                                                                            ass (oldL 0 dc) <|
                                                                              ass (oldL 0 dc) <|
                                                                                ass (oldL 0 c) <|
                                                                                  ass (oldL 0 c) <|
                                                                                    L3 H3 N (m) (c) (n) (b) (bn) (s) (e) (dc) (dn) (IntKind.i64.wrap ((↑i : Int) + 1))))
                else
                  (bif asI (c.getD (i * 3) PV.nilp) != 2 then
                    (bif asI (c.getD (i * 3) PV.nilp) != 4 then
                      (ass (decide (0 ≤ (↑i : Int)) && decide ((↑i : Int) < (↑dn : Int))) <|
                      ass (okAt [Kd.int IntKind.i64, Kd.int IntKind.i64, Kd.sl 1] dc (i * 3)) <|
                        ass (oldL 1 (slCells (dc.getD (i * 3 + 1 + 1) PV.nilp))) <|
                          ass (oldL 0 (slCells (dc.getD (i * 3 + 1 + 1) PV.nilp))) <|
                            ass (isBytes (slLen (dc.getD (i * 3 + 1 + 1) PV.nilp)) (slCells (dc.getD (i * 3 + 1 + 1) PV.nilp)) && isBytes 0 []) <|
                              ass (!!Sp.sameA (asI (dc.getD (i * 3) PV.nilp)) (asI (dc.getD (i * 3 + 1) PV.nilp)) (slCells (dc.getD (i * 3 + 1 + 1) PV.nilp)) (asI (c.getD (i * 3) PV.nilp)) 0 []) <|
                                ass (decide (0 ≤ (↑i : Int)) && decide ((↑i : Int) < (↑dn : Int))) <|
                                  ass (okAt [Kd.int IntKind.i64, Kd.int IntKind.i64, Kd.sl 1] dc (i * 3)) <|
                                    ass (oldL 1 (slCells (dc.getD (i * 3 + 1 + 1) PV.nilp))) <|
                                      ass (oldL 0 (slCells (dc.getD (i * 3 + 1 + 1) PV.nilp))) <|
                                        ass (isBytes (slLen (dc.getD (i * 3 + 1 + 1) PV.nilp)) (slCells (dc.getD (i * 3 + 1 + 1) PV.nilp)) && isBytes 0 []) <|
                                          ass (!Sp.sameA (asI (dc.getD (i * 3) PV.nilp)) (asI (dc.getD (i * 3 + 1) PV.nilp)) (slCells (dc.getD (i * 3 + 1 + 1) PV.nilp)) 7 0 []) <|
                                            ass (oldL 0 c) <|
                                              ass (oldL 0 b) <|
                                                ass (oldL 0 b) <|
                                                  ass (oldL 0 dc) <|
                                                    ass (oldL 0 c) <|
                                                      ass (oldL 0 b) <|
                                                        ass (oldL 0 c) <|
                                                          ass (oldL 0 b) <|
                                                            ass (oldL 0 b) <|
                                                              ass (oldL 0 b) <|
                                                                ass (oldL 0 c) <|
                                                                  ass (oldL 0 c) <|
                                                                    ass (oldL 0 b) <|
                                                                      ass (oldL 0 b) <|
                                                                        ass (oldL 0 b) <|
                                                                          ass (oldL 0 b) <|
                                                                            ass (oldL 0 b) <|
                                                                              ass (oldL 0 dc) <|
                                                                                ass (oldL 0 dc) <|
                                                                                  ass (oldL 0 c) <|
                                                                                    ass (oldL 0 c) <|
                                                                                      L3 H3 N (m) (c) (n) (b) (bn) (s) (e) (dc) (dn) (IntKind.i64.wrap ((↑i : Int) + 1)))
                    else
                      (ass (decide (0 ≤ (↑i : Int)) && decide ((↑i : Int) < (↑dn : Int))) <|
                      ass (okAt [Kd.int IntKind.i64, Kd.int IntKind.i64, Kd.sl 1] dc (i * 3)) <|
                        ass (oldL 1 (slCells (dc.getD (i * 3 + 1 + 1) PV.nilp))) <|
                          ass (oldL 0 (slCells (dc.getD (i * 3 + 1 + 1) PV.nilp))) <|
                            ass (isBytes (slLen (dc.getD (i * 3 + 1 + 1) PV.nilp)) (slCells (dc.getD (i * 3 + 1 + 1) PV.nilp)) && isBytes 0 []) <|
                              ass (!!Sp.sameA (asI (dc.getD (i * 3) PV.nilp)) (asI (dc.getD (i * 3 + 1) PV.nilp)) (slCells (dc.getD (i * 3 + 1 + 1) PV.nilp)) (asI (c.getD (i * 3) PV.nilp)) (asI (c.getD (i * 3 + 1) PV.nilp)) []) <|
                                ass (decide (0 ≤ (↑i : Int)) && decide ((↑i : Int) < (↑dn : Int))) <|
                                  ass (okAt [Kd.int IntKind.i64, Kd.int IntKind.i64, Kd.sl 1] dc (i * 3)) <|
                                    ass (oldL 1 (slCells (dc.getD (i * 3 + 1 + 1) PV.nilp))) <|
                                      ass (oldL 0 (slCells (dc.getD (i * 3 + 1 + 1) PV.nilp))) <|
                                        ass (isBytes (slLen (dc.getD (i * 3 + 1 + 1) PV.nilp)) (slCells (dc.getD (i * 3 + 1 + 1) PV.nilp)) && isBytes 0 []) <|
                                          ass (!Sp.sameA (asI (dc.getD (i * 3) PV.nilp)) (asI (dc.getD (i * 3 + 1) PV.nilp)) (slCells (dc.getD (i * 3 + 1 + 1) PV.nilp)) 7 0 []) <|
                                            ass (oldL 0 c) <|
                                              ass (oldL 0 b) <|
                                                ass (oldL 0 b) <|
                                                  ass (oldL 0 dc) <|
                                                    ass (oldL 0 c) <|
                                                      ass (oldL 0 b) <|
                                                        ass (oldL 0 c) <|
                                                          ass (oldL 0 b) <|
                                                            ass (oldL 0 b) <|
                                                              ass (oldL 0 b) <|
                                                                ass (oldL 0 c) <|
                                                                  ass (oldL 0 c) <|
                                                                    ass (oldL 0 b) <|
                                                                      ass (oldL 0 b) <|
                                                                        ass (oldL 0 b) <|
                                                                          ass (oldL 0 b) <|
                                                                            ass (oldL 0 b) <|
                                                                              ass (oldL 0 dc) <|
                                                                                ass (oldL 0 dc) <|
                                                                                  ass (oldL 0 c) <|
                                                                                    ass (oldL 0 c) <|
                                                                                      L3 H3 N (m) (c) (n) (b) (bn) (s) (e) (dc) (dn) (IntKind.i64.wrap ((↑i : Int) + 1))))
                  else
                    (ass (decide (0 ≤ (↑i : Int)) && decide ((↑i : Int) < (↑dn : Int))) <|
                    ass (okAt [Kd.int IntKind.i64, Kd.int IntKind.i64, Kd.sl 1] dc (i * 3)) <|
                      ass (oldL 1 (slCells (dc.getD (i * 3 + 1 + 1) PV.nilp))) <|
                        ass (oldL 0 (slCells (dc.getD (i * 3 + 1 + 1) PV.nilp))) <|
                          ass (isBytes (slLen (dc.getD (i * 3 + 1 + 1) PV.nilp)) (slCells (dc.getD (i * 3 + 1 + 1) PV.nilp)) && isBytes 0 []) <|
                            ass (!!Sp.sameA (asI (dc.getD (i * 3) PV.nilp)) (asI (dc.getD (i * 3 + 1) PV.nilp)) (slCells (dc.getD (i * 3 + 1 + 1) PV.nilp)) (asI (c.getD (i * 3) PV.nilp)) (asI (c.getD (i * 3 + 1) PV.nilp)) []) <|
                              ass (decide (0 ≤ (↑i : Int)) && decide ((↑i : Int) < (↑dn : Int))) <|
                                ass (okAt [Kd.int IntKind.i64, Kd.int IntKind.i64, Kd.sl 1] dc (i * 3)) <|
                                  ass (oldL 1 (slCells (dc.getD (i * 3 + 1 + 1) PV.nilp))) <|
                                    ass (oldL 0 (slCells (dc.getD (i * 3 + 1 + 1) PV.nilp))) <|
                                      ass (isBytes (slLen (dc.getD (i * 3 + 1 + 1) PV.nilp)) (slCells (dc.getD (i * 3 + 1 + 1) PV.nilp)) && isBytes 0 []) <|
                                        ass (!Sp.sameA (asI (dc.getD (i * 3) PV.nilp)) (asI (dc.getD (i * 3 + 1) PV.nilp)) (slCells (dc.getD (i * 3 + 1 + 1) PV.nilp)) 7 0 []) <|
                                          ass (oldL 0 c) <|
                                            ass (oldL 0 b) <|
                                              ass (oldL 0 b) <|
                                                ass (oldL 0 dc) <|
                                                  ass (oldL 0 c) <|
                                                    ass (oldL 0 b) <|
                                                      ass (oldL 0 c) <|
                                                        ass (oldL 0 b) <|
                                                          ass (oldL 0 b) <|
                                                            ass (oldL 0 b) <|
                                                              ass (oldL 0 c) <|
                                                                ass (oldL 0 c) <|
                                                                  ass (oldL 0 b) <|
                                                                    ass (oldL 0 b) <|
                                                                      ass (oldL 0 b) <|
                                                                        ass (oldL 0 b) <|
                                                                          ass (oldL 0 b) <|
                                                                            ass (oldL 0 dc) <|
                                                                              ass (oldL 0 dc) <|
                                                                                ass (oldL 0 c) <|
                                                                                  ass (oldL 0 c) <|
                                                                                    L3 H3 N (m) (c) (n) (b) (bn) (s) (e) (dc) (dn) (IntKind.i64.wrap ((↑i : Int) + 1))))))
            else
              (bif asI (c.getD (i * 3) PV.nilp) != 2 then
                (bif asI (c.getD (i * 3) PV.nilp) != 4 then
                  (ass (decide (0 ≤ (↑i : Int)) && decide ((↑i : Int) < (↑dn : Int))) <|
                  ass (okAt [Kd.int IntKind.i64, Kd.int IntKind.i64, Kd.sl 1] dc (i * 3)) <|
                    ass (oldL 1 (slCells (dc.getD (i * 3 + 1 + 1) PV.nilp))) <|
                      ass (oldL 0 (slCells (dc.getD (i * 3 + 1 + 1) PV.nilp))) <|
                        ass (isBytes (slLen (dc.getD (i * 3 + 1 + 1) PV.nilp)) (slCells (dc.getD (i * 3 + 1 + 1) PV.nilp)) && isBytes 0 []) <|
                          ass (!!Sp.sameA (asI (dc.getD (i * 3) PV.nilp)) (asI (dc.getD (i * 3 + 1) PV.nilp)) (slCells (dc.getD (i * 3 + 1 + 1) PV.nilp)) (asI (c.getD (i * 3) PV.nilp)) 0 []) <|
                            ass (decide (0 ≤ (↑i : Int)) && decide ((↑i : Int) < (↑dn : Int))) <|
                              ass (okAt [Kd.int IntKind.i64, Kd.int IntKind.i64, Kd.sl 1] dc (i * 3)) <|
                                ass (oldL 1 (slCells (dc.getD (i * 3 + 1 + 1) PV.nilp))) <|
                                  ass (oldL 0 (slCells (dc.getD (i * 3 + 1 + 1) PV.nilp))) <|
                                    ass (isBytes (slLen (dc.getD (i * 3 + 1 + 1) PV.nilp)) (slCells (dc.getD (i * 3 + 1 + 1) PV.nilp)) && isBytes 0 []) <|
                                      ass (!Sp.sameA (asI (dc.getD (i * 3) PV.nilp)) (asI (dc.getD (i * 3 + 1) PV.nilp)) (slCells (dc.getD (i * 3 + 1 + 1) PV.nilp)) 7 0 []) <|
                                        ass (oldL 0 c) <|
                                          ass (oldL 0 b) <|
                                            ass (oldL 0 b) <|
                                              ass (oldL 0 dc) <|
                                                ass (oldL 0 c) <|
                                                  ass (oldL 0 b) <|
                                                    ass (oldL 0 c) <|
                                                      ass (oldL 0 b) <|
                                                        ass (oldL 0 b) <|
                                                          ass (oldL 0 b) <|
                                                            ass (oldL 0 c) <|
                                                              ass (oldL 0 c) <|
                                                                ass (oldL 0 b) <|
                                                                  ass (oldL 0 b) <|
                                                                    ass (oldL 0 b) <|
                                                                      ass (oldL 0 b) <|
                                                                        ass (oldL 0 b) <|
                                                                          ass (oldL 0 dc) <|
                                                                            ass (oldL 0 dc) <|
                                                                              ass (oldL 0 c) <|
                                                                                ass (oldL 0 c) <|
                                                                                  L3 H3 N (m) (c) (n) (b) (bn) (s) (e) (dc) (dn) (IntKind.i64.wrap ((↑i : Int) + 1)))
                else
                  (ass (decide (0 ≤ (↑i : Int)) && decide ((↑i : Int) < (↑dn : Int))) <|
                  ass (okAt [Kd.int IntKind.i64, Kd.int IntKind.i64, Kd.sl 1] dc (i * 3)) <|
                    ass (oldL 1 (slCells (dc.getD (i * 3 + 1 + 1) PV.nilp))) <|
                      ass (oldL 0 (slCells (dc.getD (i * 3 + 1 + 1) PV.nilp))) <|
                        ass (isBytes (slLen (dc.getD (i * 3 + 1 + 1) PV.nilp)) (slCells (dc.getD (i * 3 + 1 + 1) PV.nilp)) && isBytes 0 []) <|
                          ass (!!Sp.sameA (asI (dc.getD (i * 3) PV.nilp)) (asI (dc.getD (i * 3 + 1) PV.nilp)) (slCells (dc.getD (i * 3 + 1 + 1) PV.nilp)) (asI (c.getD (i * 3) PV.nilp)) (asI (c.getD (i * 3 + 1) PV.nilp)) []) <|
                            ass (decide (0 ≤ (↑i : Int)) && decide ((↑i : Int) < (↑dn : Int))) <|
                              ass (okAt [Kd.int IntKind.i64, Kd.int IntKind.i64, Kd.sl 1] dc (i * 3)) <|
                                ass (oldL 1 (slCells (dc.getD (i * 3 + 1 + 1) PV.nilp))) <|
                                  ass (oldL 0 (slCells (dc.getD (i * 3 + 1 + 1) PV.nilp))) <|
                                    ass (isBytes (slLen (dc.getD (i * 3 + 1 + 1) PV.nilp)) (slCells (dc.getD (i * 3 + 1 + 1) PV.nilp)) && isBytes 0 []) <|
                                      ass (!Sp.sameA (asI (dc.getD (i * 3) PV.nilp)) (asI (dc.getD (i * 3 + 1) PV.nilp)) (slCells (dc.getD (i * 3 + 1 + 1) PV.nilp)) 7 0 []) <|
                                        ass (oldL 0 c) <|
                                          ass (oldL 0 b) <|
                                            ass (oldL 0 b) <|
                                              ass (oldL 0 dc) <|
                                                ass (oldL 0 c) <|
                                                  ass (oldL 0 b) <|
                                                    ass (oldL 0 c) <|
                                                      ass (oldL 0 b) <|
                                                        ass (oldL 0 b) <|
                                                          ass (oldL 0 b) <|
                                                            ass (oldL 0 c) <|
                                                              ass (oldL 0 c) <|
                                                                ass (oldL 0 b) <|
                                                                  ass (oldL 0 b) <|
                                                                    ass (oldL 0 b) <|
                                                                      ass (oldL 0 b) <|
                                                                        ass (oldL 0 b) <|
                                                                          ass (oldL 0 dc) <|
                                                                            ass (oldL 0 dc) <|
                                                                              ass (oldL 0 c) <|
                                                                                ass (oldL 0 c) <|
                                                                                  L3 H3 N (m) (c) (n) (b) (bn) (s) (e) (dc) (dn) (IntKind.i64.wrap ((↑i : Int) + 1))))
              else
                (ass (decide (0 ≤ (↑i : Int)) && decide ((↑i : Int) < (↑dn : Int))) <|
                ass (okAt [Kd.int IntKind.i64, Kd.int IntKind.i64, Kd.sl 1] dc (i * 3)) <|
                  ass (oldL 1 (slCells (dc.getD (i * 3 + 1 + 1) PV.nilp))) <|
                    ass (oldL 0 (slCells (dc.getD (i * 3 + 1 + 1) PV.nilp))) <|
                      ass (isBytes (slLen (dc.getD (i * 3 + 1 + 1) PV.nilp)) (slCells (dc.getD (i * 3 + 1 + 1) PV.nilp)) && isBytes 0 []) <|
                        ass (!!Sp.sameA (asI (dc.getD (i * 3) PV.nilp)) (asI (dc.getD (i * 3 + 1) PV.nilp)) (slCells (dc.getD (i * 3 + 1 + 1) PV.nilp)) (asI (c.getD (i * 3) PV.nilp)) (asI (c.getD (i * 3 + 1) PV.nilp)) []) <|
                          ass (decide (0 ≤ (↑i : Int)) && decide ((↑i : Int) < (↑dn : Int))) <|
                            ass (okAt [Kd.int IntKind.i64, Kd.int IntKind.i64, Kd.sl 1] dc (i * 3)) <|
                              ass (oldL 1 (slCells (dc.getD (i * 3 + 1 + 1) PV.nilp))) <|
                                ass (oldL 0 (slCells (dc.getD (i * 3 + 1 + 1) PV.nilp))) <|
                                  ass (isBytes (slLen (dc.getD (i * 3 + 1 + 1) PV.nilp)) (slCells (dc.getD (i * 3 + 1 + 1) PV.nilp)) && isBytes 0 []) <|
                                    ass (!Sp.sameA (asI (dc.getD (i * 3) PV.nilp)) (asI (dc.getD (i * 3 + 1) PV.nilp)) (slCells (dc.getD (i * 3 + 1 + 1) PV.nilp)) 7 0 []) <|
                                      ass (oldL 0 c) <|
                                        ass (oldL 0 b) <|
                                          ass (oldL 0 b) <|
                                            ass (oldL 0 dc) <|
                                              ass (oldL 0 c) <|
                                                ass (oldL 0 b) <|
                                                  ass (oldL 0 c) <|
                                                    ass (oldL 0 b) <|
                                                      ass (oldL 0 b) <|
                                                        ass (oldL 0 b) <|
                                                          ass (oldL 0 c) <|
                                                            ass (oldL 0 c) <|
                                                              ass (oldL 0 b) <|
                                                                ass (oldL 0 b) <|
                                                                  ass (oldL 0 b) <|
                                                                    ass (oldL 0 b) <|
                                                                      ass (oldL 0 b) <|
                                                                        ass (oldL 0 dc) <|
                                                                          ass (oldL 0 dc) <|
                                                                            ass (oldL 0 c) <|
                                                                              ass (oldL 0 c) <|
                                                                                L3 H3 N (m) (c) (n) (b) (bn) (s) (e) (dc) (dn) (IntKind.i64.wrap ((↑i : Int) + 1)))))
          else
            (bif asI (c.getD (i * 3) PV.nilp) == 2 then
              (bif decide (asI (c.getD (i * 3 + 1) PV.nilp) < 0) then
                (bif asI (c.getD (i * 3) PV.nilp) != 2 then
                  (bif asI (c.getD (i * 3) PV.nilp) != 4 then
                    (ass (decide (0 ≤ (↑i : Int)) && decide ((↑i : Int) < (↑dn : Int))) <|
                    ass (okAt [Kd.int IntKind.i64, Kd.int IntKind.i64, Kd.sl 1] dc (i * 3)) <|
                      ass (oldL 1 (slCells (dc.getD (i * 3 + 1 + 1) PV.nilp))) <|
                        ass (oldL 1 (slCells (c.getD (i * 3 + 1 + 1) PV.nilp))) <|
                          ass (oldL 0 (slCells (dc.getD (i * 3 + 1 + 1) PV.nilp))) <|
                            ass (oldL 0 (slCells (c.getD (i * 3 + 1 + 1) PV.nilp))) <|
                              ass (isBytes (slLen (dc.getD (i * 3 + 1 + 1) PV.nilp)) (slCells (dc.getD (i * 3 + 1 + 1) PV.nilp)) && isBytes (slLen (c.getD (i * 3 + 1 + 1) PV.nilp)) (slCells (c.getD (i * 3 + 1 + 1) PV.nilp))) <|
                                ass (!!Sp.sameA (asI (dc.getD (i * 3) PV.nilp)) (asI (dc.getD (i * 3 + 1) PV.nilp)) (slCells (dc.getD (i * 3 + 1 + 1) PV.nilp)) (asI (c.getD (i * 3) PV.nilp)) 0 (slCells (c.getD (i * 3 + 1 + 1) PV.nilp))) <|
                                  ass (decide (0 ≤ (↑i : Int)) && decide ((↑i : Int) < (↑dn : Int))) <|
                                    ass (okAt [Kd.int IntKind.i64, Kd.int IntKind.i64, Kd.sl 1] dc (i * 3)) <|
                                      ass (oldL 1 (slCells (dc.getD (i * 3 + 1 + 1) PV.nilp))) <|
                                        ass (oldL 0 (slCells (dc.getD (i * 3 + 1 + 1) PV.nilp))) <|
                                          ass (isBytes (slLen (dc.getD (i * 3 + 1 + 1) PV.nilp)) (slCells (dc.getD (i * 3 + 1 + 1) PV.nilp)) && isBytes 0 []) <|
                                            ass (!Sp.sameA (asI (dc.getD (i * 3) PV.nilp)) (asI (dc.getD (i * 3 + 1) PV.nilp)) (slCells (dc.getD (i * 3 + 1 + 1) PV.nilp)) 7 0 []) <|
                                              ass (oldL 0 c) <|
                                                ass (oldL 0 b) <|
                                                  ass (oldL 0 b) <|
                                                    ass (oldL 0 dc) <|
                                                      ass (oldL 0 c) <|
                                                        ass (oldL 0 b) <|
                                                          ass (oldL 0 c) <|
                                                            ass (oldL 0 b) <|
                                                              ass (oldL 0 b) <|
                                                                ass (oldL 0 b) <|
                                                                  ass (oldL 0 c) <|
                                                                    ass (oldL 0 c) <|
                                                                      ass (oldL 0 b) <|
                                                                        ass (oldL 0 b) <|
                                                                          ass (oldL 0 b) <|
                                                                            ass (oldL 0 b) <|
                                                                              ass (oldL 0 b) <|
                                                                                ass (oldL 0 dc) <|
                                                                                  ass (oldL 0 dc) <|
                                                                                    ass (oldL 0 c) <|
                                                                                      ass (oldL 0 c) <|
                                                                                        L3 H3 N (m) (c) (n) (b) (bn) (s) (e) (dc) (dn) (IntKind.i64.wrap ((↑i : Int) + 1)))
                  else
                    (ass (decide (0 ≤ (↑i : Int)) && decide ((↑i : Int) < (↑dn : Int))) <|
                    ass (okAt [Kd.int IntKind.i64, Kd.int IntKind.i64, Kd.sl 1] dc (i * 3)) <|
                      ass (oldL 1 (slCells (dc.getD (i * 3 + 1 + 1) PV.nilp))) <|
                        ass (oldL 1 (slCells (c.getD (i * 3 + 1 + 1) PV.nilp))) <|
                          ass (oldL 0 (slCells (dc.getD (i * 3 + 1 + 1) PV.nilp))) <|
                            ass (oldL 0 (slCells (c.getD (i * 3 + 1 + 1) PV.nilp))) <|
                              ass (isBytes (slLen (dc.getD (i * 3 + 1 + 1) PV.nilp)) (slCells (dc.getD (i * 3 + 1 + 1) PV.nilp)) && isBytes (slLen (c.getD (i * 3 + 1 + 1) PV.nilp)) (slCells (c.getD (i * 3 + 1 + 1) PV.nilp))) <|
                                ass (!!Sp.sameA (asI (dc.getD (i * 3) PV.nilp)) (asI (dc.getD (i * 3 + 1) PV.nilp)) (slCells (dc.getD (i * 3 + 1 + 1) PV.nilp)) (asI (c.getD (i * 3) PV.nilp)) (-1) (slCells (c.getD (i * 3 + 1 + 1) PV.nilp))) <|
                                  ass (decide (0 ≤ (↑i : Int)) && decide ((↑i : Int) < (↑dn : Int))) <|
                                    ass (okAt [Kd.int IntKind.i64, Kd.int IntKind.i64, Kd.sl 1] dc (i * 3)) <|
                                      ass (oldL 1 (slCells (dc.getD (i * 3 + 1 + 1) PV.nilp))) <|
                                        ass (oldL 0 (slCells (dc.getD (i * 3 + 1 + 1) PV.nilp))) <|
                                          ass (isBytes (slLen (dc.getD (i * 3 + 1 + 1) PV.nilp)) (slCells (dc.getD (i * 3 + 1 + 1) PV.nilp)) && isBytes 0 []) <|
                                            ass (!Sp.sameA (asI (dc.getD (i * 3) PV.nilp)) (asI (dc.getD (i * 3 + 1) PV.nilp)) (slCells (dc.getD (i * 3 + 1 + 1) PV.nilp)) 7 0 []) <|
                                              ass (oldL 0 c) <|
                                                ass (oldL 0 b) <|
                                                  ass (oldL 0 b) <|
                                                    ass (oldL 0 dc) <|
                                                      ass (oldL 0 c) <|
                                                        ass (oldL 0 b) <|
                                                          ass (oldL 0 c) <|
                                                            ass (oldL 0 b) <|
                                                              ass (oldL 0 b) <|
                                                                ass (oldL 0 b) <|
                                                                  ass (oldL 0 c) <|
                                                                    ass (oldL 0 c) <|
                                                                      ass (oldL 0 b) <|
                                                                        ass (oldL 0 b) <|
                                                                          ass (oldL 0 b) <|
                                                                            ass (oldL 0 b) <|
                                                                              ass (oldL 0 b) <|
                                                                                ass (oldL 0 dc) <|
                                                                                  ass (oldL 0 dc) <|
                                                                                    ass (oldL 0 c) <|
                                                                                      ass (oldL 0 c) <|
                                                                                        L3 H3 N (m) (c) (n) (b) (bn) (s) (e) (dc) (dn) (IntKind.i64.wrap ((↑i : Int) + 1))))
                else
                  (ass (decide (0 ≤ (↑i : Int)) && decide ((↑i : Int) < (↑dn : Int))) <|
                  ass (okAt [Kd.int IntKind.i64, Kd.int IntKind.i64, Kd.sl 1] dc (i * 3)) <|
                    ass (oldL 1 (slCells (dc.getD (i * 3 + 1 + 1) PV.nilp))) <|
                      ass (oldL 1 (slCells (c.getD (i * 3 + 1 + 1) PV.nilp))) <|
                        ass (oldL 0 (slCells (dc.getD (i * 3 + 1 + 1) PV.nilp))) <|
                          ass (oldL 0 (slCells (c.getD (i * 3 + 1 + 1) PV.nilp))) <|
                            ass (isBytes (slLen (dc.getD (i * 3 + 1 + 1) PV.nilp)) (slCells (dc.getD (i * 3 + 1 + 1) PV.nilp)) && isBytes (slLen (c.getD (i * 3 + 1 + 1) PV.nilp)) (slCells (c.getD (i * 3 + 1 + 1) PV.nilp))) <|
                              ass (!!Sp.sameA (asI (dc.getD (i * 3) PV.nilp)) (asI (dc.getD (i * 3 + 1) PV.nilp)) (slCells (dc.getD (i * 3 + 1 + 1) PV.nilp)) (asI (c.getD (i * 3) PV.nilp)) (-1) (slCells (c.getD (i * 3 + 1 + 1) PV.nilp))) <|
                                ass (decide (0 ≤ (↑i : Int)) && decide ((↑i : Int) < (↑dn : Int))) <|
                                  ass (okAt [Kd.int IntKind.i64, Kd.int IntKind.i64, Kd.sl 1] dc (i * 3)) <|
                                    ass (oldL 1 (slCells (dc.getD (i * 3 + 1 + 1) PV.nilp))) <|
                                      ass (oldL 0 (slCells (dc.getD (i * 3 + 1 + 1) PV.nilp))) <|
                                        ass (isBytes (slLen (dc.getD (i * 3 + 1 + 1) PV.nilp)) (slCells (dc.getD (i * 3 + 1 + 1) PV.nilp)) && isBytes 0 []) <|
                                          ass (!Sp.sameA (asI (dc.getD (i * 3) PV.nilp)) (asI (dc.getD (i * 3 + 1) PV.nilp)) (slCells (dc.getD (i * 3 + 1 + 1) PV.nilp)) 7 0 []) <|
                                            ass (oldL 0 c) <|
                                              ass (oldL 0 b) <|
                                                ass (oldL 0 b) <|
                                                  ass (oldL 0 dc) <|
                                                    ass (oldL 0 c) <|
                                                      ass (oldL 0 b) <|
                                                        ass (oldL 0 c) <|
                                                          ass (oldL 0 b) <|
                                                            ass (oldL 0 b) <|
                                                              ass (oldL 0 b) <|
                                                                ass (oldL 0 c) <|
                                                                  ass (oldL 0 c) <|
                                                                    ass (oldL 0 b) <|
                                                                      ass (oldL 0 b) <|
                                                                        ass (oldL 0 b) <|
                                                                          ass (oldL 0 b) <|
                                                                            ass (oldL 0 b) <|
                                                                              ass (oldL 0 dc) <|
                                                                                ass (oldL 0 dc) <|
                                                                                  ass (oldL 0 c) <|
                                                                                    ass (oldL 0 c) <|
                                                                                      L3 H3 N (m) (c) (n) (b) (bn) (s) (e) (dc) (dn) (IntKind.i64.wrap ((↑i : Int) + 1))))
              else
                (bif decide (asI (c.getD (i * 3 + 1) PV.nilp) > 254) then
                  (bif asI (c.getD (i * 3) PV.nilp) != 2 then
                    (bif asI (c.getD (i * 3) PV.nilp) != 4 then
                      (ass (decide (0 ≤ (↑i : Int)) && decide ((↑i : Int) < (↑dn : Int))) <|
                      ass (okAt [Kd.int IntKind.i64, Kd.int IntKind.i64, Kd.sl 1] dc (i * 3)) <|
                        ass (oldL 1 (slCells (dc.getD (i * 3 + 1 + 1) PV.nilp))) <|
                          ass (oldL 1 (slCells (c.getD (i * 3 + 1 + 1) PV.nilp))) <|
                            ass (oldL 0 (slCells (dc.getD (i * 3 + 1 + 1) PV.nilp))) <|
                              ass (oldL 0 (slCells (c.getD (i * 3 + 1 + 1) PV.nilp))) <|
                                ass (isBytes (slLen (dc.getD (i * 3 + 1 + 1) PV.nilp)) (slCells (dc.getD (i * 3 + 1 + 1) PV.nilp)) && isBytes (slLen (c.getD (i * 3 + 1 + 1) PV.nilp)) (slCells (c.getD (i * 3 + 1 + 1) PV.nilp))) <|
                                  ass (!!Sp.sameA (asI (dc.getD (i * 3) PV.nilp)) (asI (dc.getD (i * 3 + 1) PV.nilp)) (slCells (dc.getD (i * 3 + 1 + 1) PV.nilp)) (asI (c.getD (i * 3) PV.nilp)) 0 (slCells (c.getD (i * 3 + 1 + 1) PV.nilp))) <|
                                    ass (decide (0 ≤ (↑i : Int)) && decide ((↑i : Int) < (↑dn : Int))) <|
                                      ass (okAt [Kd.int IntKind.i64, Kd.int IntKind.i64, Kd.sl 1] dc (i * 3)) <|
                                        ass (oldL 1 (slCells (dc.getD (i * 3 + 1 + 1) PV.nilp))) <|
                                          ass (oldL 0 (slCells (dc.getD (i * 3 + 1 + 1) PV.nilp))) <|
                                            ass (isBytes (slLen (dc.getD (i * 3 + 1 + 1) PV.nilp)) (slCells (dc.getD (i * 3 + 1 + 1) PV.nilp)) && isBytes 0 []) <|
                                              ass (!Sp.sameA (asI (dc.getD (i * 3) PV.nilp)) (asI (dc.getD (i * 3 + 1) PV.nilp)) (slCells (dc.getD (i * 3 + 1 + 1) PV.nilp)) 7 0 []) <|
                                                ass (oldL 0 c) <|
                                                  ass (oldL 0 b) <|
                                                    ass (oldL 0 b) <|
                                                      ass (oldL 0 dc) <|
                                                        ass (oldL 0 c) <|
                                                          ass (oldL 0 b) <|
                                                            ass (oldL 0 c) <|
                                                              ass (oldL 0 b) <|
                                                                ass (oldL 0 b) <|
                                                                  ass (oldL 0 b) <|
                                                                    ass (oldL 0 c) <|
                                                                      ass (oldL 0 c) <|
                                                                        ass (oldL 0 b) <|
                                                                          ass (oldL 0 b) <|
                                                                            ass (oldL 0 b) <|
                                                                              ass (oldL 0 b) <|
                                                                                ass (oldL 0 b) <|
                                                                                  ass (oldL 0 dc) <|
                                                                                    ass (oldL 0 dc) <|
                                                                                      ass (oldL 0 c) <|
                                                                                        ass (oldL 0 c) <|
                                                                                          L3 H3 N (m) (c) (n) (b) (bn) (s) (e) (dc) (dn) (IntKind.i64.wrap ((↑i : Int) + 1)))
                    else
                      (ass (decide (0 ≤ (↑i : Int)) && decide ((↑i : Int) < (↑dn : Int))) <|
                      ass (okAt [Kd.int IntKind.i64, Kd.int IntKind.i64, Kd.sl 1] dc (i * 3)) <|
                        ass (oldL 1 (slCells (dc.getD (i * 3 + 1 + 1) PV.nilp))) <|
                          ass (oldL 1 (slCells (c.getD (i * 3 + 1 + 1) PV.nilp))) <|
                            ass (oldL 0 (slCells (dc.getD (i * 3 + 1 + 1) PV.nilp))) <|
                              ass (oldL 0 (slCells (c.getD (i * 3 + 1 + 1) PV.nilp))) <|
                                ass (isBytes (slLen (dc.getD (i * 3 + 1 + 1) PV.nilp)) (slCells (dc.getD (i * 3 + 1 + 1) PV.nilp)) && isBytes (slLen (c.getD (i * 3 + 1 + 1) PV.nilp)) (slCells (c.getD (i * 3 + 1 + 1) PV.nilp))) <|
                                  ass (!!Sp.sameA (asI (dc.getD (i * 3) PV.nilp)) (asI (dc.getD (i * 3 + 1) PV.nilp)) (slCells (dc.getD (i * 3 + 1 + 1) PV.nilp)) (asI (c.getD (i * 3) PV.nilp)) (-1) (slCells (c.getD (i * 3 + 1 + 1) PV.nilp))) <|
                                    ass (decide (0 ≤ (↑i : Int)) && decide ((↑i : Int) < (↑dn : Int))) <|
                                      ass (okAt [Kd.int IntKind.i64, Kd.int IntKind.i64, Kd.sl 1] dc (i * 3)) <|
                                        ass (oldL 1 (slCells (dc.getD (i * 3 + 1 + 1) PV.nilp))) <|
                                          ass (oldL 0 (slCells (dc.getD (i * 3 + 1 + 1) PV.nilp))) <|
                                            ass (isBytes (slLen (dc.getD (i * 3 + 1 + 1) PV.nilp)) (slCells (dc.getD (i * 3 + 1 + 1) PV.nilp)) && isBytes 0 []) <|
                                              ass (!Sp.sameA (asI (dc.getD (i * 3) PV.nilp)) (asI (dc.getD (i * 3 + 1) PV.nilp)) (slCells (dc.getD (i * 3 + 1 + 1) PV.nilp)) 7 0 []) <|
                                                ass (oldL 0 c) <|
                                                  ass (oldL 0 b) <|
                                                    ass (oldL 0 b) <|
                                                      ass (oldL 0 dc) <|
                                                        ass (oldL 0 c) <|
                                                          ass (oldL 0 b) <|
                                                            ass (oldL 0 c) <|
                                                              ass (oldL 0 b) <|
                                                                ass (oldL 0 b) <|
                                                                  ass (oldL 0 b) <|
                                                                    ass (oldL 0 c) <|
                                                                      ass (oldL 0 c) <|
                                                                        ass (oldL 0 b) <|
                                                                          ass (oldL 0 b) <|
                                                                            ass (oldL 0 b) <|
                                                                              ass (oldL 0 b) <|
                                                                                ass (oldL 0 b) <|
                                                                                  ass (oldL 0 dc) <|
                                                                                    ass (oldL 0 dc) <|
                                                                                      ass (oldL 0 c) <|
                                                                                        ass (oldL 0 c) <|
                                                                                          L3 H3 N (m) (c) (n) (b) (bn) (s) (e) (dc) (dn) (IntKind.i64.wrap ((↑i : Int) + 1))))
                  else
                    (ass (decide (0 ≤ (↑i : Int)) && decide ((↑i : Int) < (↑dn : Int))) <|
                    ass (okAt [Kd.int IntKind.i64, Kd.int IntKind.i64, Kd.sl 1] dc (i * 3)) <|
                      ass (oldL 1 (slCells (dc.getD (i * 3 + 1 + 1) PV.nilp))) <|
                        ass (oldL 1 (slCells (c.getD (i * 3 + 1 + 1) PV.nilp))) <|
                          ass (oldL 0 (slCells (dc.getD (i * 3 + 1 + 1) PV.nilp))) <|
                            ass (oldL 0 (slCells (c.getD (i * 3 + 1 + 1) PV.nilp))) <|
                              ass (isBytes (slLen (dc.getD (i * 3 + 1 + 1) PV.nilp)) (slCells (dc.getD (i * 3 + 1 + 1) PV.nilp)) && isBytes (slLen (c.getD (i * 3 + 1 + 1) PV.nilp)) (slCells (c.getD (i * 3 + 1 + 1) PV.nilp))) <|
                                ass (!!Sp.sameA (asI (dc.getD (i * 3) PV.nilp)) (asI (dc.getD (i * 3 + 1) PV.nilp)) (slCells (dc.getD (i * 3 + 1 + 1) PV.nilp)) (asI (c.getD (i * 3) PV.nilp)) (-1) (slCells (c.getD (i * 3 + 1 + 1) PV.nilp))) <|
                                  ass (decide (0 ≤ (↑i : Int)) && decide ((↑i : Int) < (↑dn : Int))) <|
                                    ass (okAt [Kd.int IntKind.i64, Kd.int IntKind.i64, Kd.sl 1] dc (i * 3)) <|
                                      ass (oldL 1 (slCells (dc.getD (i * 3 + 1 + 1) PV.nilp))) <|
                                        ass (oldL 0 (slCells (dc.getD (i * 3 + 1 + 1) PV.nilp))) <|
                                          ass (isBytes (slLen (dc.getD (i * 3 + 1 + 1) PV.nilp)) (slCells (dc.getD (i * 3 + 1 + 1) PV.nilp)) && isBytes 0 []) <|
                                            ass (!Sp.sameA (asI (dc.getD (i * 3) PV.nilp)) (asI (dc.getD (i * 3 + 1) PV.nilp)) (slCells (dc.getD (i * 3 + 1 + 1) PV.nilp)) 7 0 []) <|
                                              ass (oldL 0 c) <|
                                                ass (oldL 0 b) <|
                                                  ass (oldL 0 b) <|
                                                    ass (oldL 0 dc) <|
                                                      ass (oldL 0 c) <|
                                                        ass (oldL 0 b) <|
                                                          ass (oldL 0 c) <|
                                                            ass (oldL 0 b) <|
                                                              ass (oldL 0 b) <|
                                                                ass (oldL 0 b) <|
                                                                  ass (oldL 0 c) <|
                                                                    ass (oldL 0 c) <|
                                                                      ass (oldL 0 b) <|
                                                                        ass (oldL 0 b) <|
                                                                          ass (oldL 0 b) <|
                                                                            ass (oldL 0 b) <|
                                                                              ass (oldL 0 b) <|
                                                                                ass (oldL 0 dc) <|
                                                                                  ass (oldL 0 dc) <|
                                                                                    ass (oldL 0 c) <|
                                                                                      ass (oldL 0 c) <|
                                                                                        L3 H3 N (m) (c) (n) (b) (bn) (s) (e) (dc) (dn) (IntKind.i64.wrap ((↑i : Int) + 1))))
                else
                  (bif asI (c.getD (i * 3) PV.nilp) != 2 then
                    (bif asI (c.getD (i * 3) PV.nilp) != 4 then
                      (ass (decide (0 ≤ (↑i : Int)) && decide ((↑i : Int) < (↑dn : Int))) <|
                      ass (okAt [Kd.int IntKind.i64, Kd.int IntKind.i64, Kd.sl 1] dc (i * 3)) <|
                        ass (oldL 1 (slCells (dc.getD (i * 3 + 1 + 1) PV.nilp))) <|
                          ass (oldL 1 (slCells (c.getD (i * 3 + 1 + 1) PV.nilp))) <|
                            ass (oldL 0 (slCells (dc.getD (i * 3 + 1 + 1) PV.nilp))) <|
                              ass (oldL 0 (slCells (c.getD (i * 3 + 1 + 1) PV.nilp))) <|
                                ass (isBytes (slLen (dc.getD (i * 3 + 1 + 1) PV.nilp)) (slCells (dc.getD (i * 3 + 1 + 1) PV.nilp)) && isBytes (slLen (c.getD (i * 3 + 1 + 1) PV.nilp)) (slCells (c.getD (i * 3 + 1 + 1) PV.nilp))) <|
                                  ass (!!Sp.sameA (asI (dc.getD (i * 3) PV.nilp)) (asI (dc.getD (i * 3 + 1) PV.nilp)) (slCells (dc.getD (i * 3 + 1 + 1) PV.nilp)) (asI (c.getD (i * 3) PV.nilp)) 0 (slCells (c.getD (i * 3 + 1 + 1) PV.nilp))) <|
                                    ass (decide (0 ≤ (↑i : Int)) && decide ((↑i : Int) < (↑dn : Int))) <|
                                      ass (okAt [Kd.int IntKind.i64, Kd.int IntKind.i64, Kd.sl 1] dc (i * 3)) <|
                                        ass (oldL 1 (slCells (dc.getD (i * 3 + 1 + 1) PV.nilp))) <|
                                          ass (oldL 0 (slCells (dc.getD (i * 3 + 1 + 1) PV.nilp))) <|
                                            ass (isBytes (slLen (dc.getD (i * 3 + 1 + 1) PV.nilp)) (slCells (dc.getD (i * 3 + 1 + 1) PV.nilp)) && isBytes 0 []) <|
                                              ass (!Sp.sameA (asI (dc.getD (i * 3) PV.nilp)) (asI (dc.getD (i * 3 + 1) PV.nilp)) (slCells (dc.getD (i * 3 + 1 + 1) PV.nilp)) 7 0 []) <|
                                                ass (oldL 0 c) <|
                                                  ass (oldL 0 b) <|
                                                    ass (oldL 0 b) <|
                                                      ass (oldL 0 dc) <|
                                                        ass (oldL 0 c) <|
                                                          ass (oldL 0 b) <|
                                                            ass (oldL 0 c) <|
                                                              ass (oldL 0 b) <|
                                                                ass (oldL 0 b) <|
                                                                  ass (oldL 0 b) <|
                                                                    ass (oldL 0 c) <|
                                                                      ass (oldL 0 c) <|
                                                                        ass (oldL 0 b) <|
                                                                          ass (oldL 0 b) <|
                                                                            ass (oldL 0 b) <|
                                                                              ass (oldL 0 b) <|
                                                                                ass (oldL 0 b) <|
                                                                                  ass (oldL 0 dc) <|
                                                                                    ass (oldL 0 dc) <|
                                                                                      ass (oldL 0 c) <|
                                                                                        ass (oldL 0 c) <|
                                                                                          L3 H3 N (m) (c) (n) (b) (bn) (s) (e) (dc) (dn) (IntKind.i64.wrap ((↑i : Int) + 1)))
                    else
                      (ass (decide (0 ≤ (↑i : Int)) && decide ((↑i : Int) < (↑dn : Int))) <|
                      ass (okAt [Kd.int IntKind.i64, Kd.int IntKind.i64, Kd.sl 1] dc (i * 3)) <|
                        ass (oldL 1 (slCells (dc.getD (i * 3 + 1 + 1) PV.nilp))) <|
                          ass (oldL 1 (slCells (c.getD (i * 3 + 1 + 1) PV.nilp))) <|
                            ass (oldL 0 (slCells (dc.getD (i * 3 + 1 + 1) PV.nilp))) <|
                              ass (oldL 0 (slCells (c.getD (i * 3 + 1 + 1) PV.nilp))) <|
                                ass (isBytes (slLen (dc.getD (i * 3 + 1 + 1) PV.nilp)) (slCells (dc.getD (i * 3 + 1 + 1) PV.nilp)) && isBytes (slLen (c.getD (i * 3 + 1 + 1) PV.nilp)) (slCells (c.getD (i * 3 + 1 + 1) PV.nilp))) <|
                                  ass (!!Sp.sameA (asI (dc.getD (i * 3) PV.nilp)) (asI (dc.getD (i * 3 + 1) PV.nilp)) (slCells (dc.getD (i * 3 + 1 + 1) PV.nilp)) (asI (c.getD (i * 3) PV.nilp)) (asI (c.getD (i * 3 + 1) PV.nilp)) (slCells (c.getD (i * 3 + 1 + 1) PV.nilp))) <|
                                    ass (decide (0 ≤ (↑i : Int)) && decide ((↑i : Int) < (↑dn : Int))) <|
                                      ass (okAt [Kd.int IntKind.i64, Kd.int IntKind.i64, Kd.sl 1] dc (i * 3)) <|
                                        ass (oldL 1 (slCells (dc.getD (i * 3 + 1 + 1) PV.nilp))) <|
                                          ass (oldL 0 (slCells (dc.getD (i * 3 + 1 + 1) PV.nilp))) <|
                                            ass (isBytes (slLen (dc.getD (i * 3 + 1 + 1) PV.nilp)) (slCells (dc.getD (i * 3 + 1 + 1) PV.nilp)) && isBytes 0 []) <|
                                              ass (!Sp.sameA (asI (dc.getD (i * 3) PV.nilp)) (asI (dc.getD (i * 3 + 1) PV.nilp)) (slCells (dc.getD (i * 3 + 1 + 1) PV.nilp)) 7 0 []) <|
                                                ass (oldL 0 c) <|
                                                  ass (oldL 0 b) <|
                                                    ass (oldL 0 b) <|
                                                      ass (oldL 0 dc) <|
                                                        ass (oldL 0 c) <|
                                                          ass (oldL 0 b) <|
                                                            ass (oldL 0 c) <|
                                                              ass (oldL 0 b) <|
                                                                ass (oldL 0 b) <|
                                                                  ass (oldL 0 b) <|
                                                                    ass (oldL 0 c) <|
                                                                      ass (oldL 0 c) <|
                                                                        ass (oldL 0 b) <|
                                                                          ass (oldL 0 b) <|
                                                                            ass (oldL 0 b) <|
                                                                              ass (oldL 0 b) <|
                                                                                ass (oldL 0 b) <|
                                                                                  ass (oldL 0 dc) <|
                                                                                    ass (oldL 0 dc) <|
                                                                                      ass (oldL 0 c) <|
                                                                                        ass (oldL 0 c) <|
                                                                                          L3 H3 N (m) (c) (n) (b) (bn) (s) (e) (dc) (dn) (IntKind.i64.wrap ((↑i : Int) + 1))))
                  else
                    (ass (decide (0 ≤ (↑i : Int)) && decide ((↑i : Int) < (↑dn : Int))) <|
                    ass (okAt [Kd.int IntKind.i64, Kd.int IntKind.i64, Kd.sl 1] dc (i * 3)) <|
                      ass (oldL 1 (slCells (dc.getD (i * 3 + 1 + 1) PV.nilp))) <|
                        ass (oldL 1 (slCells (c.getD (i * 3 + 1 + 1) PV.nilp))) <|
                          ass (oldL 0 (slCells (dc.getD (i * 3 + 1 + 1) PV.nilp))) <|
                            ass (oldL 0 (slCells (c.getD (i * 3 + 1 + 1) PV.nilp))) <|
                              ass (isBytes (slLen (dc.getD (i * 3 + 1 + 1) PV.nilp)) (slCells (dc.getD (i * 3 + 1 + 1) PV.nilp)) && isBytes (slLen (c.getD (i * 3 + 1 + 1) PV.nilp)) (slCells (c.getD (i * 3 + 1 + 1) PV.nilp))) <|
                                ass (!!Sp.sameA (asI (dc.getD (i * 3) PV.nilp)) (asI (dc.getD (i * 3 + 1) PV.nilp)) (slCells (dc.getD (i * 3 + 1 + 1) PV.nilp)) (asI (c.getD (i * 3) PV.nilp)) (asI (c.getD (i * 3 + 1) PV.nilp)) (slCells (c.getD (i * 3 + 1 + 1) PV.nilp))) <|
                                  ass (decide (0 ≤ (↑i : Int)) && decide ((↑i : Int) < (↑dn : Int))) <|
                                    ass (okAt [Kd.int IntKind.i64, Kd.int IntKind.i64, Kd.sl 1] dc (i * 3)) <|
                                      ass (oldL 1 (slCells (dc.getD (i * 3 + 1 + 1) PV.nilp))) <|
                                        ass (oldL 0 (slCells (dc.getD (i * 3 + 1 + 1) PV.nilp))) <|
                                          ass (isBytes (slLen (dc.getD (i * 3 + 1 + 1) PV.nilp)) (slCells (dc.getD (i * 3 + 1 + 1) PV.nilp)) && isBytes 0 []) <|
                                            ass (!Sp.sameA (asI (dc.getD (i * 3) PV.nilp)) (asI (dc.getD (i * 3 + 1) PV.nilp)) (slCells (dc.getD (i * 3 + 1 + 1) PV.nilp)) 7 0 []) <|
                                              ass (oldL 0 c) <|
                                                ass (oldL 0 b) <|
                                                  ass (oldL 0 b) <|
                                                    ass (oldL 0 dc) <|
                                                      ass (oldL 0 c) <|
                                                        ass (oldL 0 b) <|
                                                          ass (oldL 0 c) <|
                                                            ass (oldL 0 b) <|
                                                              ass (oldL 0 b) <|
                                                                ass (oldL 0 b) <|
                                                                  ass (oldL 0 c) <|
                                                                    ass (oldL 0 c) <|
                                                                      ass (oldL 0 b) <|
                                                                        ass (oldL 0 b) <|
                                                                          ass (oldL 0 b) <|
                                                                            ass (oldL 0 b) <|
                                                                              ass (oldL 0 b) <|
                                                                                ass (oldL 0 dc) <|
                                                                                  ass (oldL 0 dc) <|
                                                                                    ass (oldL 0 c) <|
                                                                                      ass (oldL 0 c) <|
                                                                                        L3 H3 N (m) (c) (n) (b) (bn) (s) (e) (dc) (dn) (IntKind.i64.wrap ((↑i : Int) + 1))))))
            else
              (bif asI (c.getD (i * 3) PV.nilp) != 2 then
                (bif asI (c.getD (i * 3) PV.nilp) != 4 then
                  (ass (decide (0 ≤ (↑i : Int)) && decide ((↑i : Int) < (↑dn : Int))) <|
                  ass (okAt [Kd.int IntKind.i64, Kd.int IntKind.i64, Kd.sl 1] dc (i * 3)) <|
                    ass (oldL 1 (slCells (dc.getD (i * 3 + 1 + 1) PV.nilp))) <|
                      ass (oldL 1 (slCells (c.getD (i * 3 + 1 + 1) PV.nilp))) <|
                        ass (oldL 0 (slCells (dc.getD (i * 3 + 1 + 1) PV.nilp))) <|
                          ass (oldL 0 (slCells (c.getD (i * 3 + 1 + 1) PV.nilp))) <|
                            ass (isBytes (slLen (dc.getD (i * 3 + 1 + 1) PV.nilp)) (slCells (dc.getD (i * 3 + 1 + 1) PV.nilp)) && isBytes (slLen (c.getD (i * 3 + 1 + 1) PV.nilp)) (slCells (c.getD (i * 3 + 1 + 1) PV.nilp))) <|
                              ass (!!Sp.sameA (asI (dc.getD (i * 3) PV.nilp)) (asI (dc.getD (i * 3 + 1) PV.nilp)) (slCells (dc.getD (i * 3 + 1 + 1) PV.nilp)) (asI (c.getD (i * 3) PV.nilp)) 0 (slCells (c.getD (i * 3 + 1 + 1) PV.nilp))) <|
                                ass (decide (0 ≤ (↑i : Int)) && decide ((↑i : Int) < (↑dn : Int))) <|
                                  ass (okAt [Kd.int IntKind.i64, Kd.int IntKind.i64, Kd.sl 1] dc (i * 3)) <|
                                    ass (oldL 1 (slCells (dc.getD (i * 3 + 1 + 1) PV.nilp))) <|
                                      ass (oldL 0 (slCells (dc.getD (i * 3 + 1 + 1) PV.nilp))) <|
                                        ass (isBytes (slLen (dc.getD (i * 3 + 1 + 1) PV.nilp)) (slCells (dc.getD (i * 3 + 1 + 1) PV.nilp)) && isBytes 0 []) <|
                                          ass (!Sp.sameA (asI (dc.getD (i * 3) PV.nilp)) (asI (dc.getD (i * 3 + 1) PV.nilp)) (slCells (dc.getD (i * 3 + 1 + 1) PV.nilp)) 7 0 []) <|
                                            ass (oldL 0 c) <|
                                              ass (oldL 0 b) <|
                                                ass (oldL 0 b) <|
                                                  ass (oldL 0 dc) <|
                                                    ass (oldL 0 c) <|
                                                      ass (oldL 0 b) <|
                                                        ass (oldL 0 c) <|
                                                          ass (oldL 0 b) <|
                                                            ass (oldL 0 b) <|
                                                              ass (oldL 0 b) <|
                                                                ass (oldL 0 c) <|
                                                                  ass (oldL 0 c) <|
                                                                    ass (oldL 0 b) <|
                                                                      ass (oldL 0 b) <|
                                                                        ass (oldL 0 b) <|
                                                                          ass (oldL 0 b) <|
                                                                            ass (oldL 0 b) <|
                                                                              ass (oldL 0 dc) <|
                                                                                ass (oldL 0 dc) <|
                                                                                  ass (oldL 0 c) <|
                                                                                    ass (oldL 0 c) <|
                                                                                      L3 H3 N (m) (c) (n) (b) (bn) (s) (e) (dc) (dn) (IntKind.i64.wrap ((↑i : Int) + 1)))
                else
                  (ass (decide (0 ≤ (↑i : Int)) && decide ((↑i : Int) < (↑dn : Int))) <|
                  ass (okAt [Kd.int IntKind.i64, Kd.int IntKind.i64, Kd.sl 1] dc (i * 3)) <|
                    ass (oldL 1 (slCells (dc.getD (i * 3 + 1 + 1) PV.nilp))) <|
                      ass (oldL 1 (slCells (c.getD (i * 3 + 1 + 1) PV.nilp))) <|
                        ass (oldL 0 (slCells (dc.getD (i * 3 + 1 + 1) PV.nilp))) <|
                          ass (oldL 0 (slCells (c.getD (i * 3 + 1 + 1) PV.nilp))) <|
                            ass (isBytes (slLen (dc.getD (i * 3 + 1 + 1) PV.nilp)) (slCells (dc.getD (i * 3 + 1 + 1) PV.nilp)) && isBytes (slLen (c.getD (i * 3 + 1 + 1) PV.nilp)) (slCells (c.getD (i * 3 + 1 + 1) PV.nilp))) <|
                              ass (!!Sp.sameA (asI (dc.getD (i * 3) PV.nilp)) (asI (dc.getD (i * 3 + 1) PV.nilp)) (slCells (dc.getD (i * 3 + 1 + 1) PV.nilp)) (asI (c.getD (i * 3) PV.nilp)) (asI (c.getD (i * 3 + 1) PV.nilp)) (slCells (c.getD (i * 3 + 1 + 1) PV.nilp))) <|
                                ass (decide (0 ≤ (↑i : Int)) && decide ((↑i : Int) < (↑dn : Int))) <|
                                  ass (okAt [Kd.int IntKind.i64, Kd.int IntKind.i64, Kd.sl 1] dc (i * 3)) <|
                                    ass (oldL 1 (slCells (dc.getD (i * 3 + 1 + 1) PV.nilp))) <|
                                      ass (oldL 0 (slCells (dc.getD (i * 3 + 1 + 1) PV.nilp))) <|
                                        ass (isBytes (slLen (dc.getD (i * 3 + 1 + 1) PV.nilp)) (slCells (dc.getD (i * 3 + 1 + 1) PV.nilp)) && isBytes 0 []) <|
                                          ass (!Sp.sameA (asI (dc.getD (i * 3) PV.nilp)) (asI (dc.getD (i * 3 + 1) PV.nilp)) (slCells (dc.getD (i * 3 + 1 + 1) PV.nilp)) 7 0 []) <|
                                            ass (oldL 0 c) <|
                                              ass (oldL 0 b) <|
                                                ass (oldL 0 b) <|
                                                  ass (oldL 0 dc) <|
                                                    ass (oldL 0 c) <|
                                                      ass (oldL 0 b) <|
                                                        ass (oldL 0 c) <|
                                                          ass (oldL 0 b) <|
                                                            ass (oldL 0 b) <|
                                                              ass (oldL 0 b) <|
                                                                ass (oldL 0 c) <|
                                                                  ass (oldL 0 c) <|
                                                                    ass (oldL 0 b) <|
                                                                      ass (oldL 0 b) <|
                                                                        ass (oldL 0 b) <|
                                                                          ass (oldL 0 b) <|
                                                                            ass (oldL 0 b) <|
                                                                              ass (oldL 0 dc) <|
                                                                                ass (oldL 0 dc) <|
                                                                                  ass (oldL 0 c) <|
                                                                                    ass (oldL 0 c) <|
                                                                                      L3 H3 N (m) (c) (n) (b) (bn) (s) (e) (dc) (dn) (IntKind.i64.wrap ((↑i : Int) + 1))))
              else
                (ass (decide (0 ≤ (↑i : Int)) && decide ((↑i : Int) < (↑dn : Int))) <|
                ass (okAt [Kd.int IntKind.i64, Kd.int IntKind.i64, Kd.sl 1] dc (i * 3)) <|
                  ass (oldL 1 (slCells (dc.getD (i * 3 + 1 + 1) PV.nilp))) <|
                    ass (oldL 1 (slCells (c.getD (i * 3 + 1 + 1) PV.nilp))) <|
                      ass (oldL 0 (slCells (dc.getD (i * 3 + 1 + 1) PV.nilp))) <|
                        ass (oldL 0 (slCells (c.getD (i * 3 + 1 + 1) PV.nilp))) <|
                          ass (isBytes (slLen (dc.getD (i * 3 + 1 + 1) PV.nilp)) (slCells (dc.getD (i * 3 + 1 + 1) PV.nilp)) && isBytes (slLen (c.getD (i * 3 + 1 + 1) PV.nilp)) (slCells (c.getD (i * 3 + 1 + 1) PV.nilp))) <|
                            ass (!!Sp.sameA (asI (dc.getD (i * 3) PV.nilp)) (asI (dc.getD (i * 3 + 1) PV.nilp)) (slCells (dc.getD (i * 3 + 1 + 1) PV.nilp)) (asI (c.getD (i * 3) PV.nilp)) (asI (c.getD (i * 3 + 1) PV.nilp)) (slCells (c.getD (i * 3 + 1 + 1) PV.nilp))) <|
                              ass (decide (0 ≤ (↑i : Int)) && decide ((↑i : Int) < (↑dn : Int))) <|
                                ass (okAt [Kd.int IntKind.i64, Kd.int IntKind.i64, Kd.sl 1] dc (i * 3)) <|
                                  ass (oldL 1 (slCells (dc.getD (i * 3 + 1 + 1) PV.nilp))) <|
                                    ass (oldL 0 (slCells (dc.getD (i * 3 + 1 + 1) PV.nilp))) <|
                                      ass (isBytes (slLen (dc.getD (i * 3 + 1 + 1) PV.nilp)) (slCells (dc.getD (i * 3 + 1 + 1) PV.nilp)) && isBytes 0 []) <|
                                        ass (!Sp.sameA (asI (dc.getD (i * 3) PV.nilp)) (asI (dc.getD (i * 3 + 1) PV.nilp)) (slCells (dc.getD (i * 3 + 1 + 1) PV.nilp)) 7 0 []) <|
                                          ass (oldL 0 c) <|
                                            ass (oldL 0 b) <|
                                              ass (oldL 0 b) <|
                                                ass (oldL 0 dc) <|
                                                  ass (oldL 0 c) <|
                                                    ass (oldL 0 b) <|
                                                      ass (oldL 0 c) <|
                                                        ass (oldL 0 b) <|
                                                          ass (oldL 0 b) <|
                                                            ass (oldL 0 b) <|
                                                              ass (oldL 0 c) <|
                                                                ass (oldL 0 c) <|
                                                                  ass (oldL 0 b) <|
                                                                    ass (oldL 0 b) <|
                                                                      ass (oldL 0 b) <|
                                                                        ass (oldL 0 b) <|
                                                                          ass (oldL 0 b) <|
                                                                            ass (oldL 0 dc) <|
                                                                              ass (oldL 0 dc) <|
                                                                                ass (oldL 0 c) <|
                                                                                  ass (oldL 0 c) <|
                                                                                    L3 H3 N (m) (c) (n) (b) (bn) (s) (e) (dc) (dn) (IntKind.i64.wrap ((↑i : Int) + 1))))))
        else
          (bif asI (c.getD (i * 3) PV.nilp) == 2 then
            (bif decide (asI (c.getD (i * 3 + 1) PV.nilp) < 0) then
              (bif asI (c.getD (i * 3) PV.nilp) != 2 then
                (bif asI (c.getD (i * 3) PV.nilp) != 4 then
                  (ass (decide (0 ≤ (↑i : Int)) && decide ((↑i : Int) < (↑dn : Int))) <|
                  ass (okAt [Kd.int IntKind.i64, Kd.int IntKind.i64, Kd.sl 1] dc (i * 3)) <|
                    ass (oldL 1 (slCells (dc.getD (i * 3 + 1 + 1) PV.nilp))) <|
                      ass (oldL 1 (slCells (c.getD (i * 3 + 1 + 1) PV.nilp))) <|
                        ass (oldL 0 (slCells (dc.getD (i * 3 + 1 + 1) PV.nilp))) <|
                          ass (oldL 0 (slCells (c.getD (i * 3 + 1 + 1) PV.nilp))) <|
                            ass (isBytes (slLen (dc.getD (i * 3 + 1 + 1) PV.nilp)) (slCells (dc.getD (i * 3 + 1 + 1) PV.nilp)) && isBytes (slLen (c.getD (i * 3 + 1 + 1) PV.nilp)) (slCells (c.getD (i * 3 + 1 + 1) PV.nilp))) <|
                              ass (!!Sp.sameA (asI (dc.getD (i * 3) PV.nilp)) (asI (dc.getD (i * 3 + 1) PV.nilp)) (slCells (dc.getD (i * 3 + 1 + 1) PV.nilp)) (asI (c.getD (i * 3) PV.nilp)) 0 (slCells (c.getD (i * 3 + 1 + 1) PV.nilp))) <|
                                ass (decide (0 ≤ (↑i : Int)) && decide ((↑i : Int) < (↑dn : Int))) <|
                                  ass (okAt [Kd.int IntKind.i64, Kd.int IntKind.i64, Kd.sl 1] dc (i * 3)) <|
                                    ass (oldL 1 (slCells (dc.getD (i * 3 + 1 + 1) PV.nilp))) <|
                                      ass (oldL 0 (slCells (dc.getD (i * 3 + 1 + 1) PV.nilp))) <|
                                        ass (isBytes (slLen (dc.getD (i * 3 + 1 + 1) PV.nilp)) (slCells (dc.getD (i * 3 + 1 + 1) PV.nilp)) && isBytes 0 []) <|
                                          ass (!Sp.sameA (asI (dc.getD (i * 3) PV.nilp)) (asI (dc.getD (i * 3 + 1) PV.nilp)) (slCells (dc.getD (i * 3 + 1 + 1) PV.nilp)) 7 0 []) <|
                                            ass (oldL 0 c) <|
                                              ass (oldL 0 b) <|
                                                ass (oldL 0 b) <|
                                                  ass (oldL 0 dc) <|
                                                    ass (oldL 0 c) <|
                                                      ass (oldL 0 b) <|
                                                        ass (oldL 0 c) <|
                                                          ass (oldL 0 b) <|
                                                            ass (oldL 0 b) <|
                                                              ass (oldL 0 b) <|
                                                                ass (oldL 0 c) <|
                                                                  ass (oldL 0 c) <|
                                                                    ass (oldL 0 b) <|
                                                                      ass (oldL 0 b) <|
                                                                        ass (oldL 0 b) <|
                                                                          ass (oldL 0 b) <|
                                                                            ass (oldL 0 b) <|
                                                                              ass (oldL 0 dc) <|
                                                                                ass (oldL 0 dc) <|
                                                                                  ass (oldL 0 c) <|
                                                                                    ass (oldL 0 c) <|
                                                                                      L3 H3 N (m) (c) (n) (b) (bn) (s) (e) (dc) (dn) (IntKind.i64.wrap ((↑i : Int) + 1)))
                else
                  (ass (decide (0 ≤ (↑i : Int)) && decide ((↑i : Int) < (↑dn : Int))) <|
                  ass (okAt [Kd.int IntKind.i64, Kd.int IntKind.i64, Kd.sl 1] dc (i * 3)) <|
                    ass (oldL 1 (slCells (dc.getD (i * 3 + 1 + 1) PV.nilp))) <|
                      ass (oldL 1 (slCells (c.getD (i * 3 + 1 + 1) PV.nilp))) <|
                        ass (oldL 0 (slCells (dc.getD (i * 3 + 1 + 1) PV.nilp))) <|
                          ass (oldL 0 (slCells (c.getD (i * 3 + 1 + 1) PV.nilp))) <|
                            ass (isBytes (slLen (dc.getD (i * 3 + 1 + 1) PV.nilp)) (slCells (dc.getD (i * 3 + 1 + 1) PV.nilp)) && isBytes (slLen (c.getD (i * 3 + 1 + 1) PV.nilp)) (slCells (c.getD (i * 3 + 1 + 1) PV.nilp))) <|
                              ass (!!Sp.sameA (asI (dc.getD (i * 3) PV.nilp)) (asI (dc.getD (i * 3 + 1) PV.nilp)) (slCells (dc.getD (i * 3 + 1 + 1) PV.nilp)) (asI (c.getD (i * 3) PV.nilp)) (-1) (slCells (c.getD (i * 3 + 1 + 1) PV.nilp))) <|
                                ass (decide (0 ≤ (↑i : Int)) && decide ((↑i : Int) < (↑dn : Int))) <|
                                  ass (okAt [Kd.int IntKind.i64, Kd.int IntKind.i64, Kd.sl 1] dc (i * 3)) <|
                                    ass (oldL 1 (slCells (dc.getD (i * 3 + 1 + 1) PV.nilp))) <|
                                      ass (oldL 0 (slCells (dc.getD (i * 3 + 1 + 1) PV.nilp))) <|
                                        ass (isBytes (slLen (dc.getD (i * 3 + 1 + 1) PV.nilp)) (slCells (dc.getD (i * 3 + 1 + 1) PV.nilp)) && isBytes 0 []) <|
                                          ass (!Sp.sameA (asI (dc.getD (i * 3) PV.nilp)) (asI (dc.getD (i * 3 + 1) PV.nilp)) (slCells (dc.getD (i * 3 + 1 + 1) PV.nilp)) 7 0 []) <|
                                            ass (oldL 0 c) <|
                                              ass (oldL 0 b) <|
                                                ass (oldL 0 b) <|
                                                  ass (oldL 0 dc) <|
                                                    ass (oldL 0 c) <|
                                                      ass (oldL 0 b) <|
                                                        ass (oldL 0 c) <|
                                                          ass (oldL 0 b) <|
                                                            ass (oldL 0 b) <|
                                                              ass (oldL 0 b) <|
                                                                ass (oldL 0 c) <|
                                                                  ass (oldL 0 c) <|
                                                                    ass (oldL 0 b) <|
                                                                      ass (oldL 0 b) <|
                                                                        ass (oldL 0 b) <|
                                                                          ass (oldL 0 b) <|
                                                                            ass (oldL 0 b) <|
                                                                              ass (oldL 0 dc) <|
                                                                                ass (oldL 0 dc) <|
                                                                                  ass (oldL 0 c) <|
                                                                                    ass (oldL 0 c) <|
                                                                                      L3 H3 N (m) (c) (n) (b) (bn) (s) (e) (dc) (dn) (IntKind.i64.wrap ((↑i : Int) + 1))))
              else
                (ass (decide (0 ≤ (↑i : Int)) && decide ((↑i : Int) < (↑dn : Int))) <|
                ass (okAt [Kd.int IntKind.i64, Kd.int IntKind.i64, Kd.sl 1] dc (i * 3)) <|
                  ass (oldL 1 (slCells (dc.getD (i * 3 + 1 + 1) PV.nilp))) <|
                    ass (oldL 1 (slCells (c.getD (i * 3 + 1 + 1) PV.nilp))) <|
                      ass (oldL 0 (slCells (dc.getD (i * 3 + 1 + 1) PV.nilp))) <|
                        ass (oldL 0 (slCells (c.getD (i * 3 + 1 + 1) PV.nilp))) <|
                          ass (isBytes (slLen (dc.getD (i * 3 + 1 + 1) PV.nilp)) (slCells (dc.getD (i * 3 + 1 + 1) PV.nilp)) && isBytes (slLen (c.getD (i * 3 + 1 + 1) PV.nilp)) (slCells (c.getD (i * 3 + 1 + 1) PV.nilp))) <|
                            ass (!!Sp.sameA (asI (dc.getD (i * 3) PV.nilp)) (asI (dc.getD (i * 3 + 1) PV.nilp)) (slCells (dc.getD (i * 3 + 1 + 1) PV.nilp)) (asI (c.getD (i * 3) PV.nilp)) (-1) (slCells (c.getD (i * 3 + 1 + 1) PV.nilp))) <|
                              ass (decide (0 ≤ (↑i : Int)) && decide ((↑i : Int) < (↑dn : Int))) <|
                                ass (okAt [Kd.int IntKind.i64, Kd.int IntKind.i64, Kd.sl 1] dc (i * 3)) <|
                                  ass (oldL 1 (slCells (dc.getD (i * 3 + 1 + 1) PV.nilp))) <|
                                    ass (oldL 0 (slCells (dc.getD (i * 3 + 1 + 1) PV.nilp))) <|
                                      ass (isBytes (slLen (dc.getD (i * 3 + 1 + 1) PV.nilp)) (slCells (dc.getD (i * 3 + 1 + 1) PV.nilp)) && isBytes 0 []) <|
                                        ass (!Sp.sameA (asI (dc.getD (i * 3) PV.nilp)) (asI (dc.getD (i * 3 + 1) PV.nilp)) (slCells (dc.getD (i * 3 + 1 + 1) PV.nilp)) 7 0 []) <|
                                          ass (oldL 0 c) <|
                                            ass (oldL 0 b) <|
                                              ass (oldL 0 b) <|
                                                ass (oldL 0 dc) <|
                                                  ass (oldL 0 c) <|
                                                    ass (oldL 0 b) <|
                                                      ass (oldL 0 c) <|
                                                        ass (oldL 0 b) <|
                                                          ass (oldL 0 b) <|
                                                            ass (oldL 0 b) <|
                                                              ass (oldL 0 c) <|
                                                                ass (oldL 0 c) <|
                                                                  ass (oldL 0 b) <|
                                                                    ass (oldL 0 b) <|
                                                                      ass (oldL 0 b) <|
                                                                        ass (oldL 0 b) <|
                                                                          ass (oldL 0 b) <|
                                                                            ass (oldL 0 dc) <|
                                                                              ass (oldL 0 dc) <|
                                                                                ass (oldL 0 c) <|
                                                                                  ass (oldL 0 c) <|
                                                                                    L3 H3 N (m) (c) (n) (b) (bn) (s) (e) (dc) (dn) (IntKind.i64.wrap ((↑i : Int) + 1))))
            else
              (bif decide (asI (c.getD (i * 3 + 1) PV.nilp) > 254) then
                (bif asI (c.getD (i * 3) PV.nilp) != 2 then
                  (bif asI (c.getD (i * 3) PV.nilp) != 4 then
                    (ass (decide (0 ≤ (↑i : Int)) && decide ((↑i : Int) < (↑dn : Int))) <|
                    ass (okAt [Kd.int IntKind.i64, Kd.int IntKind.i64, Kd.sl 1] dc (i * 3)) <|
                      ass (oldL 1 (slCells (dc.getD (i * 3 + 1 + 1) PV.nilp))) <|
                        ass (oldL 1 (slCells (c.getD (i * 3 + 1 + 1) PV.nilp))) <|
                          ass (oldL 0 (slCells (dc.getD (i * 3 + 1 + 1) PV.nilp))) <|
                            ass (oldL 0 (slCells (c.getD (i * 3 + 1 + 1) PV.nilp))) <|
                              ass (isBytes (slLen (dc.getD (i * 3 + 1 + 1) PV.nilp)) (slCells (dc.getD (i * 3 + 1 + 1) PV.nilp)) && isBytes (slLen (c.getD (i * 3 + 1 + 1) PV.nilp)) (slCells (c.getD (i * 3 + 1 + 1) PV.nilp))) <|
                                ass (!!Sp.sameA (asI (dc.getD (i * 3) PV.nilp)) (asI (dc.getD (i * 3 + 1) PV.nilp)) (slCells (dc.getD (i * 3 + 1 + 1) PV.nilp)) (asI (c.getD (i * 3) PV.nilp)) 0 (slCells (c.getD (i * 3 + 1 + 1) PV.nilp))) <|
                                  ass (decide (0 ≤ (↑i : Int)) && decide ((↑i : Int) < (↑dn : Int))) <|
                                    ass (okAt [Kd.int IntKind.i64, Kd.int IntKind.i64, Kd.sl 1] dc (i * 3)) <|
                                      ass (oldL 1 (slCells (dc.getD (i * 3 + 1 + 1) PV.nilp))) <|
                                        ass (oldL 0 (slCells (dc.getD (i * 3 + 1 + 1) PV.nilp))) <|
                                          ass (isBytes (slLen (dc.getD (i * 3 + 1 + 1) PV.nilp)) (slCells (dc.getD (i * 3 + 1 + 1) PV.nilp)) && isBytes 0 []) <|
                                            ass (!Sp.sameA (asI (dc.getD (i * 3) PV.nilp)) (asI (dc.getD (i * 3 + 1) PV.nilp)) (slCells (dc.getD (i * 3 + 1 + 1) PV.nilp)) 7 0 []) <|
                                              ass (oldL 0 c) <|
                                                ass (oldL 0 b) <|
                                                  ass (oldL 0 b) <|
                                                    ass (oldL 0 dc) <|
                                                      ass (oldL 0 c) <|
                                                        ass (oldL 0 b) <|
                                                          ass (oldL 0 c) <|
                                                            ass (oldL 0 b) <|
                                                              ass (oldL 0 b) <|
                                                                ass (oldL 0 b) <|
                                                                  ass (oldL 0 c) <|
                                                                    ass (oldL 0 c) <|
                                                                      ass (oldL 0 b) <|
                                                                        ass (oldL 0 b) <|
                                                                          ass (oldL 0 b) <|
                                                                            ass (oldL 0 b) <|
                                                                              ass (oldL 0 b) <|
                                                                                ass (oldL 0 dc) <|
                                                                                  ass (oldL 0 dc) <|
                                                                                    ass (oldL 0 c) <|
                                                                                      ass (oldL 0 c) <|
                                                                                        L3 H3 N (m) (c) (n) (b) (bn) (s) (e) (dc) (dn) (IntKind.i64.wrap ((↑i : Int) + 1)))
                  else
                    (ass (decide (0 ≤ (↑i : Int)) && decide ((↑i : Int) < (↑dn : Int))) <|
                    ass (okAt [Kd.int IntKind.i64, Kd.int IntKind.i64, Kd.sl 1] dc (i * 3)) <|
                      ass (oldL 1 (slCells (dc.getD (i * 3 + 1 + 1) PV.nilp))) <|
                        ass (oldL 1 (slCells (c.getD (i * 3 + 1 + 1) PV.nilp))) <|
                          ass (oldL 0 (slCells (dc.getD (i * 3 + 1 + 1) PV.nilp))) <|
                            ass (oldL 0 (slCells (c.getD (i * 3 + 1 + 1) PV.nilp))) <|
                              ass (isBytes (slLen (dc.getD (i * 3 + 1 + 1) PV.nilp)) (slCells (dc.getD (i * 3 + 1 + 1) PV.nilp)) && isBytes (slLen (c.getD (i * 3 + 1 + 1) PV.nilp)) (slCells (c.getD (i * 3 + 1 + 1) PV.nilp))) <|
                                ass (!!Sp.sameA (asI (dc.getD (i * 3) PV.nilp)) (asI (dc.getD (i * 3 + 1) PV.nilp)) (slCells (dc.getD (i * 3 + 1 + 1) PV.nilp)) (asI (c.getD (i * 3) PV.nilp)) (-1) (slCells (c.getD (i * 3 + 1 + 1) PV.nilp))) <|
                                  ass (decide (0 ≤ (↑i : Int)) && decide ((↑i : Int) < (↑dn : Int))) <|
                                    ass (okAt [Kd.int IntKind.i64, Kd.int IntKind.i64, Kd.sl 1] dc (i * 3)) <|
                                      ass (oldL 1 (slCells (dc.getD (i * 3 + 1 + 1) PV.nilp))) <|
                                        ass (oldL 0 (slCells (dc.getD (i * 3 + 1 + 1) PV.nilp))) <|
                                          ass (isBytes (slLen (dc.getD (i * 3 + 1 + 1) PV.nilp)) (slCells (dc.getD (i * 3 + 1 + 1) PV.nilp)) && isBytes 0 []) <|
                                            ass (!Sp.sameA (asI (dc.getD (i * 3) PV.nilp)) (asI (dc.getD (i * 3 + 1) PV.nilp)) (slCells (dc.getD (i * 3 + 1 + 1) PV.nilp)) 7 0 []) <|
                                              ass (oldL 0 c) <|
                                                ass (oldL 0 b) <|
                                                  ass (oldL 0 b) <|
                                                    ass (oldL 0 dc) <|
                                                      ass (oldL 0 c) <|
                                                        ass (oldL 0 b) <|
                                                          ass (oldL 0 c) <|
                                                            ass (oldL 0 b) <|
                                                              ass (oldL 0 b) <|
                                                                ass (oldL 0 b) <|
                                                                  ass (oldL 0 c) <|
                                                                    ass (oldL 0 c) <|
                                                                      ass (oldL 0 b) <|
                                                                        ass (oldL 0 b) <|
                                                                          ass (oldL 0 b) <|
                                                                            ass (oldL 0 b) <|
                                                                              ass (oldL 0 b) <|
                                                                                ass (oldL 0 dc) <|
                                                                                  ass (oldL 0 dc) <|
                                                                                    ass (oldL 0 c) <|
                                                                                      ass (oldL 0 c) <|
                                                                                        L3 H3 N (m) (c) (n) (b) (bn) (s) (e) (dc) (dn) (IntKind.i64.wrap ((↑i : Int) + 1))))
                else
                  (ass (decide (0 ≤ (↑i : Int)) && decide ((↑i : Int) < (↑dn : Int))) <|
                  ass (okAt [Kd.int IntKind.i64, Kd.int IntKind.i64, Kd.sl 1] dc (i * 3)) <|
                    ass (oldL 1 (slCells (dc.getD (i * 3 + 1 + 1) PV.nilp))) <|
                      ass (oldL 1 (slCells (c.getD (i * 3 + 1 + 1) PV.nilp))) <|
                        ass (oldL 0 (slCells (dc.getD (i * 3 + 1 + 1) PV.nilp))) <|
                          ass (oldL 0 (slCells (c.getD (i * 3 + 1 + 1) PV.nilp))) <|
                            ass (isBytes (slLen (dc.getD (i * 3 + 1 + 1) PV.nilp)) (slCells (dc.getD (i * 3 + 1 + 1) PV.nilp)) && isBytes (slLen (c.getD (i * 3 + 1 + 1) PV.nilp)) (slCells (c.getD (i * 3 + 1 + 1) PV.nilp))) <|
                              ass (!!Sp.sameA (asI (dc.getD (i * 3) PV.nilp)) (asI (dc.getD (i * 3 + 1) PV.nilp)) (slCells (dc.getD (i * 3 + 1 + 1) PV.nilp)) (asI (c.getD (i * 3) PV.nilp)) (-1) (slCells (c.getD (i * 3 + 1 + 1) PV.nilp))) <|
                                ass (decide (0 ≤ (↑i : Int)) && decide ((↑i : Int) < (↑dn : Int))) <|
                                  ass (okAt [Kd.int IntKind.i64, Kd.int IntKind.i64, Kd.sl 1] dc (i * 3)) <|
                                    ass (oldL 1 (slCells (dc.getD (i * 3 + 1 + 1) PV.nilp))) <|
                                      ass (oldL 0 (slCells (dc.getD (i * 3 + 1 + 1) PV.nilp))) <|
                                        ass (isBytes (slLen (dc.getD (i * 3 + 1 + 1) PV.nilp)) (slCells (dc.getD (i * 3 + 1 + 1) PV.nilp)) && isBytes 0 []) <|
                                          ass (!Sp.sameA (asI (dc.getD (i * 3) PV.nilp)) (asI (dc.getD (i * 3 + 1) PV.nilp)) (slCells (dc.getD (i * 3 + 1 + 1) PV.nilp)) 7 0 []) <|
                                            ass (oldL 0 c) <|
                                              ass (oldL 0 b) <|
                                                ass (oldL 0 b) <|
                                                  ass (oldL 0 dc) <|
                                                    ass (oldL 0 c) <|
                                                      ass (oldL 0 b) <|
                                                        ass (oldL 0 c) <|
                                                          ass (oldL 0 b) <|
                                                            ass (oldL 0 b) <|
                                                              ass (oldL 0 b) <|
                                                                ass (oldL 0 c) <|
                                                                  ass (oldL 0 c) <|
                                                                    ass (oldL 0 b) <|
                                                                      ass (oldL 0 b) <|
                                                                        ass (oldL 0 b) <|
                                                                          ass (oldL 0 b) <|
                                                                            ass (oldL 0 b) <|
                                                                              ass (oldL 0 dc) <|
                                                                                ass (oldL 0 dc) <|
                                                                                  ass (oldL 0 c) <|
                                                                                    ass (oldL 0 c) <|
                                                                                      L3 H3 N (m) (c) (n) (b) (bn) (s) (e) (dc) (dn) (IntKind.i64.wrap ((↑i : Int) + 1))))
              else
                (bif asI (c.getD (i * 3) PV.nilp) != 2 then
                  (bif asI (c.getD (i * 3) PV.nilp) != 4 then
                    (ass (decide (0 ≤ (↑i : Int)) && decide ((↑i : Int) < (↑dn : Int))) <|
                    ass (okAt [Kd.int IntKind.i64, Kd.int IntKind.i64, Kd.sl 1] dc (i * 3)) <|
                      ass (oldL 1 (slCells (dc.getD (i * 3 + 1 + 1) PV.nilp))) <|
                        ass (oldL 1 (slCells (c.getD (i * 3 + 1 + 1) PV.nilp))) <|
                          ass (oldL 0 (slCells (dc.getD (i * 3 + 1 + 1) PV.nilp))) <|
                            ass (oldL 0 (slCells (c.getD (i * 3 + 1 + 1) PV.nilp))) <|
                              ass (isBytes (slLen (dc.getD (i * 3 + 1 + 1) PV.nilp)) (slCells (dc.getD (i * 3 + 1 + 1) PV.nilp)) && isBytes (slLen (c.getD (i * 3 + 1 + 1) PV.nilp)) (slCells (c.getD (i * 3 + 1 + 1) PV.nilp))) <|
                                ass (!!Sp.sameA (asI (dc.getD (i * 3) PV.nilp)) (asI (dc.getD (i * 3 + 1) PV.nilp)) (slCells (dc.getD (i * 3 + 1 + 1) PV.nilp)) (asI (c.getD (i * 3) PV.nilp)) 0 (slCells (c.getD (i * 3 + 1 + 1) PV.nilp))) <|
                                  ass (decide (0 ≤ (↑i : Int)) && decide ((↑i : Int) < (↑dn : Int))) <|
                                    ass (okAt [Kd.int IntKind.i64, Kd.int IntKind.i64, Kd.sl 1] dc (i * 3)) <|
                                      ass (oldL 1 (slCells (dc.getD (i * 3 + 1 + 1) PV.nilp))) <|
                                        ass (oldL 0 (slCells (dc.getD (i * 3 + 1 + 1) PV.nilp))) <|
                                          ass (isBytes (slLen (dc.getD (i * 3 + 1 + 1) PV.nilp)) (slCells (dc.getD (i * 3 + 1 + 1) PV.nilp)) && isBytes 0 []) <|
                                            ass (!Sp.sameA (asI (dc.getD (i * 3) PV.nilp)) (asI (dc.getD (i * 3 + 1) PV.nilp)) (slCells (dc.getD (i * 3 + 1 + 1) PV.nilp)) 7 0 []) <|
                                              ass (oldL 0 c) <|
                                                ass (oldL 0 b) <|
                                                  ass (oldL 0 b) <|
                                                    ass (oldL 0 dc) <|
                                                      ass (oldL 0 c) <|
                                                        ass (oldL 0 b) <|
                                                          ass (oldL 0 c) <|
                                                            ass (oldL 0 b) <|
                                                              ass (oldL 0 b) <|
                                                                ass (oldL 0 b) <|
                                                                  ass (oldL 0 c) <|
                                                                    ass (oldL 0 c) <|
                                                                      ass (oldL 0 b) <|
                                                                        ass (oldL 0 b) <|
                                                                          ass (oldL 0 b) <|
                                                                            ass (oldL 0 b) <|
                                                                              ass (oldL 0 b) <|
                                                                                ass (oldL 0 dc) <|
                                                                                  ass (oldL 0 dc) <|
                                                                                    ass (oldL 0 c) <|
                                                                                      ass (oldL 0 c) <|
                                                                                        L3 H3 N (m) (c) (n) (b) (bn) (s) (e) (dc) (dn) (IntKind.i64.wrap ((↑i : Int) + 1)))
                  else
                    (ass (decide (0 ≤ (↑i : Int)) && decide ((↑i : Int) < (↑dn : Int))) <|
                    ass (okAt [Kd.int IntKind.i64, Kd.int IntKind.i64, Kd.sl 1] dc (i * 3)) <|
                      ass (oldL 1 (slCells (dc.getD (i * 3 + 1 + 1) PV.nilp))) <|
                        ass (oldL 1 (slCells (c.getD (i * 3 + 1 + 1) PV.nilp))) <|
                          ass (oldL 0 (slCells (dc.getD (i * 3 + 1 + 1) PV.nilp))) <|
                            ass (oldL 0 (slCells (c.getD (i * 3 + 1 + 1) PV.nilp))) <|
                              ass (isBytes (slLen (dc.getD (i * 3 + 1 + 1) PV.nilp)) (slCells (dc.getD (i * 3 + 1 + 1) PV.nilp)) && isBytes (slLen (c.getD (i * 3 + 1 + 1) PV.nilp)) (slCells (c.getD (i * 3 + 1 + 1) PV.nilp))) <|
                                ass (!!Sp.sameA (asI (dc.getD (i * 3) PV.nilp)) (asI (dc.getD (i * 3 + 1) PV.nilp)) (slCells (dc.getD (i * 3 + 1 + 1) PV.nilp)) (asI (c.getD (i * 3) PV.nilp)) (asI (c.getD (i * 3 + 1) PV.nilp)) (slCells (c.getD (i * 3 + 1 + 1) PV.nilp))) <|
                                  ass (decide (0 ≤ (↑i : Int)) && decide ((↑i : Int) < (↑dn : Int))) <|
                                    ass (okAt [Kd.int IntKind.i64, Kd.int IntKind.i64, Kd.sl 1] dc (i * 3)) <|
                                      ass (oldL 1 (slCells (dc.getD (i * 3 + 1 + 1) PV.nilp))) <|
                                        ass (oldL 0 (slCells (dc.getD (i * 3 + 1 + 1) PV.nilp))) <|
                                          ass (isBytes (slLen (dc.getD (i * 3 + 1 + 1) PV.nilp)) (slCells (dc.getD (i * 3 + 1 + 1) PV.nilp)) && isBytes 0 []) <|
                                            ass (!Sp.sameA (asI (dc.getD (i * 3) PV.nilp)) (asI (dc.getD (i * 3 + 1) PV.nilp)) (slCells (dc.getD (i * 3 + 1 + 1) PV.nilp)) 7 0 []) <|
                                              ass (oldL 0 c) <|
                                                ass (oldL 0 b) <|
                                                  ass (oldL 0 b) <|
                                                    ass (oldL 0 dc) <|
                                                      ass (oldL 0 c) <|
                                                        ass (oldL 0 b) <|
                                                          ass (oldL 0 c) <|
                                                            ass (oldL 0 b) <|
                                                              ass (oldL 0 b) <|
                                                                ass (oldL 0 b) <|
                                                                  ass (oldL 0 c) <|
                                                                    ass (oldL 0 c) <|
                                                                      ass (oldL 0 b) <|
                                                                        ass (oldL 0 b) <|
                                                                          ass (oldL 0 b) <|
                                                                            ass (oldL 0 b) <|
                                                                              ass (oldL 0 b) <|
                                                                                ass (oldL 0 dc) <|
                                                                                  ass (oldL 0 dc) <|
                                                                                    ass (oldL 0 c) <|
                                                                                      ass (oldL 0 c) <|
                                                                                        L3 H3 N (m) (c) (n) (b) (bn) (s) (e) (dc) (dn) (IntKind.i64.wrap ((↑i : Int) + 1))))
                else
                  (ass (decide (0 ≤ (↑i : Int)) && decide ((↑i : Int) < (↑dn : Int))) <|
                  ass (okAt [Kd.int IntKind.i64, Kd.int IntKind.i64, Kd.sl 1] dc (i * 3)) <|
                    ass (oldL 1 (slCells (dc.getD (i * 3 + 1 + 1) PV.nilp))) <|
                      ass (oldL 1 (slCells (c.getD (i * 3 + 1 + 1) PV.nilp))) <|
                        ass (oldL 0 (slCells (dc.getD (i * 3 + 1 + 1) PV.nilp))) <|
                          ass (oldL 0 (slCells (c.getD (i * 3 + 1 + 1) PV.nilp))) <|
                            ass (isBytes (slLen (dc.getD (i * 3 + 1 + 1) PV.nilp)) (slCells (dc.getD (i * 3 + 1 + 1) PV.nilp)) && isBytes (slLen (c.getD (i * 3 + 1 + 1) PV.nilp)) (slCells (c.getD (i * 3 + 1 + 1) PV.nilp))) <|
                              ass (!!Sp.sameA (asI (dc.getD (i * 3) PV.nilp)) (asI (dc.getD (i * 3 + 1) PV.nilp)) (slCells (dc.getD (i * 3 + 1 + 1) PV.nilp)) (asI (c.getD (i * 3) PV.nilp)) (asI (c.getD (i * 3 + 1) PV.nilp)) (slCells (c.getD (i * 3 + 1 + 1) PV.nilp))) <|
                                ass (decide (0 ≤ (↑i : Int)) && decide ((↑i : Int) < (↑dn : Int))) <|
                                  ass (okAt [Kd.int IntKind.i64, Kd.int IntKind.i64, Kd.sl 1] dc (i * 3)) <|
                                    ass (oldL 1 (slCells (dc.getD (i * 3 + 1 + 1) PV.nilp))) <|
                                      ass (oldL 0 (slCells (dc.getD (i * 3 + 1 + 1) PV.nilp))) <|
                                        ass (isBytes (slLen (dc.getD (i * 3 + 1 + 1) PV.nilp)) (slCells (dc.getD (i * 3 + 1 + 1) PV.nilp)) && isBytes 0 []) <|
                                          ass (!Sp.sameA (asI (dc.getD (i * 3) PV.nilp)) (asI (dc.getD (i * 3 + 1) PV.nilp)) (slCells (dc.getD (i * 3 + 1 + 1) PV.nilp)) 7 0 []) <|
                                            ass (oldL 0 c) <|
                                              ass (oldL 0 b) <|
                                                ass (oldL 0 b) <|
                                                  ass (oldL 0 dc) <|
                                                    ass (oldL 0 c) <|
                                                      ass (oldL 0 b) <|
                                                        ass (oldL 0 c) <|
                                                          ass (oldL 0 b) <|
                                                            ass (oldL 0 b) <|
                                                              ass (oldL 0 b) <|
                                                                ass (oldL 0 c) <|
                                                                  ass (oldL 0 c) <|
                                                                    ass (oldL 0 b) <|
                                                                      ass (oldL 0 b) <|
                                                                        ass (oldL 0 b) <|
                                                                          ass (oldL 0 b) <|
                                                                            ass (oldL 0 b) <|
                                                                              ass (oldL 0 dc) <|
                                                                                ass (oldL 0 dc) <|
                                                                                  ass (oldL 0 c) <|
                                                                                    ass (oldL 0 c) <|
                                                                                      L3 H3 N (m) (c) (n) (b) (bn) (s) (e) (dc) (dn) (IntKind.i64.wrap ((↑i : Int) + 1))))))
          else
            (bif asI (c.getD (i * 3) PV.nilp) != 2 then
              (bif asI (c.getD (i * 3) PV.nilp) != 4 then
                (ass (decide (0 ≤ (↑i : Int)) && decide ((↑i : Int) < (↑dn : Int))) <|
                ass (okAt [Kd.int IntKind.i64, Kd.int IntKind.i64, Kd.sl 1] dc (i * 3)) <|
                  ass (oldL 1 (slCells (dc.getD (i * 3 + 1 + 1) PV.nilp))) <|
                    ass (oldL 1 (slCells (c.getD (i * 3 + 1 + 1) PV.nilp))) <|
                      ass (oldL 0 (slCells (dc.getD (i * 3 + 1 + 1) PV.nilp))) <|
                        ass (oldL 0 (slCells (c.getD (i * 3 + 1 + 1) PV.nilp))) <|
                          ass (isBytes (slLen (dc.getD (i * 3 + 1 + 1) PV.nilp)) (slCells (dc.getD (i * 3 + 1 + 1) PV.nilp)) && isBytes (slLen (c.getD (i * 3 + 1 + 1) PV.nilp)) (slCells (c.getD (i * 3 + 1 + 1) PV.nilp))) <|
                            ass (!!Sp.sameA (asI (dc.getD (i * 3) PV.nilp)) (asI (dc.getD (i * 3 + 1) PV.nilp)) (slCells (dc.getD (i * 3 + 1 + 1) PV.nilp)) (asI (c.getD (i * 3) PV.nilp)) 0 (slCells (c.getD (i * 3 + 1 + 1) PV.nilp))) <|
                              ass (decide (0 ≤ (↑i : Int)) && decide ((↑i : Int) < (↑dn : Int))) <|
                                ass (okAt [Kd.int IntKind.i64, Kd.int IntKind.i64, Kd.sl 1] dc (i * 3)) <|
                                  ass (oldL 1 (slCells (dc.getD (i * 3 + 1 + 1) PV.nilp))) <|
                                    ass (oldL 0 (slCells (dc.getD (i * 3 + 1 + 1) PV.nilp))) <|
                                      ass (isBytes (slLen (dc.getD (i * 3 + 1 + 1) PV.nilp)) (slCells (dc.getD (i * 3 + 1 + 1) PV.nilp)) && isBytes 0 []) <|
                                        ass (!Sp.sameA (asI (dc.getD (i * 3) PV.nilp)) (asI (dc.getD (i * 3 + 1) PV.nilp)) (slCells (dc.getD (i * 3 + 1 + 1) PV.nilp)) 7 0 []) <|
                                          ass (oldL 0 c) <|
                                            ass (oldL 0 b) <|
                                              ass (oldL 0 b) <|
                                                ass (oldL 0 dc) <|
                                                  ass (oldL 0 c) <|
                                                    ass (oldL 0 b) <|
                                                      ass (oldL 0 c) <|
                                                        ass (oldL 0 b) <|
                                                          ass (oldL 0 b) <|
                                                            ass (oldL 0 b) <|
                                                              ass (oldL 0 c) <|
                                                                ass (oldL 0 c) <|
                                                                  ass (oldL 0 b) <|
                                                                    ass (oldL 0 b) <|
                                                                      ass (oldL 0 b) <|
                                                                        ass (oldL 0 b) <|
                                                                          ass (oldL 0 b) <|
                                                                            ass (oldL 0 dc) <|
                                                                              ass (oldL 0 dc) <|
                                                                                ass (oldL 0 c) <|
                                                                                  ass (oldL 0 c) <|
                                                                                    L3 H3 N (m) (c) (n) (b) (bn) (s) (e) (dc) (dn) (IntKind.i64.wrap ((↑i : Int) + 1)))
              else
                (ass (decide (0 ≤ (↑i : Int)) && decide ((↑i : Int) < (↑dn : Int))) <|
                ass (okAt [Kd.int IntKind.i64, Kd.int IntKind.i64, Kd.sl 1] dc (i * 3)) <|
                  ass (oldL 1 (slCells (dc.getD (i * 3 + 1 + 1) PV.nilp))) <|
                    ass (oldL 1 (slCells (c.getD (i * 3 + 1 + 1) PV.nilp))) <|
                      ass (oldL 0 (slCells (dc.getD (i * 3 + 1 + 1) PV.nilp))) <|
                        ass (oldL 0 (slCells (c.getD (i * 3 + 1 + 1) PV.nilp))) <|
                          ass (isBytes (slLen (dc.getD (i * 3 + 1 + 1) PV.nilp)) (slCells (dc.getD (i * 3 + 1 + 1) PV.nilp)) && isBytes (slLen (c.getD (i * 3 + 1 + 1) PV.nilp)) (slCells (c.getD (i * 3 + 1 + 1) PV.nilp))) <|
                            ass (!!Sp.sameA (asI (dc.getD (i * 3) PV.nilp)) (asI (dc.getD (i * 3 + 1) PV.nilp)) (slCells (dc.getD (i * 3 + 1 + 1) PV.nilp)) (asI (c.getD (i * 3) PV.nilp)) (asI (c.getD (i * 3 + 1) PV.nilp)) (slCells (c.getD (i * 3 + 1 + 1) PV.nilp))) <|
                              ass (decide (0 ≤ (↑i : Int)) && decide ((↑i : Int) < (↑dn : Int))) <|
                                ass (okAt [Kd.int IntKind.i64, Kd.int IntKind.i64, Kd.sl 1] dc (i * 3)) <|
                                  ass (oldL 1 (slCells (dc.getD (i * 3 + 1 + 1) PV.nilp))) <|
                                    ass (oldL 0 (slCells (dc.getD (i * 3 + 1 + 1) PV.nilp))) <|
                                      ass (isBytes (slLen (dc.getD (i * 3 + 1 + 1) PV.nilp)) (slCells (dc.getD (i * 3 + 1 + 1) PV.nilp)) && isBytes 0 []) <|
                                        ass (!Sp.sameA (asI (dc.getD (i * 3) PV.nilp)) (asI (dc.getD (i * 3 + 1) PV.nilp)) (slCells (dc.getD (i * 3 + 1 + 1) PV.nilp)) 7 0 []) <|
                                          ass (oldL 0 c) <|
                                            ass (oldL 0 b) <|
                                              ass (oldL 0 b) <|
                                                ass (oldL 0 dc) <|
                                                  ass (oldL 0 c) <|
                                                    ass (oldL 0 b) <|
                                                      ass (oldL 0 c) <|
                                                        ass (oldL 0 b) <|
                                                          ass (oldL 0 b) <|
                                                            ass (oldL 0 b) <|
                                                              ass (oldL 0 c) <|
                                                                ass (oldL 0 c) <|
                                                                  ass (oldL 0 b) <|
                                                                    ass (oldL 0 b) <|
                                                                      ass (oldL 0 b) <|
                                                                        ass (oldL 0 b) <|
                                                                          ass (oldL 0 b) <|
                                                                            ass (oldL 0 dc) <|
                                                                              ass (oldL 0 dc) <|
                                                                                ass (oldL 0 c) <|
                                                                                  ass (oldL 0 c) <|
                                                                                    L3 H3 N (m) (c) (n) (b) (bn) (s) (e) (dc) (dn) (IntKind.i64.wrap ((↑i : Int) + 1))))
            else
              (ass (decide (0 ≤ (↑i : Int)) && decide ((↑i : Int) < (↑dn : Int))) <|
              ass (okAt [Kd.int IntKind.i64, Kd.int IntKind.i64, Kd.sl 1] dc (i * 3)) <|
                ass (oldL 1 (slCells (dc.getD (i * 3 + 1 + 1) PV.nilp))) <|
                  ass (oldL 1 (slCells (c.getD (i * 3 + 1 + 1) PV.nilp))) <|
                    ass (oldL 0 (slCells (dc.getD (i * 3 + 1 + 1) PV.nilp))) <|
                      ass (oldL 0 (slCells (c.getD (i * 3 + 1 + 1) PV.nilp))) <|
                        ass (isBytes (slLen (dc.getD (i * 3 + 1 + 1) PV.nilp)) (slCells (dc.getD (i * 3 + 1 + 1) PV.nilp)) && isBytes (slLen (c.getD (i * 3 + 1 + 1) PV.nilp)) (slCells (c.getD (i * 3 + 1 + 1) PV.nilp))) <|
                          ass (!!Sp.sameA (asI (dc.getD (i * 3) PV.nilp)) (asI (dc.getD (i * 3 + 1) PV.nilp)) (slCells (dc.getD (i * 3 + 1 + 1) PV.nilp)) (asI (c.getD (i * 3) PV.nilp)) (asI (c.getD (i * 3 + 1) PV.nilp)) (slCells (c.getD (i * 3 + 1 + 1) PV.nilp))) <|
                            ass (decide (0 ≤ (↑i : Int)) && decide ((↑i : Int) < (↑dn : Int))) <|
                              ass (okAt [Kd.int IntKind.i64, Kd.int IntKind.i64, Kd.sl 1] dc (i * 3)) <|
                                ass (oldL 1 (slCells (dc.getD (i * 3 + 1 + 1) PV.nilp))) <|
                                  ass (oldL 0 (slCells (dc.getD (i * 3 + 1 + 1) PV.nilp))) <|
                                    ass (isBytes (slLen (dc.getD (i * 3 + 1 + 1) PV.nilp)) (slCells (dc.getD (i * 3 + 1 + 1) PV.nilp)) && isBytes 0 []) <|
                                      ass (!Sp.sameA (asI (dc.getD (i * 3) PV.nilp)) (asI (dc.getD (i * 3 + 1) PV.nilp)) (slCells (dc.getD (i * 3 + 1 + 1) PV.nilp)) 7 0 []) <|
                                        ass (oldL 0 c) <|
                                          ass (oldL 0 b) <|
                                            ass (oldL 0 b) <|
                                              ass (oldL 0 dc) <|
                                                ass (oldL 0 c) <|
                                                  ass (oldL 0 b) <|
                                                    ass (oldL 0 c) <|
                                                      ass (oldL 0 b) <|
                                                        ass (oldL 0 b) <|
                                                          ass (oldL 0 b) <|
                                                            ass (oldL 0 c) <|
                                                              ass (oldL 0 c) <|
                                                                ass (oldL 0 b) <|
                                                                  ass (oldL 0 b) <|
                                                                    ass (oldL 0 b) <|
                                                                      ass (oldL 0 b) <|
                                                                        ass (oldL 0 b) <|
                                                                          ass (oldL 0 dc) <|
                                                                            ass (oldL 0 dc) <|
                                                                              ass (oldL 0 c) <|
                                                                                ass (oldL 0 c) <|
                                                                                  L3 H3 N (m) (c) (n) (b) (bn) (s) (e) (dc) (dn) (IntKind.i64.wrap ((↑i : Int) + 1))))))
  else
    (some (PV.bool true))) := by kernel_rfl

end Go.Proofs.YtbnfofcbajaiiaaDoor.Am
