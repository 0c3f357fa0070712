/- The stable sort of slices, at every type of elements: what it answers. A type's own numbers, and its trees, come with the classes. -/
import Derived.Test.YtpbemfikhmeedaaGreatDoorME
import Derived.Test.YtpbemfikhmeedaaGreatDoorMBQ
set_option linter.unusedVariables false
set_option linter.unusedSimpArgs false
set_option linter.unusedSectionVars false
set_option maxRecDepth 100000
set_option maxHeartbeats 8000000
namespace Go.Proofs.YtpbemfikhmeedaaGreatDoor.Am.SoG
open St
theorem room {j n : Nat} (e : Nat) (h : j < n) : j * e + e <= n * e := by
  have := Nat.mul_le_mul_right e (Nat.succ_le_of_lt h)
  rwa [Nat.succ_mul] at this
class SoT where
  KF : List Kd
  fSw : Nat
  cSw : Func
  hSw : EN.apart fSw = false
  fRo : Nat
  cRo : Func
  hRo : EN.apart fRo = false
  fIn : Nat
  cIn : Func
  hIn : EN.apart fIn = false
  fSy : Nat
  cSy : Func
  hSy : EN.apart fSy = false
  fSt : Nat
  cSt : Func
  hSt : EN.apart fSt = false
  fSs : Nat
  cSs : Func
  hSs : EN.apart fSs = false
  fCmp : Nat
open SoT
variable [SoT]
noncomputable def LSwF (N m : Nat) (cells : List PV) (n : Nat) (a b k i : Int) (cmp : PV) : Option PV := loopSF EN T0 H0 N 5 1 fSw cSw [1, 0] ([true, true, true, true, true, false, false, false, false, false, true] ++ List.replicate 27 false) 1 m ([some (PV.osl 0 n 0 KF.length n none), some (PV.int IntKind.i64 a), some (PV.int IntKind.i64 b), some (PV.int IntKind.i64 k), some cmp, none, none, none, none, none, some (PV.int IntKind.i64 i)] ++ List.replicate 27 none) (obOf KF.length n cells)
def gSwF (xs : List PV) : Option Tr := match xs with
  | [d, .int .i64 a, .int .i64 b, .int .i64 k, .fn (.func _) [] [], o] => match obIn KF.length d o with
    | some (n, n1, n2, cells) => some (.leaf ((n1 == n) && ((n2 == n) && (rowsC KF n cells && (decide (0 <= a) && (decide (0 <= b) && (decide (0 <= k) && (decide (a + k <= (n : Int)) && decide (b + k <= (n : Int))))))))) (partAns KF n cells (swaps a.toNat b.toNat 0 k.toNat)))
    | none => none
  | _ => none
def TSwF : Table := TaddT T0 fSw gSwF
noncomputable def LRoF (N q : Nat) (cells : List PV) (n : Nat) (a m b i0 j0 i j : Int) (g : Nat) : Option PV := loopSF EN TSwF H0 N 5 1 fRo cRo [1, 1, 0, 0] ([true, true, true, true, true, false, false, false, false, false, true, true, true, true, true, true, true, true] ++ List.replicate 40 false) 1 q ([some (PV.osl 0 n 0 KF.length n none), some (PV.int IntKind.i64 a), some (PV.int IntKind.i64 m), some (PV.int IntKind.i64 b), some (PV.fn (Fn.func g) [] []), none, none, none, none, none, some (PV.int IntKind.i64 i), some (PV.int IntKind.i64 j), some (PV.int IntKind.i64 m), some (PV.int IntKind.i64 a), some (PV.int IntKind.i64 i0), some (PV.int IntKind.i64 b), some (PV.int IntKind.i64 m), some (PV.int IntKind.i64 j0)] ++ List.replicate 40 none) (obOf KF.length n cells)
def gRoF (xs : List PV) : Option Tr := match xs with
  | [d, .int .i64 a, .int .i64 m, .int .i64 b, .fn (.func _) [] [], o] => match obIn KF.length d o with
    | some (n, n1, n2, cells) => some (.leaf ((n1 == n) && ((n2 == n) && (rowsC KF n cells && (decide (0 <= a) && (decide (a < m) && (decide (m < b) && decide (b <= (n : Int)))))))) (partAns KF n cells (rots m.toNat 1000009 (m - a).toNat (b - m).toNat)))
    | none => none
  | _ => none
def TCF (cF : List PV -> List PV -> Int) : Table := TaddT T0 fCmp (fun xs => match xs with
  | [.agg x, .agg y] => some (.leaf (wk KF x && wk KF y) (.int .i64 (cF x y)))
  | _ => none)
def cmpF : PV := .fn (.func fCmp) [] []
def patOF : List Bool := [true, true, true, true, false, false, false, false, true, false, true, true] ++ List.replicate 41 false
def patIF : List Bool := [true, true, true, true, false, false, false, false, true, true, true, true, true, true, true, false, false, true] ++ List.replicate 35 false
noncomputable def bodyOF : Code := subC (bodyOf cIn) [1, 0, 0]
noncomputable def endF (cF : List PV -> List PV -> Int) (N : Nat) : KC PV := afterS EN (TCF cF) (recS EN (TCF cF) H0 N 5) (H0 fIn) 0 N (bodyOf cIn) [1, 0] (endK EN cIn (lastF 1))
noncomputable def contOF (cF : List PV -> List PV -> Int) (N m : Nat) : KC PV := fun o s1 σ1 => match o with
  | .norm => trimS EN 0 patOF 1 s1 σ1 fun s2 σ2 => iterS EN 0 patOF 1 (codeS EN (TCF cF) (recS EN (TCF cF) H0 N 5) (H0 fIn) 0 N bodyOF) m s2 σ2 (endF cF N)
  | .exit j => endF cF N (.exit j) s1 σ1
  | .ret => endF cF N .ret s1 σ1
  | .goto l => endF cF N (.goto l) s1 σ1
noncomputable def LInF (cF : List PV -> List PV -> Int) (N m q : Nat) (cells : List PV) (n : Nat) (a b a1 i j : Int) : Option PV :=
  iterS EN 0 patIF 1 (codeS EN (TCF cF) (recS EN (TCF cF) H0 N 5) (H0 fIn) 0 N (subC bodyOF [1, 0, 0, 1, 0, 0])) q
    ([some (PV.osl 0 n 0 KF.length n none), some (PV.int IntKind.i64 a), some (PV.int IntKind.i64 b), some cmpF, none, none, none, none, some (PV.int IntKind.i64 i), some (PV.int IntKind.i64 j), some (PV.int IntKind.i64 a), some (PV.int IntKind.i64 a1), some (PV.int IntKind.i64 i), some (PV.int IntKind.i64 b), some (PV.bool true), none, none, some (PV.int IntKind.i64 i)] ++ List.replicate 35 none) (obOf KF.length n cells)
    (afterS EN (TCF cF) (recS EN (TCF cF) H0 N 5) (H0 fIn) 0 N bodyOF [1, 0, 0, 1, 0] (contOF cF N m))
noncomputable def LOutF (cF : List PV -> List PV -> Int) (N q : Nat) (cells : List PV) (n : Nat) (a b a1 i : Int) : Option PV :=
  loopSF EN (TCF cF) H0 N 5 1 fIn cIn [1, 0] patOF 1 q
    ([some (PV.osl 0 n 0 KF.length n none), some (PV.int IntKind.i64 a), some (PV.int IntKind.i64 b), some cmpF, none, none, none, none, some (PV.int IntKind.i64 i), none, some (PV.int IntKind.i64 a), some (PV.int IntKind.i64 a1)] ++ List.replicate 41 none) (obOf KF.length n cells)
def gInF (cF : List PV -> List PV -> Int) (xs : List PV) : Option Tr := match xs with
  | [d, .int .i64 a, .int .i64 b, .fn (.func q) [] [], o] => match obIn KF.length d o with
    | some (n, n1, n2, cells) => some (.leaf (Nat.beq q fCmp && ((n1 == n) && ((n2 == n) && (rowsC KF n cells && (decide (0 <= a) && (decide (a <= b) && decide (b <= (n : Int)))))))) (partAns KF n cells (insR (ltOf cF) a.toNat (a.toNat + 1) (b.toNat - (a.toNat + 1)))))
    | none => none
  | _ => none
def gSyF (ask : Nat -> Nat -> Nat -> List (List PV) -> Bool) (mg : Mg) (xs : List PV) : Option Tr := match xs with
  | [d, .int .i64 a, .int .i64 m, .int .i64 b, .fn (.func q) [] [], o] => match obIn KF.length d o with
    | some (n, n1, n2, cells) => some (.leaf (Nat.beq q fCmp && ((n1 == n) && ((n2 == n) && (rowsC KF n cells && (decide (0 <= a) && (decide (a < m) && (decide (m < b) && (decide (b <= (n : Int)) && ask a.toNat m.toNat b.toNat (chunks KF.length n cells))))))))) (partAns KF n cells (mg a.toNat m.toNat b.toNat)))
    | none => none
  | _ => none
def TSyF (cF : List PV -> List PV -> Int) (ask : Nat -> Nat -> Nat -> List (List PV) -> Bool) (mg : Mg) : Table := TaddT (TaddT (TCF cF) fRo gRoF) fSy (gSyF ask mg)
noncomputable def L1F (cF : List PV -> List PV -> Int) (ask : Nat -> Nat -> Nat -> List (List PV) -> Bool) (mg : Mg) (N q : Nat) (cells : List PV) (n : Nat) (a m b d i j : Int) : Option PV :=
  loopSF EN (TSyF cF ask mg) H0 N 5 1 fSy cSy [0, 1, 0, 1, 1, 0, 0] (patOf (sparse 220 0 [(0, vI 0), (1, vI 0), (2, vI 0), (3, vI 0), (4, vI 0), (10, vI 0), (11, vI 0), (25, vI 0), (26, vI 0), (27, vI 0), (28, vI 0), (29, vI 0), (30, vI 0)])) 1 q
    (sparse 220 0 [(0, .osl 0 n 0 KF.length n none), (1, vI a), (2, vI m), (3, vI b), (4, cmpF), (10, vI i), (11, vI j), (25, vI m), (26, vI a), (27, vI d), (28, .bool true), (29, vI m), (30, vI b)]) (obOf KF.length n cells)
noncomputable def L2F (cF : List PV -> List PV -> Int) (ask : Nat -> Nat -> Nat -> List (List PV) -> Bool) (mg : Mg) (N q : Nat) (cells : List PV) (n : Nat) (a m b d i j k : Int) : Option PV :=
  loopSF EN (TSyF cF ask mg) H0 N 5 1 fSy cSy [0, 1, 0, 1, 1, 1, 0, 1, 0] (patOf (sparse 220 0 [(0, vI 0), (1, vI 0), (2, vI 0), (3, vI 0), (4, vI 0), (10, vI 0), (11, vI 0), (13, vI 0), (25, vI 0), (26, vI 0), (27, vI 0), (28, vI 0), (29, vI 0), (30, vI 0), (31, vI 0), (32, vI 0), (33, vI 0), (54, vI 0)])) 1 q
    (sparse 220 0 [(0, .osl 0 n 0 KF.length n none), (1, vI a), (2, vI m), (3, vI b), (4, cmpF), (10, vI i), (11, vI j), (13, vI k), (25, vI m), (26, vI a), (27, vI d), (28, .bool true), (29, vI m), (30, vI b), (31, vI i), (32, vI j), (33, .bool false), (54, vI a)]) (obOf KF.length n cells)
noncomputable def L3F (cF : List PV -> List PV -> Int) (ask : Nat -> Nat -> Nat -> List (List PV) -> Bool) (mg : Mg) (N q : Nat) (cells : List PV) (n : Nat) (a m b d d2 i j : Int) : Option PV :=
  loopSF EN (TSyF cF ask mg) H0 N 5 1 fSy cSy [1, 0, 1, 0, 1, 1, 0, 0] (patOf (sparse 220 0 [(0, vI 0), (1, vI 0), (2, vI 0), (3, vI 0), (4, vI 0), (14, vI 0), (15, vI 0), (25, vI 0), (26, vI 0), (27, vI 0), (28, vI 0), (77, vI 0), (78, vI 0), (79, vI 0), (80, vI 0), (81, vI 0), (82, vI 0)])) 1 q
    (sparse 220 0 [(0, .osl 0 n 0 KF.length n none), (1, vI a), (2, vI m), (3, vI b), (4, cmpF), (14, vI i), (15, vI j), (25, vI m), (26, vI a), (27, vI d), (28, .bool false), (77, vI b), (78, vI m), (79, vI d2), (80, .bool true), (81, vI a), (82, vI m)]) (obOf KF.length n cells)
noncomputable def L4F (cF : List PV -> List PV -> Int) (ask : Nat -> Nat -> Nat -> List (List PV) -> Bool) (mg : Mg) (N q : Nat) (cells : List PV) (n : Nat) (a m b d d2 i j k : Int) : Option PV :=
  loopSF EN (TSyF cF ask mg) H0 N 5 1 fSy cSy [1, 0, 1, 0, 1, 1, 1, 0, 1, 0] (patOf (sparse 220 0 [(0, vI 0), (1, vI 0), (2, vI 0), (3, vI 0), (4, vI 0), (14, vI 0), (15, vI 0), (17, vI 0), (25, vI 0), (26, vI 0), (27, vI 0), (28, vI 0), (77, vI 0), (78, vI 0), (79, vI 0), (80, vI 0), (81, vI 0), (82, vI 0), (83, vI 0), (84, vI 0), (85, vI 0), (107, vI 0)])) 1 q
    (sparse 220 0 [(0, .osl 0 n 0 KF.length n none), (1, vI a), (2, vI m), (3, vI b), (4, cmpF), (14, vI i), (15, vI j), (17, vI k), (25, vI m), (26, vI a), (27, vI d), (28, .bool false), (77, vI b), (78, vI m), (79, vI d2), (80, .bool true), (81, vI a), (82, vI m), (83, vI i), (84, vI j), (85, .bool false), (107, vI m)]) (obOf KF.length n cells)
def rotE (n : Nat) (x y z : Int) (cells : List PV) (k : List PV -> Option PV) : Option PV :=
  bif decide (x < y) then
    (bif decide (y < z) then
      (ass (oldL 0 cells) <|
      ass (n == n && (n == n && (rowsC KF n cells && (decide (0 <= x) && (decide (x < y) && (decide (y < z) && decide (z <= (n : Int)))))))) <|
      ass (oldL 0 (rots y.toNat 1000009 (y - x).toNat (z - y).toNat (chunks KF.length n cells)).flatten) <|
      k (rots y.toNat 1000009 (y - x).toNat (z - y).toNat (chunks KF.length n cells)).flatten)
    else k cells)
  else k cells
def symE (ask : Nat -> Nat -> Nat -> List (List PV) -> Bool) (mg : Mg) (n : Nat) (x y z : Int) (cells : List PV) (k : List PV -> Option PV) : Option PV :=
  bif decide (x < y) then
    (bif decide (y < z) then
      (ass (oldL 0 cells) <|
      ass (n == n && (n == n && (rowsC KF n cells && (decide (0 <= x) && (decide (x < y) && (decide (y < z) && (decide (z <= (n : Int)) && ask x.toNat y.toNat z.toNat (chunks KF.length n cells)))))))) <|
      ass (oldL 0 (mg x.toNat y.toNat z.toNat (chunks KF.length n cells)).flatten) <|
      k (mg x.toNat y.toNat z.toNat (chunks KF.length n cells)).flatten)
    else k cells)
  else k cells
def endE (ask : Nat -> Nat -> Nat -> List (List PV) -> Bool) (mg : Mg) (n : Nat) (a m b md en st : Int) (cells : List PV) : Option PV :=
  rotE n st m en cells fun c1 => symE ask mg n a st md c1 fun c2 => symE ask mg n md en b c2 fun c3 => ass (oldL 0 c3) <| some (PV.tup [PV.tup [], encS (obOf KF.length n c3)])
def rnd5 (cF : List PV -> List PV -> Int) (n : Nat) (cells : List PV) (p st r : Int) (L : Int -> Int -> Option PV) (e : Int -> Option PV) : Option PV :=
  bif decide (st < r) then
    (ass (decide (0 <= IntKind.i64.wrap (p - mid st r)) && decide (IntKind.i64.wrap (p - mid st r) < (n : Int))) <|
    ass (n == n) <|
    ass (okAt KF cells (0 + (IntKind.i64.wrap (p - mid st r)).toNat * KF.length)) <|
    oldLS 1 (shapeAt KF cells (0 + (IntKind.i64.wrap (p - mid st r)).toNat * KF.length)) <|
    ass (decide (0 <= mid st r) && decide (mid st r < (n : Int))) <|
    ass (n == n) <|
    ass (okAt KF cells (0 + (mid st r).toNat * KF.length)) <|
    oldLS 1 (shapeAt KF cells (0 + (mid st r).toNat * KF.length)) <|
    oldLS 0 (shapeAt KF cells (0 + (IntKind.i64.wrap (p - mid st r)).toNat * KF.length)) <|
    oldLS 0 (shapeAt KF cells (0 + (mid st r).toNat * KF.length)) <|
    bif !decide (cF (shapeAt KF cells (0 + (IntKind.i64.wrap (p - mid st r)).toNat * KF.length)) (shapeAt KF cells (0 + (mid st r).toNat * KF.length)) < 0) then
      (ass (oldL 0 cells) <| L (IntKind.i64.wrap (mid st r + 1)) r)
    else
      (ass (oldL 0 cells) <| L st (mid st r)))
  else e st
def slots5 (n : Nat) (a m b d d2 md nn s1 u1 u2 p st r : Int) (ex : List (Nat × PV)) : Slots :=
  sparse 220 0 ([(0, .osl 0 n 0 KF.length n none), (1, vI a), (2, vI m), (3, vI b), (4, cmpF), (18, vI md), (19, vI nn), (20, vI st), (21, vI r), (22, vI p), (25, vI m), (26, vI a), (27, vI d), (28, .bool false), (77, vI b), (78, vI m), (79, vI d2), (80, .bool false), (129, vI a), (130, vI b), (131, vI s1), (132, .int .u64 u1), (133, .int .u64 u2), (134, vI md), (135, vI md), (136, vI m), (137, vI nn), (138, vI m), (139, vI md)] ++ (ex ++ [(147, vI nn), (148, vI p)]))
noncomputable def L5F (ex : List (Nat × PV)) (cF : List PV -> List PV -> Int) (ask : Nat -> Nat -> Nat -> List (List PV) -> Bool) (mg : Mg) (N q : Nat) (cells : List PV) (n : Nat) (a m b d d2 md nn s1 u1 u2 p st r : Int) : Option PV :=
  loopSF EN (TSyF cF ask mg) H0 N 5 1 fSy cSy [1, 1, 1, 1, 1, 1, 1, 0, 0] (patOf (slots5 n a m b d d2 md nn s1 u1 u2 p st r ex)) 1 q (slots5 n a m b d d2 md nn s1 u1 u2 p st r ex) (obOf KF.length n cells)
def TStF (cF : List PV -> List PV -> Int) (ask : Nat -> Nat -> Nat -> List (List PV) -> Bool) (mg : Mg) : Table := TaddT (TaddT (TCF cF) fIn (gInF cF)) fSy (gSyF ask mg)
def sl1 (n : Nat) (a b : Int) : Slots := sparse 63 0 [(0, .osl 0 n 0 KF.length n none), (1, vI n), (2, cmpF), (6, vI 20), (7, vI a), (8, vI b), (10, vI 20)]
def sl2 (n : Nat) (bs a b a0 b0 : Int) : Slots := sparse 63 0 [(0, .osl 0 n 0 KF.length n none), (1, vI n), (2, cmpF), (6, vI bs), (7, vI a), (8, vI b), (10, vI 20), (11, vI b0), (12, vI n), (13, .bool false), (23, .osl 0 n 0 KF.length n none), (24, vI a0), (25, vI n), (26, cmpF), (27, .tup [])]
def sl3 (n : Nat) (bs a b a0 b0 : Int) : Slots := sparse 63 0 [(0, .osl 0 n 0 KF.length n none), (1, vI n), (2, cmpF), (6, vI bs), (7, vI a), (8, vI b), (10, vI 20), (11, vI b0), (12, vI n), (13, .bool false), (23, .osl 0 n 0 KF.length n none), (24, vI a0), (25, vI n), (26, cmpF), (27, .tup []), (28, vI bs), (29, vI n), (30, .bool true), (31, vI bs), (32, vI (IntKind.i64.wrap (2 * bs)))]
noncomputable def M1F (cF : List PV -> List PV -> Int) (ask : Nat -> Nat -> Nat -> List (List PV) -> Bool) (mg : Mg) (N q : Nat) (cells : List PV) (n : Nat) (a b : Int) : Option PV := loopSF EN (TStF cF ask mg) H0 N 5 1 fSt cSt [1, 1, 0, 0] (patOf (sl1 n a b)) 1 q (sl1 n a b) (obOf KF.length n cells)
noncomputable def M2F (cF : List PV -> List PV -> Int) (ask : Nat -> Nat -> Nat -> List (List PV) -> Bool) (mg : Mg) (N q : Nat) (cells : List PV) (n : Nat) (bs a b a0 b0 : Int) : Option PV := loopSF EN (TStF cF ask mg) H0 N 5 1 fSt cSt [1, 1, 1, 1, 0] (patOf (sl2 n bs a b a0 b0)) 1 q (sl2 n bs a b a0 b0) (obOf KF.length n cells)
noncomputable def bodyM : Code := subC (bodyOf cSt) [1, 1, 1, 1, 0, 0]
noncomputable def endM (T : Table) (N : Nat) : KC PV := afterS EN T (recS EN T H0 N 5) (H0 fSt) 0 N (bodyOf cSt) [1, 1, 1, 1, 0] (endK EN cSt (lastF 1))
noncomputable def contM (T : Table) (N q : Nat) : KC PV := fun o s1 σ1 => match o with
  | .norm => trimS EN 0 (patOf (sl2 0 0 0 0 0 0)) 1 s1 σ1 fun s2 σ2 => iterS EN 0 (patOf (sl2 0 0 0 0 0 0)) 1 (codeS EN T (recS EN T H0 N 5) (H0 fSt) 0 N bodyM) q s2 σ2 (endM T N)
  | .exit j => endM T N (.exit j) s1 σ1
  | .ret => endM T N .ret s1 σ1
  | .goto l => endM T N (.goto l) s1 σ1
noncomputable def M3F (cF : List PV -> List PV -> Int) (ask : Nat -> Nat -> Nat -> List (List PV) -> Bool) (mg : Mg) (N q r : Nat) (cells : List PV) (n : Nat) (bs a b a0 b0 : Int) : Option PV :=
  iterS EN 0 (patOf (sl3 0 0 0 0 0 0)) 1 (codeS EN (TStF cF ask mg) (recS EN (TStF cF ask mg) H0 N 5) (H0 fSt) 0 N (subC bodyM [1, 0, 1, 0, 0, 0])) r (sl3 n bs a b a0 b0) (obOf KF.length n cells)
    (afterS EN (TStF cF ask mg) (recS EN (TStF cF ask mg) H0 N 5) (H0 fSt) 0 N bodyM [1, 0, 1, 0, 0] (contM (TStF cF ask mg) N q))
def gStF (cF : List PV -> List PV -> Int) (xs : List PV) : Option Tr := match xs with
  | [d, .int .i64 k, .fn (.func q) [] [], o] => match obIn KF.length d o with
    | some (n, n1, n2, cells) => some (.leaf (Nat.beq q fCmp && ((n1 == n) && ((n2 == n) && (rowsC KF n cells && decide (k = (n : Int)))))) (partAns KF n cells (insAll (ltOf cF))))
    | none => none
  | _ => none
def TSt2F (cF : List PV -> List PV -> Int) : Table := TaddT T0 fSt (gStF cF)
def gSoF (cF : List PV -> List PV -> Int) (xs : List PV) : Option Tr := match xs with
  | [d, .fn (.func q) [] [], o] => match obIn KF.length d o with
    | some (n, n1, n2, cells) => some (.leaf (Nat.beq q fCmp && ((n1 == n) && ((n2 == n) && rowsC KF n cells))) (partAns KF n cells (insAll (ltOf cF))))
    | none => none
  | _ => none
class SoH : Prop where
  tSwF : ∀ (N m : Nat) (cells : List PV) (n : Nat) (a b k i : Int) (g : Nat), LSwF N (m + 1) cells n a b k i (.fn (.func g) [] []) =
  (bif decide (i < k) then
    (ass (decide (0 <= IntKind.i64.wrap (b + i)) && decide (IntKind.i64.wrap (b + i) < (n : Int))) <|
    ass (n == n) <|
    ass (okAt KF cells (0 + (IntKind.i64.wrap (b + i)).toNat * KF.length)) <|
    oldLS 1 (shapeAt KF cells (0 + (IntKind.i64.wrap (b + i)).toNat * KF.length)) <|
    ass (decide (0 <= IntKind.i64.wrap (a + i)) && decide (IntKind.i64.wrap (a + i) < (n : Int))) <|
    ass (n == n) <|
    ass (okAt KF cells (0 + (IntKind.i64.wrap (a + i)).toNat * KF.length)) <|
    oldLS 1 (shapeAt KF cells (0 + (IntKind.i64.wrap (a + i)).toNat * KF.length)) <|
    ass (decide (0 <= IntKind.i64.wrap (a + i)) && decide (IntKind.i64.wrap (a + i) < (n : Int))) <|
    ass (n == n && (KF.length == KF.length && (decide (0 + (IntKind.i64.wrap (a + i)).toNat * KF.length + KF.length <= cells.length) && (shapeAt KF cells (0 + (IntKind.i64.wrap (b + i)).toNat * KF.length)).all PV.oneCell))) <|
    ass (decide (0 <= IntKind.i64.wrap (b + i)) && decide (IntKind.i64.wrap (b + i) < (n : Int))) <|
    ass (n == n && (KF.length == KF.length && (decide (0 + (IntKind.i64.wrap (b + i)).toNat * KF.length + KF.length <= (splice cells (0 + (IntKind.i64.wrap (a + i)).toNat * KF.length) (shapeAt KF cells (0 + (IntKind.i64.wrap (b + i)).toNat * KF.length))).length) && (shapeAt KF cells (0 + (IntKind.i64.wrap (a + i)).toNat * KF.length)).all PV.oneCell))) <|
    ass (oldL 0 (splice (splice cells (0 + (IntKind.i64.wrap (a + i)).toNat * KF.length) (shapeAt KF cells (0 + (IntKind.i64.wrap (b + i)).toNat * KF.length))) (0 + (IntKind.i64.wrap (b + i)).toNat * KF.length) (shapeAt KF cells (0 + (IntKind.i64.wrap (a + i)).toNat * KF.length)))) <|
    LSwF N m (splice (splice cells (0 + (IntKind.i64.wrap (a + i)).toNat * KF.length) (shapeAt KF cells (0 + (IntKind.i64.wrap (b + i)).toNat * KF.length))) (0 + (IntKind.i64.wrap (b + i)).toNat * KF.length) (shapeAt KF cells (0 + (IntKind.i64.wrap (a + i)).toNat * KF.length))) n a b k (IntKind.i64.wrap (i + 1)) (.fn (.func g) [] []))
  else
    (ass (oldL 0 cells) <| some (PV.tup [PV.tup [], encS (obOf KF.length n cells)])))
  tSwF0 : ∀ (N : Nat) (cells : List PV) (n : Nat) (a b k : Int) (g : Nat), footSR EN T0 H0 N 5 fSw [.osl 0 n 0 KF.length n none, .int .i64 a, .int .i64 b, .int .i64 k, .fn (.func g) [] [], encS (obOf KF.length n cells)] = LSwF N N cells n a b k 0 (.fn (.func g) [] [])
  tRoF : ∀ (N q : Nat) (cells : List PV) (n : Nat) (a m b i0 j0 i j : Int) (g : Nat), LRoF N (q + 1) cells n a m b i0 j0 i j g =
  (bif i != j then
    (bif decide (i > j) then
      (ass (oldL 0 cells) <|
      ass (n == n && (n == n && (rowsC KF n cells && (decide (0 <= IntKind.i64.wrap (m - i)) && (decide (0 <= m) && (decide (0 <= j) && (decide (IntKind.i64.wrap (m - i) + j <= (n : Int)) && decide (m + j <= (n : Int))))))))) <|
      ass (oldL 0 (swaps (IntKind.i64.wrap (m - i)).toNat m.toNat 0 j.toNat (chunks KF.length n cells)).flatten) <|
      ass (oldL 0 (swaps (IntKind.i64.wrap (m - i)).toNat m.toNat 0 j.toNat (chunks KF.length n cells)).flatten) <|
      LRoF N q (swaps (IntKind.i64.wrap (m - i)).toNat m.toNat 0 j.toNat (chunks KF.length n cells)).flatten n a m b i0 j0 (IntKind.i64.wrap (i - j)) j g)
    else
      (ass (oldL 0 cells) <|
      ass (n == n && (n == n && (rowsC KF n cells && (decide (0 <= IntKind.i64.wrap (m - i)) && (decide (0 <= IntKind.i64.wrap (IntKind.i64.wrap (m + j) - i)) && (decide (0 <= i) && (decide (IntKind.i64.wrap (m - i) + i <= (n : Int)) && decide (IntKind.i64.wrap (IntKind.i64.wrap (m + j) - i) + i <= (n : Int))))))))) <|
      ass (oldL 0 (swaps (IntKind.i64.wrap (m - i)).toNat (IntKind.i64.wrap (IntKind.i64.wrap (m + j) - i)).toNat 0 i.toNat (chunks KF.length n cells)).flatten) <|
      ass (oldL 0 (swaps (IntKind.i64.wrap (m - i)).toNat (IntKind.i64.wrap (IntKind.i64.wrap (m + j) - i)).toNat 0 i.toNat (chunks KF.length n cells)).flatten) <|
      LRoF N q (swaps (IntKind.i64.wrap (m - i)).toNat (IntKind.i64.wrap (IntKind.i64.wrap (m + j) - i)).toNat 0 i.toNat (chunks KF.length n cells)).flatten n a m b i0 j0 i (IntKind.i64.wrap (j - i)) g))
  else
    (ass (oldL 0 cells) <|
    ass (n == n && (n == n && (rowsC KF n cells && (decide (0 <= IntKind.i64.wrap (m - i)) && (decide (0 <= m) && (decide (0 <= i) && (decide (IntKind.i64.wrap (m - i) + i <= (n : Int)) && decide (m + i <= (n : Int))))))))) <|
    ass (oldL 0 (swaps (IntKind.i64.wrap (m - i)).toNat m.toNat 0 i.toNat (chunks KF.length n cells)).flatten) <|
    ass (oldL 0 (swaps (IntKind.i64.wrap (m - i)).toNat m.toNat 0 i.toNat (chunks KF.length n cells)).flatten) <|
    some (PV.tup [PV.tup [], encS (obOf KF.length n (swaps (IntKind.i64.wrap (m - i)).toNat m.toNat 0 i.toNat (chunks KF.length n cells)).flatten)])))
  tRoF0 : ∀ (N : Nat) (cells : List PV) (n : Nat) (a m b : Int) (g : Nat), footSR EN TSwF H0 N 5 fRo [.osl 0 n 0 KF.length n none, .int .i64 a, .int .i64 m, .int .i64 b, .fn (.func g) [] [], encS (obOf KF.length n cells)] =
  LRoF N N cells n a m b (IntKind.i64.wrap (m - a)) (IntKind.i64.wrap (b - m)) (IntKind.i64.wrap (m - a)) (IntKind.i64.wrap (b - m)) g
  tOutF : ∀ (cF : List PV -> List PV -> Int) (N q : Nat) (cells : List PV) (n : Nat) (a b a1 i : Int), LOutF cF N (q + 1) cells n a b a1 i =
  (bif decide (i < b) then LInF cF N q N cells n a b a1 i i
  else (ass (oldL 0 cells) <| some (PV.tup [PV.tup [], encS (obOf KF.length n cells)])))
  tInF : ∀ (cF : List PV -> List PV -> Int) (N m q : Nat) (cells : List PV) (n : Nat) (a b a1 i j : Int), LInF cF N m (q + 1) cells n a b a1 i j =
  (bif decide (j > a) then
    (ass (decide (0 <= j) && decide (j < (n : Int))) <|
    ass (n == n) <|
    ass (okAt KF cells (0 + j.toNat * KF.length)) <|
    oldLS 1 (shapeAt KF cells (0 + j.toNat * KF.length)) <|
    ass (decide (0 <= IntKind.i64.wrap (j - 1)) && decide (IntKind.i64.wrap (j - 1) < (n : Int))) <|
    ass (n == n) <|
    ass (okAt KF cells (0 + (IntKind.i64.wrap (j - 1)).toNat * KF.length)) <|
    oldLS 1 (shapeAt KF cells (0 + (IntKind.i64.wrap (j - 1)).toNat * KF.length)) <|
    oldLS 0 (shapeAt KF cells (0 + j.toNat * KF.length)) <|
    oldLS 0 (shapeAt KF cells (0 + (IntKind.i64.wrap (j - 1)).toNat * KF.length)) <|
    bif decide (cF (shapeAt KF cells (0 + j.toNat * KF.length)) (shapeAt KF cells (0 + (IntKind.i64.wrap (j - 1)).toNat * KF.length)) < 0) then
      (ass (decide (0 <= IntKind.i64.wrap (j - 1)) && decide (IntKind.i64.wrap (j - 1) < (n : Int))) <|
      ass (n == n) <|
      ass (okAt KF cells (0 + (IntKind.i64.wrap (j - 1)).toNat * KF.length)) <|
      oldLS 1 (shapeAt KF cells (0 + (IntKind.i64.wrap (j - 1)).toNat * KF.length)) <|
      ass (decide (0 <= j) && decide (j < (n : Int))) <|
      ass (n == n) <|
      ass (okAt KF cells (0 + j.toNat * KF.length)) <|
      oldLS 1 (shapeAt KF cells (0 + j.toNat * KF.length)) <|
      ass (decide (0 <= j) && decide (j < (n : Int))) <|
      ass (n == n && (KF.length == KF.length && (decide (0 + j.toNat * KF.length + KF.length <= cells.length) && (shapeAt KF cells (0 + (IntKind.i64.wrap (j - 1)).toNat * KF.length)).all PV.oneCell))) <|
      ass (decide (0 <= IntKind.i64.wrap (j - 1)) && decide (IntKind.i64.wrap (j - 1) < (n : Int))) <|
      ass (n == n && (KF.length == KF.length && (decide (0 + (IntKind.i64.wrap (j - 1)).toNat * KF.length + KF.length <= (splice cells (0 + j.toNat * KF.length) (shapeAt KF cells (0 + (IntKind.i64.wrap (j - 1)).toNat * KF.length))).length) && (shapeAt KF cells (0 + j.toNat * KF.length)).all PV.oneCell))) <|
      ass (oldL 0 (splice (splice cells (0 + j.toNat * KF.length) (shapeAt KF cells (0 + (IntKind.i64.wrap (j - 1)).toNat * KF.length))) (0 + (IntKind.i64.wrap (j - 1)).toNat * KF.length) (shapeAt KF cells (0 + j.toNat * KF.length)))) <|
      LInF cF N m q (splice (splice cells (0 + j.toNat * KF.length) (shapeAt KF cells (0 + (IntKind.i64.wrap (j - 1)).toNat * KF.length))) (0 + (IntKind.i64.wrap (j - 1)).toNat * KF.length) (shapeAt KF cells (0 + j.toNat * KF.length))) n a b a1 i (IntKind.i64.wrap (j - 1)))
    else
      (ass (oldL 0 cells) <| LOutF cF N m cells n a b a1 (IntKind.i64.wrap (i + 1))))
  else (ass (oldL 0 cells) <| LOutF cF N m cells n a b a1 (IntKind.i64.wrap (i + 1))))
  tIn0F : ∀ (cF : List PV -> List PV -> Int) (N : Nat) (cells : List PV) (n : Nat) (a b : Int), footSR EN (TCF cF) H0 N 5 fIn [.osl 0 n 0 KF.length n none, .int .i64 a, .int .i64 b, cmpF, encS (obOf KF.length n cells)] =
  LOutF cF N N cells n a b (IntKind.i64.wrap (a + 1)) (IntKind.i64.wrap (a + 1))
  t1F : ∀ (cF : List PV -> List PV -> Int) (ask : Nat -> Nat -> Nat -> List (List PV) -> Bool) (mg : Mg) (N q : Nat) (cells : List PV) (n : Nat) (a m b d i j : Int), L1F cF ask mg N (q + 1) cells n a m b d i j =
  (bif decide (i < j) then
    (ass (decide (0 <= mid i j) && decide (mid i j < (n : Int))) <|
    ass (n == n) <|
    ass (okAt KF cells (0 + (mid i j).toNat * KF.length)) <|
    oldLS 1 (shapeAt KF cells (0 + (mid i j).toNat * KF.length)) <|
    ass (decide (0 <= a) && decide (a < (n : Int))) <|
    ass (n == n) <|
    ass (okAt KF cells (0 + a.toNat * KF.length)) <|
    oldLS 1 (shapeAt KF cells (0 + a.toNat * KF.length)) <|
    oldLS 0 (shapeAt KF cells (0 + (mid i j).toNat * KF.length)) <|
    oldLS 0 (shapeAt KF cells (0 + a.toNat * KF.length)) <|
    bif decide (cF (shapeAt KF cells (0 + (mid i j).toNat * KF.length)) (shapeAt KF cells (0 + a.toNat * KF.length)) < 0) then
      (ass (oldL 0 cells) <| L1F cF ask mg N q cells n a m b d (IntKind.i64.wrap (mid i j + 1)) j)
    else
      (ass (oldL 0 cells) <| L1F cF ask mg N q cells n a m b d i (mid i j)))
  else L2F cF ask mg N N cells n a m b d i j a)
  t2F : ∀ (cF : List PV -> List PV -> Int) (ask : Nat -> Nat -> Nat -> List (List PV) -> Bool) (mg : Mg) (N q : Nat) (cells : List PV) (n : Nat) (a m b d i j k : Int), L2F cF ask mg N (q + 1) cells n a m b d i j k =
  (bif decide (k < IntKind.i64.wrap (i - 1)) then
    (ass (decide (0 <= IntKind.i64.wrap (k + 1)) && decide (IntKind.i64.wrap (k + 1) < (n : Int))) <|
    ass (n == n) <|
    ass (okAt KF cells (0 + (IntKind.i64.wrap (k + 1)).toNat * KF.length)) <|
    oldLS 1 (shapeAt KF cells (0 + (IntKind.i64.wrap (k + 1)).toNat * KF.length)) <|
    ass (decide (0 <= k) && decide (k < (n : Int))) <|
    ass (n == n) <|
    ass (okAt KF cells (0 + k.toNat * KF.length)) <|
    oldLS 1 (shapeAt KF cells (0 + k.toNat * KF.length)) <|
    ass (decide (0 <= k) && decide (k < (n : Int))) <|
    ass (n == n && (KF.length == KF.length && (decide (0 + k.toNat * KF.length + KF.length <= cells.length) && (shapeAt KF cells (0 + (IntKind.i64.wrap (k + 1)).toNat * KF.length)).all PV.oneCell))) <|
    ass (decide (0 <= IntKind.i64.wrap (k + 1)) && decide (IntKind.i64.wrap (k + 1) < (n : Int))) <|
    ass (n == n && (KF.length == KF.length && (decide (0 + (IntKind.i64.wrap (k + 1)).toNat * KF.length + KF.length <= (splice cells (0 + k.toNat * KF.length) (shapeAt KF cells (0 + (IntKind.i64.wrap (k + 1)).toNat * KF.length))).length) && (shapeAt KF cells (0 + k.toNat * KF.length)).all PV.oneCell))) <|
    ass (oldL 0 (splice (splice cells (0 + k.toNat * KF.length) (shapeAt KF cells (0 + (IntKind.i64.wrap (k + 1)).toNat * KF.length))) (0 + (IntKind.i64.wrap (k + 1)).toNat * KF.length) (shapeAt KF cells (0 + k.toNat * KF.length)))) <|
    L2F cF ask mg N q (splice (splice cells (0 + k.toNat * KF.length) (shapeAt KF cells (0 + (IntKind.i64.wrap (k + 1)).toNat * KF.length))) (0 + (IntKind.i64.wrap (k + 1)).toNat * KF.length) (shapeAt KF cells (0 + k.toNat * KF.length))) n a m b d i j (IntKind.i64.wrap (k + 1)))
  else (ass (oldL 0 cells) <| some (PV.tup [PV.tup [], encS (obOf KF.length n cells)])))
  t3F : ∀ (cF : List PV -> List PV -> Int) (ask : Nat -> Nat -> Nat -> List (List PV) -> Bool) (mg : Mg) (N q : Nat) (cells : List PV) (n : Nat) (a m b d d2 i j : Int), L3F cF ask mg N (q + 1) cells n a m b d d2 i j =
  (bif decide (i < j) then
    (ass (decide (0 <= m) && decide (m < (n : Int))) <|
    ass (n == n) <|
    ass (okAt KF cells (0 + m.toNat * KF.length)) <|
    oldLS 1 (shapeAt KF cells (0 + m.toNat * KF.length)) <|
    ass (decide (0 <= mid i j) && decide (mid i j < (n : Int))) <|
    ass (n == n) <|
    ass (okAt KF cells (0 + (mid i j).toNat * KF.length)) <|
    oldLS 1 (shapeAt KF cells (0 + (mid i j).toNat * KF.length)) <|
    oldLS 0 (shapeAt KF cells (0 + m.toNat * KF.length)) <|
    oldLS 0 (shapeAt KF cells (0 + (mid i j).toNat * KF.length)) <|
    bif !decide (cF (shapeAt KF cells (0 + m.toNat * KF.length)) (shapeAt KF cells (0 + (mid i j).toNat * KF.length)) < 0) then
      (ass (oldL 0 cells) <| L3F cF ask mg N q cells n a m b d d2 (IntKind.i64.wrap (mid i j + 1)) j)
    else
      (ass (oldL 0 cells) <| L3F cF ask mg N q cells n a m b d d2 i (mid i j)))
  else L4F cF ask mg N N cells n a m b d d2 i j m)
  t4F : ∀ (cF : List PV -> List PV -> Int) (ask : Nat -> Nat -> Nat -> List (List PV) -> Bool) (mg : Mg) (N q : Nat) (cells : List PV) (n : Nat) (a m b d d2 i j k : Int), L4F cF ask mg N (q + 1) cells n a m b d d2 i j k =
  (bif decide (k > i) then
    (ass (decide (0 <= IntKind.i64.wrap (k - 1)) && decide (IntKind.i64.wrap (k - 1) < (n : Int))) <|
    ass (n == n) <|
    ass (okAt KF cells (0 + (IntKind.i64.wrap (k - 1)).toNat * KF.length)) <|
    oldLS 1 (shapeAt KF cells (0 + (IntKind.i64.wrap (k - 1)).toNat * KF.length)) <|
    ass (decide (0 <= k) && decide (k < (n : Int))) <|
    ass (n == n) <|
    ass (okAt KF cells (0 + k.toNat * KF.length)) <|
    oldLS 1 (shapeAt KF cells (0 + k.toNat * KF.length)) <|
    ass (decide (0 <= k) && decide (k < (n : Int))) <|
    ass (n == n && (KF.length == KF.length && (decide (0 + k.toNat * KF.length + KF.length <= cells.length) && (shapeAt KF cells (0 + (IntKind.i64.wrap (k - 1)).toNat * KF.length)).all PV.oneCell))) <|
    ass (decide (0 <= IntKind.i64.wrap (k - 1)) && decide (IntKind.i64.wrap (k - 1) < (n : Int))) <|
    ass (n == n && (KF.length == KF.length && (decide (0 + (IntKind.i64.wrap (k - 1)).toNat * KF.length + KF.length <= (splice cells (0 + k.toNat * KF.length) (shapeAt KF cells (0 + (IntKind.i64.wrap (k - 1)).toNat * KF.length))).length) && (shapeAt KF cells (0 + k.toNat * KF.length)).all PV.oneCell))) <|
    ass (oldL 0 (splice (splice cells (0 + k.toNat * KF.length) (shapeAt KF cells (0 + (IntKind.i64.wrap (k - 1)).toNat * KF.length))) (0 + (IntKind.i64.wrap (k - 1)).toNat * KF.length) (shapeAt KF cells (0 + k.toNat * KF.length)))) <|
    L4F cF ask mg N q (splice (splice cells (0 + k.toNat * KF.length) (shapeAt KF cells (0 + (IntKind.i64.wrap (k - 1)).toNat * KF.length))) (0 + (IntKind.i64.wrap (k - 1)).toNat * KF.length) (shapeAt KF cells (0 + k.toNat * KF.length))) n a m b d d2 i j (IntKind.i64.wrap (k - 1)))
  else (ass (oldL 0 cells) <| some (PV.tup [PV.tup [], encS (obOf KF.length n cells)])))
  t5A : ∀ (st0 : Int) (cF : List PV -> List PV -> Int) (ask : Nat -> Nat -> Nat -> List (List PV) -> Bool) (mg : Mg) (N q : Nat) (cells : List PV) (n : Nat) (a m b d d2 md nn s1 u1 u2 p st r : Int), L5F [(140, .bool true), (141, vI nn), (142, vI b), (143, vI st0), (144, vI md)] cF ask mg N (q + 1) cells n a m b d d2 md nn s1 u1 u2 p st r = rnd5 cF n cells p st r (L5F [(140, .bool true), (141, vI nn), (142, vI b), (143, vI st0), (144, vI md)] cF ask mg N q cells n a m b d d2 md nn s1 u1 u2 p) (fun st => endE ask mg n a m b md (IntKind.i64.wrap (nn - st)) st cells)
  t5B : ∀ (cF : List PV -> List PV -> Int) (ask : Nat -> Nat -> Nat -> List (List PV) -> Bool) (mg : Mg) (N q : Nat) (cells : List PV) (n : Nat) (a m b d d2 md nn s1 u1 u2 p st r : Int), L5F [(140, .bool false), (145, vI a), (146, vI m)] cF ask mg N (q + 1) cells n a m b d d2 md nn s1 u1 u2 p st r = rnd5 cF n cells p st r (L5F [(140, .bool false), (145, vI a), (146, vI m)] cF ask mg N q cells n a m b d d2 md nn s1 u1 u2 p) (fun st => endE ask mg n a m b md (IntKind.i64.wrap (nn - st)) st cells)
  tSy0 : ∀ (cF : List PV -> List PV -> Int) (ask : Nat -> Nat -> Nat -> List (List PV) -> Bool) (mg : Mg) (N : Nat) (cells : List PV) (n : Nat) (a m b : Int), footSR EN (TSyF cF ask mg) H0 N 5 fSy [.osl 0 n 0 KF.length n none, .int .i64 a, .int .i64 m, .int .i64 b, cmpF, encS (obOf KF.length n cells)] =
  (bif IntKind.i64.wrap (m - a) == 1 then L1F cF ask mg N N cells n a m b (IntKind.i64.wrap (m - a)) m b
  else
    (bif IntKind.i64.wrap (b - m) == 1 then L3F cF ask mg N N cells n a m b (IntKind.i64.wrap (m - a)) (IntKind.i64.wrap (b - m)) a m
    else
      (bif decide (m > mid a b) then
        L5F [(140, .bool true), (141, vI (IntKind.i64.wrap (mid a b + m))), (142, vI b), (143, vI (IntKind.i64.wrap (IntKind.i64.wrap (mid a b + m) - b))), (144, vI (mid a b))] cF ask mg N N cells n a m b (IntKind.i64.wrap (m - a)) (IntKind.i64.wrap (b - m)) (mid a b) (IntKind.i64.wrap (mid a b + m)) (IntKind.i64.wrap (a + b)) (IntKind.u64.wrap (IntKind.i64.wrap (a + b))) ((IntKind.u64.wrap (IntKind.i64.wrap (a + b))).fdiv (2 ^ 1)) (IntKind.i64.wrap (IntKind.i64.wrap (mid a b + m) - 1)) (IntKind.i64.wrap (IntKind.i64.wrap (mid a b + m) - b)) (mid a b)
      else
        L5F [(140, .bool false), (145, vI a), (146, vI m)] cF ask mg N N cells n a m b (IntKind.i64.wrap (m - a)) (IntKind.i64.wrap (b - m)) (mid a b) (IntKind.i64.wrap (mid a b + m)) (IntKind.i64.wrap (a + b)) (IntKind.u64.wrap (IntKind.i64.wrap (a + b))) ((IntKind.u64.wrap (IntKind.i64.wrap (a + b))).fdiv (2 ^ 1)) (IntKind.i64.wrap (IntKind.i64.wrap (mid a b + m) - 1)) a m)))
  tSt0 : ∀ (cF : List PV -> List PV -> Int) (ask : Nat -> Nat -> Nat -> List (List PV) -> Bool) (mg : Mg) (N : Nat) (cells : List PV) (n : Nat), footSR EN (TStF cF ask mg) H0 N 5 fSt [.osl 0 n 0 KF.length n none, .int .i64 n, cmpF, encS (obOf KF.length n cells)] = M1F cF ask mg N N cells n 0 20
  tM1 : ∀ (cF : List PV -> List PV -> Int) (ask : Nat -> Nat -> Nat -> List (List PV) -> Bool) (mg : Mg) (N q : Nat) (cells : List PV) (n : Nat) (a b : Int), M1F cF ask mg N (q + 1) cells n a b =
  (bif decide (b <= (n : Int)) then
    (ass (oldL 0 cells) <|
    ass (n == n && (n == n && (rowsC KF n cells && (decide (0 <= a) && (decide (a <= b) && decide (b <= (n : Int))))))) <|
    ass (oldL 0 (insR (ltOf cF) a.toNat (a.toNat + 1) (b.toNat - (a.toNat + 1)) (chunks KF.length n cells)).flatten) <|
    ass (oldL 0 (insR (ltOf cF) a.toNat (a.toNat + 1) (b.toNat - (a.toNat + 1)) (chunks KF.length n cells)).flatten) <|
    M1F cF ask mg N q (insR (ltOf cF) a.toNat (a.toNat + 1) (b.toNat - (a.toNat + 1)) (chunks KF.length n cells)).flatten n b (IntKind.i64.wrap (b + 20)))
  else
    (ass (oldL 0 cells) <|
    ass (n == n && (n == n && (rowsC KF n cells && (decide (0 <= a) && (decide (a <= (n : Int)) && decide ((n : Int) <= (n : Int))))))) <|
    ass (oldL 0 (insR (ltOf cF) a.toNat (a.toNat + 1) (n - (a.toNat + 1)) (chunks KF.length n cells)).flatten) <|
    M2F cF ask mg N N (insR (ltOf cF) a.toNat (a.toNat + 1) (n - (a.toNat + 1)) (chunks KF.length n cells)).flatten n 20 a b a b))
  tM2 : ∀ (cF : List PV -> List PV -> Int) (ask : Nat -> Nat -> Nat -> List (List PV) -> Bool) (mg : Mg) (N q : Nat) (cells : List PV) (n : Nat) (bs a b a0 b0 : Int), M2F cF ask mg N (q + 1) cells n bs a b a0 b0 =
  (bif decide (bs < (n : Int)) then M3F cF ask mg N q N cells n bs 0 (IntKind.i64.wrap (2 * bs)) a0 b0
  else (ass (oldL 0 cells) <| some (PV.tup [PV.tup [], encS (obOf KF.length n cells)])))
  tM3 : ∀ (cF : List PV -> List PV -> Int) (ask : Nat -> Nat -> Nat -> List (List PV) -> Bool) (mg : Mg) (N q r : Nat) (cells : List PV) (n : Nat) (bs a b a0 b0 : Int), M3F cF ask mg N q (r + 1) cells n bs a b a0 b0 =
  (bif decide (b <= (n : Int)) then
    (ass (oldL 0 cells) <|
    ass (n == n && (n == n && (rowsC KF n cells && (decide (0 <= a) && (decide (a < IntKind.i64.wrap (a + bs)) && (decide (IntKind.i64.wrap (a + bs) < b) && (decide (b <= (n : Int)) && ask a.toNat (IntKind.i64.wrap (a + bs)).toNat b.toNat (chunks KF.length n cells)))))))) <|
    ass (oldL 0 (mg a.toNat (IntKind.i64.wrap (a + bs)).toNat b.toNat (chunks KF.length n cells)).flatten) <|
    ass (oldL 0 (mg a.toNat (IntKind.i64.wrap (a + bs)).toNat b.toNat (chunks KF.length n cells)).flatten) <|
    M3F cF ask mg N q r (mg a.toNat (IntKind.i64.wrap (a + bs)).toNat b.toNat (chunks KF.length n cells)).flatten n bs b (IntKind.i64.wrap (b + IntKind.i64.wrap (2 * bs))) a0 b0)
  else
    (bif decide (IntKind.i64.wrap (a + bs) < (n : Int)) then
      (ass (oldL 0 cells) <|
      ass (n == n && (n == n && (rowsC KF n cells && (decide (0 <= a) && (decide (a < IntKind.i64.wrap (a + bs)) && (decide (IntKind.i64.wrap (a + bs) < (n : Int)) && (decide ((n : Int) <= (n : Int)) && ask a.toNat (IntKind.i64.wrap (a + bs)).toNat n (chunks KF.length n cells)))))))) <|
      ass (oldL 0 (mg a.toNat (IntKind.i64.wrap (a + bs)).toNat n (chunks KF.length n cells)).flatten) <|
      ass (oldL 0 (mg a.toNat (IntKind.i64.wrap (a + bs)).toNat n (chunks KF.length n cells)).flatten) <|
      M2F cF ask mg N q (mg a.toNat (IntKind.i64.wrap (a + bs)).toNat n (chunks KF.length n cells)).flatten n (IntKind.i64.wrap (bs * 2)) a b a0 b0)
    else (ass (oldL 0 cells) <| M2F cF ask mg N q cells n (IntKind.i64.wrap (bs * 2)) a b a0 b0)))
  tSo0 : ∀ (cF : List PV -> List PV -> Int) (N : Nat) (cells : List PV) (n : Nat), footSR EN (TSt2F cF) H0 N 5 fSs [.osl 0 n 0 KF.length n none, cmpF, encS (obOf KF.length n cells)] =
  (ass (oldL 0 cells) <|
  ass (n == n && (n == n && (rowsC KF n cells && decide ((n : Int) = (n : Int))))) <|
  ass (oldL 0 (insAll (ltOf cF) (chunks KF.length n cells)).flatten) <|
  ass (oldL 0 (insAll (ltOf cF) (chunks KF.length n cells)).flatten) <|
  some (PV.tup [PV.tup [], encS (obOf KF.length n (insAll (ltOf cF) (chunks KF.length n cells)).flatten)]))
open SoH
variable [SoH]
theorem swF_loop (N n a b g : Nat) (hn : n <= 1048576) : ∀ (c i m : Nat) (R : List (List PV)), rowsOk KF R = true -> R.length = n -> a + i + c <= n -> b + i + c <= n ->
    LSwF N (m + c + 1) R.flatten n a b ((i + c : Nat) : Int) (i : Int) (.fn (.func g) [] []) = some (PV.tup [PV.tup [], encS (obOf KF.length n (swaps a b i c R).flatten)])
  | 0, i, m, R, hR, hl, h1, h2 => by
    rw [tSwF, show decide (((i : Nat) : Int) < ((i + 0 : Nat) : Int)) = false from by simp, cond_false, ass_of (rows_old hR)]
    rfl
  | c + 1, i, m, R, hR, hl, h1, h2 => by
    have hi : a + i < R.length := by omega
    have hj : b + i < R.length := by omega
    have ri := rowsOk_get hR (List.getElem_mem hi)
    have rj := rowsOk_get hR (List.getElem_mem hj)
    have e26 : (KF.length : Nat) = KF.length := rfl
    have hfl := rows_len hR
    have hl2 := rows_len (rowsOk_set hR (a + i) rj.1 rj.2)
    have bi : (a + i) * KF.length + KF.length <= R.length * KF.length := room KF.length (by omega)
    have bj : (b + i) * KF.length + KF.length <= R.length * KF.length := room KF.length (by omega)
    rw [show m + (c + 1) + 1 = (m + c + 1) + 1 from by omega, tSwF, show decide (((i : Nat) : Int) < ((i + (c + 1) : Nat) : Int)) = true from by simp; omega, cond_true, wrap_add (by omega : a + i < 9223372036854775808), wrap_add (by omega : b + i < 9223372036854775808), wrap_succ (by omega : i < 9223372036854775807)]
    simp only [Int.toNat_natCast]
    have hs2 := rows_splice (rowsOk_set hR (a + i) rj.1 rj.2) (j := b + i) (by simpa using hj) (wk_len ri.1)
    have hswp : swp R (a + i) (b + i) = (R.set (a + i) R[b + i]).set (b + i) R[a + i] := by unfold swp; rw [getD_at hi, getD_at hj]
    rw [e26]
    simp only [(rows_at hR hj).2, (rows_at hR hi).2, rows_splice hR hi (wk_len rj.1), hs2, hfl, hl2, wk_one ri.1, wk_one rj.1]
    rw [ass_of (inside (by omega)), ass_of (by simp), ass_of (rows_at hR hj).1, oldLS_row hR hj, ass_of (inside (by omega)), ass_of (by simp), ass_of (rows_at hR hi).1, oldLS_row hR hi, ass_of (inside (by omega)),
      ass_of (by rw [<- e26]; simp; omega), ass_of (inside (by omega)), ass_of (by rw [<- e26]; simp; omega), <- hswp, ass_of (rows_old (swp_ok hR hi hj))]
    have ih := swF_loop N n a b g hn c (i + 1) m (swp R (a + i) (b + i)) (swp_ok hR hi hj) (by rw [swp_len]; exact hl) (by omega) (by omega)
    rw [show i + 1 + c = i + (c + 1) from by omega] at ih
    exact ih
theorem runSwF (xs : List PV) (t : Tr) (v : PV) (h : gSwF xs = some t) (hv : t.val = some v) : ∃ H, footSR EN T0 H 1000009 5 fSw xs = some v := by
  refine ⟨H0, ?_⟩
  unfold gSwF at h
  split at h
  . rename_i d a b k g o
    split at h
    . rename_i n n1 n2 cells ho
      cases h
      obtain ⟨hc, rfl⟩ := leaf_val hv
      simp only [Bool.and_eq_true, decide_eq_true_eq] at hc
      obtain ⟨q1, q2, hr, c1, c2, c3, c4, c5⟩ := hc
      obtain ⟨rfl, rfl⟩ := obIn_ok ho q1 q2
      obtain ⟨r1, r2, r3, r4⟩ := rowsC_ok hr
      obtain ⟨a, rfl⟩ := Int.eq_ofNat_of_zero_le c1
      obtain ⟨b, rfl⟩ := Int.eq_ofNat_of_zero_le c2
      obtain ⟨k, rfl⟩ := Int.eq_ofNat_of_zero_le c3
      have := swF_loop 1000009 n a b g (by omega) k 0 (1000008 - k) _ r2 r4 (by omega) (by omega)
      rw [r3, show 1000008 - k + k + 1 = 1000009 from by omega, Nat.zero_add] at this
      exact (tSwF0 1000009 cells n a b k g).trans this
    . cases h
  . cases h
theorem roF_loop (N n m g : Nat) (a b i0 j0 : Int) (hn : n <= 1000000) : ∀ (f i j q : Nat) (R : List (List PV)), rowsOk KF R = true -> R.length = n -> 0 < i -> 0 < j -> i <= m -> m + j <= n -> i + j <= f ->
    LRoF N (q + f) R.flatten n a (m : Int) b i0 j0 (i : Int) (j : Int) g = some (PV.tup [PV.tup [], encS (obOf KF.length n (rots m f i j R).flatten)])
  | 0, i, j, q, R, hR, hl, hi, hj, him, hjn, hf => by omega
  | f + 1, i, j, q, R, hR, hl, hi, hj, him, hjn, hf => by
    have hch : chunks KF.length n R.flatten = R := by subst hl; exact chunks_of (K := KF) hR
    rw [show q + (f + 1) = q + f + 1 from by omega, tRoF, wrap_sub him (by omega : m < 9223372036854775808), hch, rots]
    by_cases e : i = j
    . subst e
      have hs : rowsOk KF (swaps (m - i) m 0 i R) = true := swaps_ok (m - i) m i 0 hR (by omega) (by omega)
      rw [show ((i : Int) != (i : Int)) = false from by simp, cond_false, if_pos rfl]
      simp only [Int.toNat_natCast]
      rw [ass_of (rows_old hR), ass_of (asked3 hR hl hn (by omega) (by omega) (by omega) (by omega) (by omega)), ass_of (rows_old hs), ass_of (rows_old hs)]
    . rw [show ((i : Int) != (j : Int)) = true from by simp; omega, cond_true, if_neg e]
      by_cases h2 : j < i
      . have hs : rowsOk KF (swaps (m - i) m 0 j R) = true := swaps_ok (m - i) m j 0 hR (by omega) (by omega)
        rw [show decide ((i : Int) > (j : Int)) = true from by simp; omega, cond_true, if_pos h2, wrap_sub (Nat.le_of_lt h2) (by omega)]
        simp only [Int.toNat_natCast]
        rw [ass_of (rows_old hR), ass_of (asked3 hR hl hn (by omega) (by omega) (by omega) (by omega) (by omega)), ass_of (rows_old hs), ass_of (rows_old hs)]
        exact roF_loop N n m g a b i0 j0 hn f (i - j) j q _ hs (by rw [swaps_len]; exact hl) (by omega) hj (by omega) hjn (by omega)
      . have hs : rowsOk KF (swaps (m - i) (m + j - i) 0 i R) = true := swaps_ok (m - i) (m + j - i) i 0 hR (by omega) (by omega)
        rw [show decide ((i : Int) > (j : Int)) = false from by simp; omega, cond_false, if_neg h2, wrap_add (by omega : m + j < 9223372036854775808), wrap_sub (by omega : i <= m + j) (by omega), wrap_sub (by omega : i <= j) (by omega)]
        simp only [Int.toNat_natCast]
        rw [ass_of (rows_old hR), ass_of (asked3 hR hl hn (by omega) (by omega) (by omega) (by omega) (by omega)), ass_of (rows_old hs), ass_of (rows_old hs)]
        exact roF_loop N n m g a b i0 j0 hn f i (j - i) q _ hs (by rw [swaps_len]; exact hl) hi (by omega) him (by omega) (by omega)
theorem runRoF (xs : List PV) (t : Tr) (v : PV) (h : gRoF xs = some t) (hv : t.val = some v) : ∃ H, footSR EN TSwF H 1000009 5 fRo xs = some v := by
  refine ⟨H0, ?_⟩
  unfold gRoF at h
  split at h
  . rename_i d a m b g o
    split at h
    . rename_i n n1 n2 cells ho
      cases h
      obtain ⟨hc, rfl⟩ := leaf_val hv
      simp only [Bool.and_eq_true, decide_eq_true_eq] at hc
      obtain ⟨q1, q2, hr, c1, c2, c3, c4⟩ := hc
      obtain ⟨rfl, rfl⟩ := obIn_ok ho q1 q2
      obtain ⟨r1, r2, r3, r4⟩ := rowsC_ok hr
      obtain ⟨a, rfl⟩ := Int.eq_ofNat_of_zero_le c1
      obtain ⟨m, rfl⟩ := Int.eq_ofNat_of_zero_le (show 0 <= m by omega)
      obtain ⟨b, rfl⟩ := Int.eq_ofNat_of_zero_le (show 0 <= b by omega)
      have := roF_loop 1000009 n m g a b (m - a : Nat) (b - m : Nat) r1 1000009 (m - a) (b - m) 0 _ r2 r4 (by omega) (by omega) (by omega) (by omega) (by omega)
      rw [r3, Nat.zero_add] at this
      refine (tRoF0 1000009 cells n a m b g).trans ?_
      rw [wrap_sub (by omega : a <= m) (by omega), wrap_sub (by omega : m <= b) (by omega), this]
      unfold partAns
      rw [show ((m : Int) - (a : Int)).toNat = m - a from by omega, show ((b : Int) - (m : Int)).toNat = b - m from by omega]
      rfl
    . cases h
  . cases h
theorem inF_loop (cF : List PV -> List PV -> Int) (N m n a : Nat) (b a1 : Int) (i : Nat) (hn : n <= 1000000) (hi : i < 9223372036854775807) : ∀ (j q : Nat) (R : List (List PV)), rowsOk KF R = true -> R.length = n -> j < n ->
    LInF cF N m (q + j + 1) R.flatten n (a : Int) b a1 (i : Int) (j : Int) = LOutF cF N m (insB (ltOf cF) a j R).flatten n (a : Int) b a1 ((i + 1 : Nat) : Int)
  | 0, q, R, hR, hl, hj => by
    rw [tInF, show decide (((0 : Nat) : Int) > (a : Int)) = false from by simp, cond_false, ass_of (rows_old hR), wrap_succ hi]
    rfl
  | j + 1, q, R, hR, hl, hj => by
    rw [show q + (j + 1) + 1 = (q + j + 1) + 1 from by omega, tInF, wrap_succ hi, insB]
    have hj1 : j + 1 < R.length := by omega
    have hj0 : j < R.length := by omega
    by_cases ha : a < j + 1
    . have r1 := rowsOk_get hR (List.getElem_mem hj1)
      have r0 := rowsOk_get hR (List.getElem_mem hj0)
      have e26 : (KF.length : Nat) = KF.length := rfl
      have hfl := rows_len hR
      have hl2 := rows_len (rowsOk_set hR (j + 1) r0.1 r0.2)
      have b1 : (j + 1) * KF.length + KF.length <= R.length * KF.length := room KF.length (by omega)
      have b0 : j * KF.length + KF.length <= R.length * KF.length := room KF.length (by omega)
      have hs2 := rows_splice (rowsOk_set hR (j + 1) r0.1 r0.2) (j := j) (by simpa using hj0) (wk_len r1.1)
      have hswp : swp R (j + 1) j = (R.set (j + 1) R[j]).set j R[j + 1] := by unfold swp; rw [getD_at hj1, getD_at hj0]
      rw [show decide (((j + 1 : Nat) : Int) > (a : Int)) = true from by simp; omega, cond_true, show ((j + 1 : Nat) : Int) - 1 = (j : Int) from by omega, wrap_nat (by omega : j < 9223372036854775808), getD_at hj1, getD_at hj0]
      simp only [Int.toNat_natCast]
      rw [e26]
      simp only [(rows_at hR hj1).2, (rows_at hR hj0).2, rows_splice hR hj1 (wk_len r0.1), hs2, hfl, hl2, wk_one r1.1, wk_one r0.1]
      rw [ass_of (inside (by omega)), ass_of (by simp), ass_of (rows_at hR hj1).1, oldLS_row hR hj1, ass_of (inside (by omega)), ass_of (by simp), ass_of (rows_at hR hj0).1, oldLS_row hR hj0, oldLS_row hR hj1, oldLS_row hR hj0]
      by_cases hc : cF R[j + 1] R[j] < 0
      . rw [show decide (cF R[j + 1] R[j] < 0) = true from by simpa using hc, cond_true, if_pos ⟨ha, by unfold ltOf; simpa using hc⟩,
          ass_of (inside (by omega)), ass_of (by simp), ass_of (rows_at hR hj0).1, oldLS_row hR hj0, ass_of (inside (by omega)), ass_of (by simp), ass_of (rows_at hR hj1).1, oldLS_row hR hj1, ass_of (inside (by omega)),
          ass_of (by rw [<- e26]; simp; omega), ass_of (inside (by omega)), ass_of (by rw [<- e26]; simp; omega), <- hswp, ass_of (rows_old (swp_ok hR hj1 hj0))]
        exact inF_loop cF N m n a b a1 i hn hi j q _ (swp_ok hR hj1 hj0) (by rw [swp_len]; exact hl) (by omega)
      . rw [show decide (cF R[j + 1] R[j] < 0) = false from by simpa using hc, cond_false, if_neg (by unfold ltOf; simp; omega), ass_of (rows_old hR)]
    . rw [show decide (((j + 1 : Nat) : Int) > (a : Int)) = false from by simp; omega, cond_false, if_neg (by omega), ass_of (rows_old hR)]
theorem outF_loop (cF : List PV -> List PV -> Int) (N n a b : Nat) (a1 : Int) (hn : n <= 1000000) (hN : n < N) : ∀ (c i m : Nat) (R : List (List PV)), rowsOk KF R = true -> R.length = n -> i + c = b -> b <= n ->
    LOutF cF N (m + c + 1) R.flatten n (a : Int) (b : Int) a1 (i : Int) = some (PV.tup [PV.tup [], encS (obOf KF.length n (insR (ltOf cF) a i c R).flatten)])
  | 0, i, m, R, hR, hl, hb, hbn => by
    rw [tOutF, show decide ((i : Int) < (b : Int)) = false from by simp; omega, cond_false, ass_of (rows_old hR)]
    rfl
  | c + 1, i, m, R, hR, hl, hb, hbn => by
    have hin := inF_loop cF N (m + c + 1) n a (b : Int) a1 i hn (by omega) i (N - i - 1) R hR hl (by omega)
    rw [show N - i - 1 + i + 1 = N from by omega] at hin
    rw [show m + (c + 1) + 1 = (m + c + 1) + 1 from by omega, tOutF, show decide ((i : Int) < (b : Int)) = true from by simp; omega, cond_true, hin]
    exact outF_loop cF N n a b a1 hn hN c (i + 1) m _ (insB_ok _ _ _ hR (by omega)) (by rw [insB_len]; exact hl) (by omega) hbn
theorem runInF (cF : List PV -> List PV -> Int) (xs : List PV) (t : Tr) (v : PV) (h : gInF cF xs = some t) (hv : t.val = some v) : ∃ H, footSR EN (TCF cF) H 1000009 5 fIn xs = some v := by
  refine ⟨H0, ?_⟩
  unfold gInF at h
  split at h
  . rename_i d a b q o
    split at h
    . rename_i n n1 n2 cells ho
      cases h
      obtain ⟨hc, rfl⟩ := leaf_val hv
      simp only [Bool.and_eq_true, decide_eq_true_eq] at hc
      obtain ⟨hq, q1, q2, hr, c1, c2, c3⟩ := hc
      obtain rfl := Nat.eq_of_beq_eq_true hq
      obtain ⟨rfl, rfl⟩ := obIn_ok ho q1 q2
      obtain ⟨r1, r2, r3, r4⟩ := rowsC_ok hr
      obtain ⟨a, rfl⟩ := Int.eq_ofNat_of_zero_le c1
      obtain ⟨b, rfl⟩ := Int.eq_ofNat_of_zero_le (show 0 <= b by omega)
      refine (tIn0F cF 1000009 cells n a b).trans ?_
      rw [wrap_succ (by omega : a < 9223372036854775807)]
      unfold partAns
      simp only [Int.toNat_natCast]
      by_cases hab : a + 1 <= b
      . have := outF_loop cF 1000009 n a b ((a + 1 : Nat) : Int) r1 (by omega) (b - (a + 1)) (a + 1) (1000008 - (b - (a + 1))) _ r2 r4 (by omega) (by omega)
        rw [r3, show 1000008 - (b - (a + 1)) + (b - (a + 1)) + 1 = 1000009 from by omega] at this
        exact this
      . have e : b - (a + 1) = 0 := by omega
        rw [e, show (1000009 : Nat) = 1000008 + 1 from rfl, tOutF, show decide (((a + 1 : Nat) : Int) < (b : Int)) = false from by simp; omega, cond_false]
        have ho := rows_old r2
        rw [r3] at ho
        rw [ass_of ho]
        rw [show insR (ltOf cF) a (a + 1) 0 (chunks KF.length n cells) = chunks KF.length n cells from rfl, r3]
    . cases h
  . cases h
theorem l1_loop (cF : List PV -> List PV -> Int) (ask : Nat -> Nat -> Nat -> List (List PV) -> Bool) (mg : Mg) (N n a : Nat) (m b d : Int) (R : List (List PV)) (hR : rowsOk KF R = true) (hl : R.length = n) (hn : n <= 1000000) (ha : a < n) : ∀ (f i j q : Nat), i <= j -> j <= n -> j - i <= f ->
    ∃ r : Nat, r = bsearch (fun h => ltOf cF (R.getD h []) (R.getD a [])) f i j /\ L1F cF ask mg N (q + f + 1) R.flatten n (a : Int) m b d (i : Int) (j : Int) = L2F cF ask mg N N R.flatten n (a : Int) m b d (r : Int) (r : Int) (a : Int)
  | 0, i, j, q, h1, h2, h3 => by
    have : i = j := by omega
    subst this
    refine ⟨i, rfl, ?_⟩
    rw [t1F, show decide ((i : Int) < (i : Int)) = false from by simp, cond_false]
  | f + 1, i, j, q, h1, h2, h3 => by
    rw [show q + (f + 1) + 1 = (q + f + 1) + 1 from by omega, t1F, bsearch]
    by_cases hij : i < j
    . have hh : (i + j) / 2 < R.length := by omega
      have ha' : a < R.length := by omega
      have e26 : (KF.length : Nat) = KF.length := rfl
      rw [show decide ((i : Int) < (j : Int)) = true from by simpa using hij, cond_true, if_pos hij, mid_nat (by omega : i + j < 9223372036854775808), wrap_succ (by omega : (i + j) / 2 < 9223372036854775807)]
      have p1 : R.getD ((i + j) / 2) [] = R[(i + j) / 2] := getD_at hh
      have p2 : R.getD a [] = R[a] := getD_at ha'
      simp only [Int.toNat_natCast]
      rw [e26]
      simp only [(rows_at hR hh).2, (rows_at hR ha').2]
      rw [ass_of (inside (by omega)), ass_of (by simp), ass_of (rows_at hR hh).1, oldLS_row hR hh, ass_of (inside (by omega)), ass_of (by simp), ass_of (rows_at hR ha').1, oldLS_row hR ha', oldLS_row hR hh, oldLS_row hR ha']
      by_cases hc : cF R[(i + j) / 2] R[a] < 0
      . rw [show decide (cF R[(i + j) / 2] R[a] < 0) = true from by simpa using hc, cond_true, if_pos (by rw [p1, p2]; unfold ltOf; simpa using hc), ass_of (rows_old hR)]
        exact l1_loop cF ask mg N n a m b d R hR hl hn ha f ((i + j) / 2 + 1) j q (by omega) h2 (by omega)
      . rw [show decide (cF R[(i + j) / 2] R[a] < 0) = false from by simpa using hc, cond_false, if_neg (by rw [p1, p2]; unfold ltOf; simp; omega), ass_of (rows_old hR)]
        exact l1_loop cF ask mg N n a m b d R hR hl hn ha f i ((i + j) / 2) q (by omega) (by omega) (by omega)
    . have : i = j := by omega
      subst this
      refine ⟨i, by rw [if_neg hij], ?_⟩
      rw [show decide ((i : Int) < (i : Int)) = false from by simp, cond_false]
theorem l2_loop (cF : List PV -> List PV -> Int) (ask : Nat -> Nat -> Nat -> List (List PV) -> Bool) (mg : Mg) (N n a r : Nat) (m b d : Int) (hn : n <= 1000000) (hr : r <= n) : ∀ (c i q : Nat) (R : List (List PV)), rowsOk KF R = true -> R.length = n -> a + i + c + 1 = r ->
    L2F cF ask mg N (q + c + 1) R.flatten n (a : Int) m b d (r : Int) (r : Int) ((a + i : Nat) : Int) = some (PV.tup [PV.tup [], encS (obOf KF.length n (swaps a (a + 1) i c R).flatten)])
  | 0, i, q, R, hR, hl, h1 => by
    rw [t2F, show ((r : Int) - 1) = ((r - 1 : Nat) : Int) from by omega, wrap_nat (by omega : r - 1 < 9223372036854775808), show decide (((a + i : Nat) : Int) < ((r - 1 : Nat) : Int)) = false from by simp; omega, cond_false, ass_of (rows_old hR)]
    rfl
  | c + 1, i, q, R, hR, hl, h1 => by
    have hi : a + i < R.length := by omega
    have hj : a + 1 + i < R.length := by omega
    have ri := rowsOk_get hR (List.getElem_mem hi)
    have rj := rowsOk_get hR (List.getElem_mem hj)
    have e26 : (KF.length : Nat) = KF.length := rfl
    have hfl := rows_len hR
    have hl2 := rows_len (rowsOk_set hR (a + i) rj.1 rj.2)
    have bi : (a + i) * KF.length + KF.length <= R.length * KF.length := room KF.length (by omega)
    have bj : (a + 1 + i) * KF.length + KF.length <= R.length * KF.length := room KF.length (by omega)
    have hs2 := rows_splice (rowsOk_set hR (a + i) rj.1 rj.2) (j := a + 1 + i) (by simpa using hj) (wk_len ri.1)
    have hswp : swp R (a + i) (a + 1 + i) = (R.set (a + i) R[a + 1 + i]).set (a + 1 + i) R[a + i] := by unfold swp; rw [getD_at hi, getD_at hj]
    rw [show q + (c + 1) + 1 = (q + c + 1) + 1 from by omega, t2F, show ((r : Int) - 1) = ((r - 1 : Nat) : Int) from by omega, wrap_nat (by omega : r - 1 < 9223372036854775808), show decide (((a + i : Nat) : Int) < ((r - 1 : Nat) : Int)) = true from by simp; omega, cond_true, wrap_succ (by omega : a + i < 9223372036854775807), show a + i + 1 = a + 1 + i from by omega]
    simp only [Int.toNat_natCast]
    rw [e26]
    simp only [(rows_at hR hj).2, (rows_at hR hi).2, rows_splice hR hi (wk_len rj.1), hs2, hfl, hl2, wk_one ri.1, wk_one rj.1]
    rw [ass_of (inside (by omega)), ass_of (by simp), ass_of (rows_at hR hj).1, oldLS_row hR hj, ass_of (inside (by omega)), ass_of (by simp), ass_of (rows_at hR hi).1, oldLS_row hR hi, ass_of (inside (by omega)),
      ass_of (by rw [<- e26]; simp; omega), ass_of (inside (by omega)), ass_of (by rw [<- e26]; simp; omega), <- hswp, ass_of (rows_old (swp_ok hR hi hj))]
    have ih := l2_loop cF ask mg N n a r m b d hn hr c (i + 1) q (swp R (a + i) (a + 1 + i)) (swp_ok hR hi hj) (by rw [swp_len]; exact hl) (by omega)
    rw [show a + (i + 1) = a + 1 + i from by omega] at ih
    exact ih
theorem l3_loop (cF : List PV -> List PV -> Int) (ask : Nat -> Nat -> Nat -> List (List PV) -> Bool) (mg : Mg) (N n m : Nat) (a b d d2 : Int) (R : List (List PV)) (hR : rowsOk KF R = true) (hl : R.length = n) (hn : n <= 1000000) (hm : m < n) : ∀ (f i j q : Nat), i <= j -> j <= n -> j - i <= f ->
    ∃ r : Nat, r = bsearch (fun h => !ltOf cF (R.getD m []) (R.getD h [])) f i j /\ L3F cF ask mg N (q + f + 1) R.flatten n a (m : Int) b d d2 (i : Int) (j : Int) = L4F cF ask mg N N R.flatten n a (m : Int) b d d2 (r : Int) (r : Int) (m : Int)
  | 0, i, j, q, h1, h2, h3 => by
    have : i = j := by omega
    subst this
    refine ⟨i, rfl, ?_⟩
    rw [t3F, show decide ((i : Int) < (i : Int)) = false from by simp, cond_false]
  | f + 1, i, j, q, h1, h2, h3 => by
    rw [show q + (f + 1) + 1 = (q + f + 1) + 1 from by omega, t3F, bsearch]
    by_cases hij : i < j
    . have hh : (i + j) / 2 < R.length := by omega
      have hm' : m < R.length := by omega
      have e26 : (KF.length : Nat) = KF.length := rfl
      rw [show decide ((i : Int) < (j : Int)) = true from by simpa using hij, cond_true, if_pos hij, mid_nat (by omega : i + j < 9223372036854775808), wrap_succ (by omega : (i + j) / 2 < 9223372036854775807)]
      have p1 : R.getD ((i + j) / 2) [] = R[(i + j) / 2] := getD_at hh
      have p2 : R.getD m [] = R[m] := getD_at hm'
      simp only [Int.toNat_natCast]
      rw [e26]
      simp only [(rows_at hR hh).2, (rows_at hR hm').2]
      rw [ass_of (inside (by omega)), ass_of (by simp), ass_of (rows_at hR hm').1, oldLS_row hR hm', ass_of (inside (by omega)), ass_of (by simp), ass_of (rows_at hR hh).1, oldLS_row hR hh, oldLS_row hR hm', oldLS_row hR hh]
      by_cases hc : cF R[m] R[(i + j) / 2] < 0
      . rw [show decide (cF R[m] R[(i + j) / 2] < 0) = true from by simpa using hc, show (!true) = false from rfl, cond_false, if_neg (by rw [p1, p2]; unfold ltOf; simpa using hc), ass_of (rows_old hR)]
        exact l3_loop cF ask mg N n m a b d d2 R hR hl hn hm f i ((i + j) / 2) q (by omega) (by omega) (by omega)
      . rw [show decide (cF R[m] R[(i + j) / 2] < 0) = false from by simpa using hc, show (!false) = true from rfl, cond_true, if_pos (by rw [p1, p2]; unfold ltOf; simpa using hc), ass_of (rows_old hR)]
        exact l3_loop cF ask mg N n m a b d d2 R hR hl hn hm f ((i + j) / 2 + 1) j q (by omega) h2 (by omega)
    . have : i = j := by omega
      subst this
      refine ⟨i, by rw [if_neg hij], ?_⟩
      rw [show decide ((i : Int) < (i : Int)) = false from by simp, cond_false]
theorem l4_loop (cF : List PV -> List PV -> Int) (ask : Nat -> Nat -> Nat -> List (List PV) -> Bool) (mg : Mg) (N n r : Nat) (a m b d d2 : Int) (hn : n <= 1000000) : ∀ (k q : Nat) (R : List (List PV)), rowsOk KF R = true -> R.length = n -> k < n ->
    L4F cF ask mg N (q + k + 1) R.flatten n a m b d d2 (r : Int) (r : Int) (k : Int) = some (PV.tup [PV.tup [], encS (obOf KF.length n (downs r k R).flatten)])
  | 0, q, R, hR, hl, h1 => by
    rw [t4F, show decide (((0 : Nat) : Int) > (r : Int)) = false from by simp, cond_false, ass_of (rows_old hR)]
    rfl
  | k + 1, q, R, hR, hl, h1 => by
    rw [show q + (k + 1) + 1 = (q + k + 1) + 1 from by omega, t4F, downs]
    have hj1 : k + 1 < R.length := by omega
    have hj0 : k < R.length := by omega
    by_cases ha : r < k + 1
    . have r1 := rowsOk_get hR (List.getElem_mem hj1)
      have r0 := rowsOk_get hR (List.getElem_mem hj0)
      have e26 : (KF.length : Nat) = KF.length := rfl
      have hfl := rows_len hR
      have hl2 := rows_len (rowsOk_set hR (k + 1) r0.1 r0.2)
      have b1 : (k + 1) * KF.length + KF.length <= R.length * KF.length := room KF.length (by omega)
      have b0 : k * KF.length + KF.length <= R.length * KF.length := room KF.length (by omega)
      have hs2 := rows_splice (rowsOk_set hR (k + 1) r0.1 r0.2) (j := k) (by simpa using hj0) (wk_len r1.1)
      have hswp : swp R (k + 1) k = (R.set (k + 1) R[k]).set k R[k + 1] := by unfold swp; rw [getD_at hj1, getD_at hj0]
      rw [show decide (((k + 1 : Nat) : Int) > (r : Int)) = true from by simp; omega, cond_true, if_pos ha, show ((k + 1 : Nat) : Int) - 1 = (k : Int) from by omega, wrap_nat (by omega : k < 9223372036854775808)]
      simp only [Int.toNat_natCast]
      rw [e26]
      simp only [(rows_at hR hj1).2, (rows_at hR hj0).2, rows_splice hR hj1 (wk_len r0.1), hs2, hfl, hl2, wk_one r1.1, wk_one r0.1]
      rw [ass_of (inside (by omega)), ass_of (by simp), ass_of (rows_at hR hj0).1, oldLS_row hR hj0, ass_of (inside (by omega)), ass_of (by simp), ass_of (rows_at hR hj1).1, oldLS_row hR hj1, ass_of (inside (by omega)),
        ass_of (by rw [<- e26]; simp; omega), ass_of (inside (by omega)), ass_of (by rw [<- e26]; simp; omega), <- hswp, ass_of (rows_old (swp_ok hR hj1 hj0))]
      exact l4_loop cF ask mg N n r a m b d d2 hn k q _ (swp_ok hR hj1 hj0) (by rw [swp_len]; exact hl) (by omega)
    . rw [show decide (((k + 1 : Nat) : Int) > (r : Int)) = false from by simp; omega, cond_false, if_neg ha, ass_of (rows_old hR)]
theorem rotE_ok {n x y z : Nat} {A X Y C : List (List PV)} (hR : rowsOk KF (A ++ (X ++ (Y ++ C))) = true) (hl : (A ++ (X ++ (Y ++ C))).length = n) (hn : n <= 1000000) (hx : A.length = x) (hy : x + X.length = y) (hz : y + Y.length = z) (k : List PV -> Option PV) :
    rotE n (x : Int) (y : Int) (z : Int) (A ++ (X ++ (Y ++ C))).flatten k = k (A ++ (Y ++ (X ++ C))).flatten := by
  have hch : chunks KF.length n (A ++ (X ++ (Y ++ C))).flatten = A ++ (X ++ (Y ++ C)) := by rw [<- hl]; exact chunks_of (K := KF) hR
  have hll : (A ++ (X ++ (Y ++ C))).length = z + C.length := by simp only [List.length_append]; omega
  unfold rotE
  by_cases h1 : x < y
  . by_cases h2 : y < z
    . have hr := rots_blocks y 1000009 (y - x) (z - y) A X Y C (by omega) (by omega) (by omega) (by omega) (by omega) (by omega)
      have hR2 : rowsOk KF (A ++ (Y ++ (X ++ C))) = true := rowsOk_mem hR (fun r hr => by simp only [List.mem_append] at hr ⊢; rcases hr with h | h | h | h <;> simp [h])
      rw [show decide ((x : Int) < (y : Int)) = true from by simpa using h1, show decide ((y : Int) < (z : Int)) = true from by simpa using h2, cond_true, cond_true, hch, show ((y : Int) - (x : Int)).toNat = y - x from by omega, show ((z : Int) - (y : Int)).toNat = z - y from by omega]
      simp only [Int.toNat_natCast]
      rw [hr, ass_of (rows_old hR), ass_of (by
        have := rowsC_of hR (by omega)
        rw [hl] at this
        rw [this]
        simp only [beq_self_eq_true, Bool.true_and, Bool.and_eq_true, decide_eq_true_eq]
        omega), ass_of (rows_old hR2)]
    . have : Y = [] := List.eq_nil_of_length_eq_zero (by omega)
      subst this
      rw [show decide ((x : Int) < (y : Int)) = true from by simpa using h1, show decide ((y : Int) < (z : Int)) = false from by simp; omega, cond_true, cond_false]
      rfl
  . have : X = [] := List.eq_nil_of_length_eq_zero (by omega)
    subst this
    rw [show decide ((x : Int) < (y : Int)) = false from by simp; omega, cond_false]
    rfl
theorem symE_ok {lt : List PV -> List PV -> Bool} {s n x y z : Nat} {A X Y C : List (List PV)} (hR : rowsOk KF (A ++ (X ++ (Y ++ C))) = true) (hl : (A ++ (X ++ (Y ++ C))).length = n) (hn : n <= 1000000) (hx : A.length = x) (hy : x + X.length = y) (hz : y + Y.length = z) (hs : z - x <= 2 ^ s) (sx : Sorted lt X) (sy : Sorted lt Y) (k : List PV -> Option PV) :
    symE (askB lt s) (mgOf lt) n (x : Int) (y : Int) (z : Int) (A ++ (X ++ (Y ++ C))).flatten k = k (A ++ (mrg lt X Y ++ C)).flatten := by
  have hch : chunks KF.length n (A ++ (X ++ (Y ++ C))).flatten = A ++ (X ++ (Y ++ C)) := by rw [<- hl]; exact chunks_of (K := KF) hR
  have hll : (A ++ (X ++ (Y ++ C))).length = z + C.length := by simp only [List.length_append]; omega
  unfold symE
  by_cases h1 : x < y
  . by_cases h2 : y < z
    . have hR2 : rowsOk KF (A ++ (mrg lt X Y ++ C)) = true := rowsOk_mem hR (fun r hr => by simp only [List.mem_append, mem_mrg] at hr ⊢; rcases hr with h | (h | h) | h <;> simp [h])
      rw [show decide ((x : Int) < (y : Int)) = true from by simpa using h1, show decide ((y : Int) < (z : Int)) = true from by simpa using h2, cond_true, cond_true, hch]
      simp only [Int.toNat_natCast]
      rw [mgOf_blocks lt A X Y C hx hy hz, ass_of (rows_old hR), ass_of (by
        have := rowsC_of hR (by omega)
        rw [hl] at this
        rw [this, askB_of hx hy hz hs sx sy]
        simp only [beq_self_eq_true, Bool.true_and, Bool.and_true, Bool.and_eq_true, decide_eq_true_eq]
        omega), ass_of (rows_old hR2)]
    . have : Y = [] := List.eq_nil_of_length_eq_zero (by omega)
      subst this
      rw [show decide ((x : Int) < (y : Int)) = true from by simpa using h1, show decide ((y : Int) < (z : Int)) = false from by simp; omega, cond_true, cond_false, mrg_nil_right]
      rfl
  . have : X = [] := List.eq_nil_of_length_eq_zero (by omega)
    subst this
    rw [show decide ((x : Int) < (y : Int)) = false from by simp; omega, cond_false, mrg_nil_left]
    rfl
theorem l5_loop (cF : List PV -> List PV -> Int) (n P : Nat) (R : List (List PV)) (hR : rowsOk KF R = true) (hl : R.length = n) (hn : n <= 1000000) (L : Nat -> Int -> Int -> Option PV) (e : Int -> Option PV) (ht : ∀ q st r, L (q + 1) st r = rnd5 cF n R.flatten (P : Int) st r (L q) e) : ∀ (f i j q : Nat), i <= j -> j <= n -> j <= P + 1 -> P < n + i -> j - i <= f ->
    ∃ r : Nat, r = bsearch (fun h => !ltOf cF (R.getD (P - h) []) (R.getD h [])) f i j /\ L (q + f + 1) (i : Int) (j : Int) = e (r : Int)
  | 0, i, j, q, h1, h2, h4, h5, h3 => by
    have : i = j := by omega
    subst this
    refine ⟨i, rfl, ?_⟩
    rw [ht]
    unfold rnd5
    rw [show decide ((i : Int) < (i : Int)) = false from by simp, cond_false]
  | f + 1, i, j, q, h1, h2, h4, h5, h3 => by
    rw [show q + (f + 1) + 1 = (q + f + 1) + 1 from by omega, ht, bsearch]
    by_cases hij : i < j
    . unfold rnd5
      have hh : (i + j) / 2 < R.length := by omega
      have hm' : P - (i + j) / 2 < R.length := by omega
      have e26 : (KF.length : Nat) = KF.length := rfl
      rw [show decide ((i : Int) < (j : Int)) = true from by simpa using hij, cond_true, if_pos hij, mid_nat (by omega : i + j < 9223372036854775808), wrap_succ (by omega : (i + j) / 2 < 9223372036854775807), wrap_sub (by omega : (i + j) / 2 <= P) (by omega)]
      have p1 : R.getD ((i + j) / 2) [] = R[(i + j) / 2] := getD_at hh
      have p2 : R.getD (P - (i + j) / 2) [] = R[P - (i + j) / 2] := getD_at hm'
      simp only [Int.toNat_natCast]
      rw [e26]
      simp only [(rows_at hR hh).2, (rows_at hR hm').2]
      rw [ass_of (inside (by omega)), ass_of (by simp), ass_of (rows_at hR hm').1, oldLS_row hR hm', ass_of (inside (by omega)), ass_of (by simp), ass_of (rows_at hR hh).1, oldLS_row hR hh, oldLS_row hR hm', oldLS_row hR hh]
      by_cases hc : cF R[P - (i + j) / 2] R[(i + j) / 2] < 0
      . rw [show decide (cF R[P - (i + j) / 2] R[(i + j) / 2] < 0) = true from by simpa using hc, show (!true) = false from rfl, cond_false, if_neg (by rw [p1, p2]; unfold ltOf; simpa using hc), ass_of (rows_old hR)]
        exact l5_loop cF n P R hR hl hn L e ht f i ((i + j) / 2) q (by omega) (by omega) (by omega) (by omega) (by omega)
      . rw [show decide (cF R[P - (i + j) / 2] R[(i + j) / 2] < 0) = false from by simpa using hc, show (!false) = true from rfl, cond_true, if_pos (by rw [p1, p2]; unfold ltOf; simpa using hc), ass_of (rows_old hR)]
        exact l5_loop cF n P R hR hl hn L e ht f ((i + j) / 2 + 1) j q (by omega) h2 (by omega) (by omega) (by omega)
    . have : i = j := by omega
      subst this
      refine ⟨i, by rw [if_neg hij], ?_⟩
      unfold rnd5
      rw [show decide ((i : Int) < (i : Int)) = false from by simp, cond_false]
theorem endE_ok {cF : List PV -> List PV -> Int} (h : Ord (ltOf cF)) {s n a m b md r : Nat} {A X Y C : List (List PV)} (hR : rowsOk KF (A ++ (X ++ (Y ++ C))) = true) (hl : (A ++ (X ++ (Y ++ C))).length = n) (hn : n <= 1000000) (ha : A.length = a) (hm : a + X.length = m) (hb : m + Y.length = b) (hs : b - a <= 2 ^ (s + 1)) (sx : Sorted (ltOf cF) X) (sy : Sorted (ltOf cF) Y) (hmd : md = (a + b) / 2)
    (hr : a <= r /\ r <= m /\ m <= md + m - r /\ md + m - r <= b /\ r <= md /\ mrg (ltOf cF) X Y = mrg (ltOf cF) (X.take (r - a)) (Y.take (md - r)) ++ mrg (ltOf cF) (X.drop (r - a)) (Y.drop (md - r))) :
    endE (askB (ltOf cF) s) (mgOf (ltOf cF)) n (a : Int) (m : Int) (b : Int) (md : Int) ((md + m - r : Nat) : Int) (r : Int) (A ++ (X ++ (Y ++ C))).flatten = some (PV.tup [PV.tup [], encS (obOf KF.length n (A ++ (mrg (ltOf cF) X Y ++ C)).flatten)]) := by
  obtain ⟨r1, r2, r3, r4, r5, r6⟩ := hr
  rw [r6]
  have hX := (List.take_append_drop (r - a) X).symm
  have hY := (List.take_append_drop (md - r) Y).symm
  have l1 : (X.take (r - a)).length = r - a := by rw [List.length_take]; omega
  have l2 : (X.drop (r - a)).length = m - r := by rw [List.length_drop]; omega
  have l3 : (Y.take (md - r)).length = md - r := by rw [List.length_take]; omega
  have l4 : (Y.drop (md - r)).length = b - (md + m - r) := by rw [List.length_drop]; omega
  have s1 := srt_take sx (r - a)
  have s2 := srt_drop sx (r - a)
  have s3 := srt_take sy (md - r)
  have s4 := srt_drop sy (md - r)
  revert hX hY l1 l2 l3 l4 s1 s2 s3 s4
  generalize X.take (r - a) = X1
  generalize X.drop (r - a) = X2
  generalize Y.take (md - r) = Y1
  generalize Y.drop (md - r) = Y2
  intro hX hY l1 l2 l3 l4 s1 s2 s3 s4
  subst hX hY
  have hp : 2 ^ (s + 1) = 2 * 2 ^ s := by rw [Nat.pow_succ, Nat.mul_comm]
  simp only [List.length_append] at hm hb hl
  have q1 : rowsOk KF ((A ++ X1) ++ (X2 ++ (Y1 ++ (Y2 ++ C)))) = true := rowsOk_mem hR (fun r hr => by simp only [List.mem_append] at hr ⊢; rcases hr with (h | h) | h | h | h | h <;> simp [h])
  have q2 : rowsOk KF (A ++ (X1 ++ (Y1 ++ (X2 ++ (Y2 ++ C))))) = true := rowsOk_mem hR (fun r hr => by simp only [List.mem_append] at hr ⊢; rcases hr with h | h | h | h | h | h <;> simp [h])
  have q3 : rowsOk KF ((A ++ mrg (ltOf cF) X1 Y1) ++ (X2 ++ (Y2 ++ C))) = true := rowsOk_mem hR (fun r hr => by simp only [List.mem_append, mem_mrg] at hr ⊢; rcases hr with (h | h | h) | h | h | h <;> simp [h])
  have q4 : rowsOk KF (A ++ ((mrg (ltOf cF) X1 Y1 ++ mrg (ltOf cF) X2 Y2) ++ C)) = true := rowsOk_mem hR (fun r hr => by simp only [List.mem_append, mem_mrg] at hr ⊢; rcases hr with h | ((h | h) | h | h) | h <;> simp [h])
  unfold endE
  have e1 : A ++ (X1 ++ X2 ++ (Y1 ++ Y2 ++ C)) = (A ++ X1) ++ (X2 ++ (Y1 ++ (Y2 ++ C))) := by simp only [List.append_assoc]
  rw [e1, rotE_ok q1 (by simp only [List.length_append]; omega) hn (x := r) (by rw [List.length_append]; omega) (by omega) (by omega)]
  have e2 : (A ++ X1) ++ (Y1 ++ (X2 ++ (Y2 ++ C))) = A ++ (X1 ++ (Y1 ++ (X2 ++ (Y2 ++ C)))) := by simp only [List.append_assoc]
  rw [e2, symE_ok q2 (by simp only [List.length_append]; omega) hn ha (by omega) (by omega) (by omega) s1 s3]
  have e3 : A ++ (mrg (ltOf cF) X1 Y1 ++ (X2 ++ (Y2 ++ C))) = (A ++ mrg (ltOf cF) X1 Y1) ++ (X2 ++ (Y2 ++ C)) := by simp only [List.append_assoc]
  rw [e3, symE_ok q3 (by simp only [List.length_append, mrg_len]; omega) hn (by rw [List.length_append, mrg_len]; omega) (by omega) (by omega) (by omega) s2 s4]
  have e4 : A ++ mrg (ltOf cF) X1 Y1 ++ (mrg (ltOf cF) X2 Y2 ++ C) = A ++ ((mrg (ltOf cF) X1 Y1 ++ mrg (ltOf cF) X2 Y2) ++ C) := by simp only [List.append_assoc]
  rw [e4, ass_of (rows_old q4)]
theorem runSyF {cF : List PV -> List PV -> Int} (h : Ord (ltOf cF)) (s : Nat) (xs : List PV) (t : Tr) (v : PV) (hg : gSyF (askB (ltOf cF) (s + 1)) (mgOf (ltOf cF)) xs = some t) (hv : t.val = some v) : ∃ H, footSR EN (TSyF cF (askB (ltOf cF) s) (mgOf (ltOf cF))) H 1000009 5 fSy xs = some v := by
  refine ⟨H0, ?_⟩
  unfold gSyF at hg
  split at hg
  . rename_i d a m b q o
    split at hg
    . rename_i n n1 n2 cells ho
      cases hg
      obtain ⟨hc, rfl⟩ := leaf_val hv
      simp only [Bool.and_eq_true, decide_eq_true_eq] at hc
      obtain ⟨hq, q1, q2, hr, c1, c2, c3, c4, c5⟩ := hc
      obtain rfl := Nat.eq_of_beq_eq_true hq
      obtain ⟨rfl, rfl⟩ := obIn_ok ho q1 q2
      obtain ⟨r1, r2, r3, r4⟩ := rowsC_ok hr
      obtain ⟨a, rfl⟩ := Int.eq_ofNat_of_zero_le c1
      obtain ⟨m, rfl⟩ := Int.eq_ofNat_of_zero_le (show 0 <= m by omega)
      obtain ⟨b, rfl⟩ := Int.eq_ofNat_of_zero_le (show 0 <= b by omega)
      refine (tSy0 cF _ _ 1000009 cells n a m b).trans ?_
      unfold partAns
      simp only [Int.toNat_natCast] at c5 ⊢
      rw [show (KF.length : Nat) = KF.length from rfl] at c5
      revert c5 r2 r3 r4
      generalize chunks KF.length n cells = R
      intro r2 r3 r4 c5
      subst r3
      obtain ⟨A, X, Y, C, rfl, ha, hm, hb, hX, hY⟩ := blocks_of R (a := a) (m := m) (b := b) (by omega) (by omega) (by omega)
      unfold askB at c5
      rw [<- hX, <- hY] at c5
      simp only [Bool.and_eq_true, decide_eq_true_eq] at c5
      obtain ⟨hs, sx, sy⟩ := c5
      have sx := srt_of sx
      have sy := srt_of sy
      rw [mgOf_blocks _ A X Y C ha hm hb, wrap_sub (by omega : a <= m) (by omega), wrap_sub (by omega : m <= b) (by omega)]
      clear hX hY hv hr q1 q2 ho
      have hll : (A ++ (X ++ (Y ++ C))).length = b + C.length := by simp only [List.length_append]; omega
      by_cases hx1 : m - a = 1
      . obtain ⟨x, rfl⟩ : ∃ x, X = [x] := by
          cases X with
          | nil => simp at hm; omega
          | cons x X => exact ⟨x, by rw [List.eq_nil_of_length_eq_zero (show X.length = 0 from by simp at hm; omega)]⟩
        rw [show (((m - a : Nat) : Int) == 1) = true from by simp; omega, cond_true]
        have ham : m = a + 1 := by omega
        obtain ⟨r, hrb, hl⟩ := l1_loop cF (askB (ltOf cF) s) (mgOf (ltOf cF)) 1000009 n a m b ((m - a : Nat) : Int) (A ++ ([x] ++ (Y ++ C))) r2 r4 r1 (by omega) (b - m) m b (1000008 - (b - m)) (by omega) (by omega) (Nat.le_refl _)
        rw [show 1000008 - (b - m) + (b - m) + 1 = 1000009 from by omega] at hl
        have gx : (A ++ ([x] ++ (Y ++ C))).getD a [] = x := by
          have := blk_X A [x] (Y ++ C) ([] : List PV) (i := 0) (by simp)
          rw [ha] at this
          exact this
        have gy : ∀ i, m <= i -> i < b -> (A ++ ([x] ++ (Y ++ C))).getD i [] = Y.getD (i - m) [] := fun i h1 h2 => by
          have := blk_X (A ++ [x]) Y C ([] : List PV) (i := i - m) (by omega)
          rw [List.length_append, List.length_singleton, show A.length + 1 + (i - m) = i from by omega, List.append_assoc] at this
          exact this
        obtain ⟨k1, k2, k3, k4⟩ := bsearch_ok (fun h => ltOf cF ((A ++ ([x] ++ (Y ++ C))).getD h []) ((A ++ ([x] ++ (Y ++ C))).getD a [])) m b (fun i j h1 h2 h3 h4 => by
          rw [gx, gy _ h1 (by omega)]
          rw [gx, gy _ (by omega) h3] at h4
          exact h.lt_of_le_lt (srt_getD h sy [] (by omega) (by omega)) h4) (b - m) m b (Nat.le_refl _) (by omega) (Nat.le_refl _) (Nat.le_refl _) (fun i h1 h2 => by omega) (fun i h1 h2 => by omega)
        rw [<- hrb] at k1 k2 k3 k4
        have hl2 := l2_loop cF (askB (ltOf cF) s) (mgOf (ltOf cF)) 1000009 n a r (m : Int) (b : Int) ((m - a : Nat) : Int) r1 (by omega) (r - m) 0 (1000008 - (r - m)) _ r2 r4 (by omega)
        rw [show 1000008 - (r - m) + (r - m) + 1 = 1000009 from by omega, Nat.add_zero] at hl2
        rw [hl, hl2]
        have hYs := (List.take_append_drop (r - m) Y).symm
        have lt1 : (Y.take (r - m)).length = r - m := by rw [List.length_take]; omega
        have mo := mrg_one h x (Y.take (r - m)) (Y.drop (r - m)) (fun y hy => by
          obtain ⟨i, i1, i2, rfl⟩ := mem_take_getD ([] : List PV) hy
          have := k3 (i + m) (by omega) (by omega)
          rw [gx, gy _ (by omega) (by omega), Nat.add_sub_cancel] at this
          exact this) (fun y hy => by
          obtain ⟨i, i1, i2, rfl⟩ := mem_drop_getD ([] : List PV) hy
          have := k4 (i + m) (by omega) (by omega)
          rw [gx, gy _ (by omega) (by omega), Nat.add_sub_cancel] at this
          exact this)
        rw [List.take_append_drop] at mo
        rw [mo]
        have su := swaps_up a (Y.take (r - m)) 0 A (Y.drop (r - m) ++ C) x (by omega)
        rw [lt1, <- List.append_assoc (Y.take (r - m)), List.take_append_drop] at su
        rw [show A ++ ([x] ++ (Y ++ C)) = A ++ (x :: (Y ++ C)) from rfl, su]
        simp only [List.append_assoc, List.cons_append]
      . rw [show (((m - a : Nat) : Int) == 1) = false from by simp; omega, cond_false]
        by_cases hy1 : b - m = 1
        . obtain ⟨y, rfl⟩ : ∃ y, Y = [y] := by
            cases Y with
            | nil => simp at hb; omega
            | cons y Y => exact ⟨y, by rw [List.eq_nil_of_length_eq_zero (show Y.length = 0 from by simp at hb; omega)]⟩
          rw [show (((b - m : Nat) : Int) == 1) = true from by simp; omega, cond_true]
          obtain ⟨r, hrb, hl⟩ := l3_loop cF (askB (ltOf cF) s) (mgOf (ltOf cF)) 1000009 n m a b ((m - a : Nat) : Int) ((b - m : Nat) : Int) (A ++ (X ++ ([y] ++ C))) r2 r4 r1 (by omega) (m - a) a m (1000008 - (m - a)) (by omega) (by omega) (Nat.le_refl _)
          rw [show 1000008 - (m - a) + (m - a) + 1 = 1000009 from by omega] at hl
          have gy : (A ++ (X ++ ([y] ++ C))).getD m [] = y := by
            have := blk_X (A ++ X) [y] C ([] : List PV) (i := 0) (by simp)
            rw [List.length_append, show A.length + X.length + 0 = m from by omega, List.append_assoc] at this
            exact this
          have gx : ∀ i, a <= i -> i < m -> (A ++ (X ++ ([y] ++ C))).getD i [] = X.getD (i - a) [] := fun i h1 h2 => by
            have := blk_X A X ([y] ++ C) ([] : List PV) (i := i - a) (by omega)
            rw [show A.length + (i - a) = i from by omega] at this
            exact this
          obtain ⟨k1, k2, k3, k4⟩ := bsearch_ok (fun h => !ltOf cF ((A ++ (X ++ ([y] ++ C))).getD m []) ((A ++ (X ++ ([y] ++ C))).getD h [])) a m (fun i j h1 h2 h3 h4 => by
            rw [gy, gx _ h1 (by omega)]
            rw [gy, gx _ (by omega) h3] at h4
            have h4 : ltOf cF y (X.getD (j - a) []) = false := by simpa using h4
            rw [h.trans _ _ _ (srt_getD h sx [] (i := i - a) (j := j - a) (by omega) (by omega)) h4]
            rfl) (m - a) a m (Nat.le_refl _) (by omega) (Nat.le_refl _) (Nat.le_refl _) (fun i h1 h2 => by omega) (fun i h1 h2 => by omega)
          rw [<- hrb] at k1 k2 k3 k4
          have hl2 := l4_loop cF (askB (ltOf cF) s) (mgOf (ltOf cF)) 1000009 n r (a : Int) (m : Int) (b : Int) ((m - a : Nat) : Int) ((b - m : Nat) : Int) r1 m (1000008 - m) _ r2 r4 (by omega)
          rw [show 1000008 - m + m + 1 = 1000009 from by omega] at hl2
          rw [hl, hl2]
          have lt1 : (X.take (r - a)).length = r - a := by rw [List.length_take]; omega
          have lt2 : (X.drop (r - a)).length = m - r := by rw [List.length_drop]; omega
          have mo := one_mrg h y (X.take (r - a)) (X.drop (r - a)) (fun x hx => by
            obtain ⟨i, i1, i2, rfl⟩ := mem_take_getD ([] : List PV) hx
            have := k3 (i + a) (by omega) (by omega)
            rw [gy, gx _ (by omega) (by omega), Nat.add_sub_cancel] at this
            simpa using this) (fun x hx => by
            obtain ⟨i, i1, i2, rfl⟩ := mem_drop_getD ([] : List PV) hx
            have := k4 (i + a) (by omega) (by omega)
            rw [gy, gx _ (by omega) (by omega), Nat.add_sub_cancel] at this
            simpa using this)
          rw [List.take_append_drop] at mo
          rw [mo]
          have su := downs_blocks (m - r) (A ++ X.take (r - a)) (X.drop (r - a)) C y lt2
          rw [List.length_append, lt1, show A.length + (r - a) = r from by omega, lt2, show r + (m - r) = m from by omega, List.append_assoc, <- List.append_assoc (X.take (r - a)), List.take_append_drop] at su
          rw [show A ++ (X ++ ([y] ++ C)) = A ++ (X ++ (y :: C)) from rfl, su]
          simp only [List.append_assoc, List.cons_append]
        . rw [show (((b - m : Nat) : Int) == 1) = false from by simp; omega, cond_false, mid_nat (by omega : a + b < 9223372036854775808), wrap_add (by omega : (a + b) / 2 + m < 9223372036854775808), show (((a + b) / 2 + m : Nat) : Int) - 1 = (((a + b) / 2 + m - 1 : Nat) : Int) from by omega, wrap_nat (by omega : (a + b) / 2 + m - 1 < 9223372036854775808)]
          by_cases hmm : (a + b) / 2 < m
          . rw [show decide ((m : Int) > (((a + b) / 2 : Nat) : Int)) = true from by simp; omega, cond_true, wrap_sub (by omega : b <= (a + b) / 2 + m) (by omega)]
            obtain ⟨r, hrb, hl⟩ := l5_loop cF n ((a + b) / 2 + m - 1) _ r2 r4 r1 (fun q => L5F [(140, .bool true), (141, vI (((a + b) / 2 + m : Nat) : Int)), (142, vI (b : Int)), (143, vI (((a + b) / 2 + m - b : Nat) : Int)), (144, vI (((a + b) / 2 : Nat) : Int))] cF (askB (ltOf cF) s) (mgOf (ltOf cF)) 1000009 q (A ++ (X ++ (Y ++ C))).flatten n (a : Int) (m : Int) (b : Int) ((m - a : Nat) : Int) ((b - m : Nat) : Int) (((a + b) / 2 : Nat) : Int) (((a + b) / 2 + m : Nat) : Int) (IntKind.i64.wrap ((a : Int) + (b : Int))) (IntKind.u64.wrap (IntKind.i64.wrap ((a : Int) + (b : Int)))) ((IntKind.u64.wrap (IntKind.i64.wrap ((a : Int) + (b : Int)))).fdiv (2 ^ 1)) (((a + b) / 2 + m - 1 : Nat) : Int)) _
              (fun q st r => t5A _ cF _ _ 1000009 q _ n _ _ _ _ _ _ _ _ _ _ _ st r) ((a + b) / 2 - ((a + b) / 2 + m - b)) ((a + b) / 2 + m - b) ((a + b) / 2) (1000008 - ((a + b) / 2 - ((a + b) / 2 + m - b))) (by omega) (by omega) (by omega) (by omega) (Nat.le_refl _)
            rw [show 1000008 - ((a + b) / 2 - ((a + b) / 2 + m - b)) + ((a + b) / 2 - ((a + b) / 2 + m - b)) + 1 = 1000009 from by omega] at hl
            have ms := main_split h ([] : List PV) A X Y C sx sy a m b _ _ _ _ ha hm hb rfl (by omega) (by omega) (Or.inl ⟨hmm, rfl, rfl⟩) r (Nat.le_refl _) hrb
            refine hl.trans ?_
            have he := endE_ok h r2 r4 r1 ha hm hb hs sx sy rfl ms
            rw [<- wrap_sub (by omega : r <= (a + b) / 2 + m) (by omega)] at he
            exact he
          . rw [show decide ((m : Int) > (((a + b) / 2 : Nat) : Int)) = false from by simp; omega, cond_false]
            obtain ⟨r, hrb, hl⟩ := l5_loop cF n ((a + b) / 2 + m - 1) _ r2 r4 r1 (fun q => L5F [(140, .bool false), (145, vI (a : Int)), (146, vI (m : Int))] cF (askB (ltOf cF) s) (mgOf (ltOf cF)) 1000009 q (A ++ (X ++ (Y ++ C))).flatten n (a : Int) (m : Int) (b : Int) ((m - a : Nat) : Int) ((b - m : Nat) : Int) (((a + b) / 2 : Nat) : Int) (((a + b) / 2 + m : Nat) : Int) (IntKind.i64.wrap ((a : Int) + (b : Int))) (IntKind.u64.wrap (IntKind.i64.wrap ((a : Int) + (b : Int)))) ((IntKind.u64.wrap (IntKind.i64.wrap ((a : Int) + (b : Int)))).fdiv (2 ^ 1)) (((a + b) / 2 + m - 1 : Nat) : Int)) _
              (fun q st r => t5B cF _ _ 1000009 q _ n _ _ _ _ _ _ _ _ _ _ _ st r) (m - a) a m (1000008 - (m - a)) (by omega) (by omega) (by omega) (by omega) (Nat.le_refl _)
            rw [show 1000008 - (m - a) + (m - a) + 1 = 1000009 from by omega] at hl
            have ms := main_split h ([] : List PV) A X Y C sx sy a m b _ _ _ _ ha hm hb rfl (by omega) (by omega) (Or.inr ⟨by omega, rfl, rfl⟩) r (Nat.le_refl _) hrb
            refine hl.trans ?_
            have he := endE_ok h r2 r4 r1 ha hm hb hs sx sy rfl ms
            rw [<- wrap_sub (by omega : r <= (a + b) / 2 + m) (by omega)] at he
            exact he
    . cases hg
  . cases hg
theorem asked2 {K : List Kd} {R : List (List PV)} {n : Nat} (hR : rowsOk K R = true) (hl : R.length = n) (hn : n <= 1000000) {x y : Int} (h1 : 0 <= x) (h2 : x <= y) (h3 : y <= (n : Int)) :
    (n == n && (n == n && (rowsC K n R.flatten && (decide (0 <= x) && (decide (x <= y) && decide (y <= (n : Int))))))) = true := by
  subst hl
  rw [rowsC_of hR hn]
  simp only [beq_self_eq_true, Bool.true_and, Bool.and_eq_true, decide_eq_true_eq]
  exact ⟨h1, h2, h3⟩
theorem asked4 {K : List Kd} {R : List (List PV)} {n : Nat} (hR : rowsOk K R = true) (hl : R.length = n) (hn : n <= 1000000) {x y z : Int} {b : Bool} (h1 : 0 <= x) (h2 : x < y) (h3 : y < z) (h4 : z <= (n : Int)) (h5 : b = true) :
    (n == n && (n == n && (rowsC K n R.flatten && (decide (0 <= x) && (decide (x < y) && (decide (y < z) && (decide (z <= (n : Int)) && b))))))) = true := by
  subst hl
  rw [rowsC_of hR hn, h5]
  simp only [beq_self_eq_true, Bool.true_and, Bool.and_true, Bool.and_eq_true, decide_eq_true_eq]
  exact ⟨h1, h2, h3, h4⟩
theorem m1_loop (cF : List PV -> List PV -> Int) (ask : Nat -> Nat -> Nat -> List (List PV) -> Bool) (mg : Mg) (N n : Nat) (hn : n <= 1000000) : ∀ (f q : Nat) (P T : List (List PV)), rowsOk KF (P ++ T) = true -> (P ++ T).length = n -> T.length <= f ->
    ∃ a0 b0 : Int, M1F cF ask mg N (q + f + 1) (P ++ T).flatten n (P.length : Int) ((P.length + 20 : Nat) : Int) = M2F cF ask mg N N (P ++ blk (ltOf cF) 20 T).flatten n 20 a0 b0 a0 b0 := by
  intro f
  induction f with
  | zero =>
    intro q P T hR hl hf
    refine ⟨(P.length : Int), ((P.length + 20 : Nat) : Int), ?_⟩
    have hch : chunks KF.length n (P ++ T).flatten = P ++ T := by rw [<- hl]; exact chunks_of (K := KF) hR
    have hT : T = [] := List.eq_nil_of_length_eq_zero (by omega)
    have hip := insR_part (ltOf cF) P T []
    rw [List.append_nil, List.append_nil] at hip
    rw [List.length_append] at hl
    have hw : n - (P.length + 1) = T.length - 1 := by omega
    have hR2 : rowsOk KF (P ++ insAll (ltOf cF) T) = true := rowsOk_mem hR (fun r hr => by simp only [List.mem_append, mem_insAll] at hr ⊢; exact hr)
    rw [tM1, cond_f (show decide (((P.length + 20 : Nat) : Int) <= (n : Int)) = false from by simp; omega), hch]
    simp only [Int.toNat_natCast]
    rw [hw, hip, ass_of (rows_old hR), ass_of (asked2 hR (by rw [List.length_append]; omega) hn (by omega) (by omega) (by omega)), ass_of (rows_old hR2), blk_short _ (by omega) (by omega)]
  | succ f ih =>
    intro q P T hR hl hf
    have hch : chunks KF.length n (P ++ T).flatten = P ++ T := by rw [<- hl]; exact chunks_of (K := KF) hR
    rw [List.length_append] at hl
    by_cases hb : P.length + 20 <= n
    . have lt1 : (T.take 20).length = 20 := by rw [List.length_take]; omega
      have hTs := (List.take_append_drop 20 T).symm
      have hip := insR_part (ltOf cF) P (T.take 20) (T.drop 20)
      rw [<- hTs, lt1] at hip
      have hR2 : rowsOk KF ((P ++ insAll (ltOf cF) (T.take 20)) ++ T.drop 20) = true := rowsOk_mem hR (fun r hr => by
        simp only [List.mem_append, mem_insAll] at hr ⊢
        rcases hr with (h | h) | h
        . exact Or.inl h
        . exact Or.inr (List.mem_of_mem_take h)
        . exact Or.inr (List.mem_of_mem_drop h))
      have hl2 : ((P ++ insAll (ltOf cF) (T.take 20)) ++ T.drop 20).length = n := by simp only [List.length_append, insAll_len, List.length_take, List.length_drop]; omega
      obtain ⟨a0, b0, hI⟩ := ih q (P ++ insAll (ltOf cF) (T.take 20)) (T.drop 20) hR2 hl2 (by rw [List.length_drop]; omega)
      refine ⟨a0, b0, ?_⟩
      rw [show q + (f + 1) + 1 = (q + f + 1) + 1 from by omega, tM1, cond_t (show decide (((P.length + 20 : Nat) : Int) <= (n : Int)) = true from by simp; omega), hch]
      simp only [Int.toNat_natCast]
      rw [show P.length + 20 - (P.length + 1) = 20 - 1 from by omega, hip, <- List.append_assoc, ass_of (rows_old hR), ass_of (asked2 hR (by rw [List.length_append]; omega) hn (by omega) (by omega) (by omega)), ass_of (rows_old hR2), ass_of (rows_old hR2)]
      rw [List.length_append, insAll_len, lt1] at hI
      rw [show ((P.length + 20 : Nat) : Int) + 20 = ((P.length + 20 + 20 : Nat) : Int) from by omega, wrap_nat (by omega : P.length + 20 + 20 < 9223372036854775808), hI, blk_step _ (by omega) T, List.append_assoc]
    . refine ⟨(P.length : Int), ((P.length + 20 : Nat) : Int), ?_⟩
      have hip := insR_part (ltOf cF) P T []
      rw [List.append_nil, List.append_nil] at hip
      have hw : n - (P.length + 1) = T.length - 1 := by omega
      have hR2 : rowsOk KF (P ++ insAll (ltOf cF) T) = true := rowsOk_mem hR (fun r hr => by simp only [List.mem_append, mem_insAll] at hr ⊢; exact hr)
      rw [tM1, cond_f (show decide (((P.length + 20 : Nat) : Int) <= (n : Int)) = false from by simp; omega), hch]
      simp only [Int.toNat_natCast]
      rw [hw, hip, ass_of (rows_old hR), ass_of (asked2 hR (by rw [List.length_append]; omega) hn (by omega) (by omega) (by omega)), ass_of (rows_old hR2), blk_short _ (by omega) (by omega)]
theorem m3_loop {cF : List PV -> List PV -> Int} (h : Ord (ltOf cF)) (N n q bs : Nat) (a0 b0 : Int) (hn : n <= 1000000) (hbs : 0 < bs) (hb2 : bs < n) : ∀ (f r : Nat) (P T : List (List PV)), rowsOk KF (P ++ T) = true -> (P ++ T).length = n -> T.length <= f ->
    ∃ a b : Int, M3F cF (askB (ltOf cF) 20) (mgOf (ltOf cF)) N q (r + f + 1) (P ++ blk (ltOf cF) bs T).flatten n (bs : Int) (P.length : Int) ((P.length + 2 * bs : Nat) : Int) a0 b0 = M2F cF (askB (ltOf cF) 20) (mgOf (ltOf cF)) N q (P ++ blk (ltOf cF) (2 * bs) T).flatten n ((2 * bs : Nat) : Int) a b a0 b0 := by
  intro f
  have last : ∀ (r : Nat) (P T : List (List PV)), rowsOk KF (P ++ T) = true -> (P ++ T).length = n -> T.length < 2 * bs ->
      ∃ a b : Int, M3F cF (askB (ltOf cF) 20) (mgOf (ltOf cF)) N q (r + 1) (P ++ blk (ltOf cF) bs T).flatten n (bs : Int) (P.length : Int) ((P.length + 2 * bs : Nat) : Int) a0 b0 = M2F cF (askB (ltOf cF) 20) (mgOf (ltOf cF)) N q (P ++ blk (ltOf cF) (2 * bs) T).flatten n ((2 * bs : Nat) : Int) a b a0 b0 := by
    intro r P T hR hl hT
    refine ⟨(P.length : Int), ((P.length + 2 * bs : Nat) : Int), ?_⟩
    have hl' := hl
    rw [List.length_append] at hl
    have hB : rowsOk KF (P ++ blk (ltOf cF) bs T) = true := rowsOk_mem hR (fun r hr => by
      simp only [List.mem_append] at hr ⊢
      rcases hr with h | h
      . exact Or.inl h
      . exact Or.inr (mem_blk _ hbs r _ T (Nat.le_refl _) h))
    have hBl : (P ++ blk (ltOf cF) bs T).length = n := by rw [List.length_append, blk_len _ hbs _ _ (Nat.le_refl _)]; exact hl
    have hch : chunks KF.length n (P ++ blk (ltOf cF) bs T).flatten = P ++ blk (ltOf cF) bs T := by rw [<- hBl]; exact chunks_of (K := KF) hB
    rw [tM3, cond_f (show decide (((P.length + 2 * bs : Nat) : Int) <= (n : Int)) = false from by simp; omega), wrap_add (by omega : P.length + bs < 9223372036854775808), show (bs : Int) * 2 = ((2 * bs : Nat) : Int) from by omega, wrap_nat (by omega : 2 * bs < 9223372036854775808), hch]
    simp only [Int.toNat_natCast]
    by_cases hm : P.length + bs < n
    . have t1 : (T.take bs).length = bs := by rw [List.length_take]; omega
      have t2 : (T.drop bs).length <= bs := by rw [List.length_drop]; omega
      have eb : blk (ltOf cF) bs T = insAll (ltOf cF) (T.take bs) ++ insAll (ltOf cF) (T.drop bs) := by rw [blk_step _ hbs, blk_short _ hbs t2]
      have eb2 : blk (ltOf cF) (2 * bs) T = mrg (ltOf cF) (insAll (ltOf cF) (T.take bs)) (insAll (ltOf cF) (T.drop bs)) := by rw [blk_short _ (by omega) (by omega), <- insAll_append h, List.take_append_drop]
      have hx : P.length + (insAll (ltOf cF) (T.take bs)).length = P.length + bs := by rw [insAll_len, t1]
      have hy : P.length + bs + (insAll (ltOf cF) (T.drop bs)).length = n := by rw [insAll_len, List.length_drop]; omega
      have mb := mgOf_blocks (ltOf cF) P (insAll (ltOf cF) (T.take bs)) (insAll (ltOf cF) (T.drop bs)) [] rfl hx hy
      have ak := askB_of (lt := ltOf cF) (s := 20) (C := []) rfl hx hy (by have : (2 : Nat) ^ 20 = 1048576 := rfl; omega) (insAll_sorted h _) (insAll_sorted h _)
      rw [List.append_nil, List.append_nil] at mb
      rw [List.append_nil] at ak
      have hM : rowsOk KF (P ++ mrg (ltOf cF) (insAll (ltOf cF) (T.take bs)) (insAll (ltOf cF) (T.drop bs))) = true := rowsOk_mem hR (fun r hr => by
        simp only [List.mem_append, mem_mrg, mem_insAll] at hr ⊢
        rcases hr with h | h | h
        . exact Or.inl h
        . exact Or.inr (List.mem_of_mem_take h)
        . exact Or.inr (List.mem_of_mem_drop h))
      rw [cond_t (show decide (((P.length + bs : Nat) : Int) < (n : Int)) = true from by simp; omega), ass_of (rows_old hB), ass_of (asked4 hB hBl hn (by omega) (by omega) (by omega) (by omega) (by rw [eb]; exact ak)), eb, mb, eb2, ass_of (rows_old hM), ass_of (rows_old hM)]
    . rw [cond_f (show decide (((P.length + bs : Nat) : Int) < (n : Int)) = false from by simp; omega), ass_of (rows_old hB), blk_short _ (by omega) (by omega : T.length <= bs), blk_short _ (by omega) (by omega : T.length <= 2 * bs)]
  induction f with
  | zero =>
    intro r P T hR hl hf
    exact last r P T hR hl (by omega)
  | succ f ih =>
    intro r P T hR hl hf
    by_cases hT : T.length < 2 * bs
    . have := last (r + (f + 1)) P T hR hl hT
      exact this
    . have hl' := hl
      rw [List.length_append] at hl
      have hB : rowsOk KF (P ++ blk (ltOf cF) bs T) = true := rowsOk_mem hR (fun r hr => by
        simp only [List.mem_append] at hr ⊢
        rcases hr with h | h
        . exact Or.inl h
        . exact Or.inr (mem_blk _ hbs r _ T (Nat.le_refl _) h))
      have hBl : (P ++ blk (ltOf cF) bs T).length = n := by rw [List.length_append, blk_len _ hbs _ _ (Nat.le_refl _)]; exact hl
      have hch : chunks KF.length n (P ++ blk (ltOf cF) bs T).flatten = P ++ blk (ltOf cF) bs T := by rw [<- hBl]; exact chunks_of (K := KF) hB
      have t1 : (T.take bs).length = bs := by rw [List.length_take]; omega
      have t2 : ((T.drop bs).take bs).length = bs := by rw [List.length_take, List.length_drop]; omega
      have t3 : (T.take (2 * bs)).length = 2 * bs := by rw [List.length_take]; omega
      have eb : blk (ltOf cF) bs T = insAll (ltOf cF) (T.take bs) ++ (insAll (ltOf cF) ((T.drop bs).take bs) ++ blk (ltOf cF) bs (T.drop (2 * bs))) := by rw [blk_step _ hbs, blk_step _ hbs (T.drop bs), List.drop_drop, show bs + bs = 2 * bs from by omega]
      have et : T.take (2 * bs) = T.take bs ++ (T.drop bs).take bs := by rw [show 2 * bs = bs + bs from by omega, List.take_add]
      have eb2 : insAll (ltOf cF) (T.take (2 * bs)) = mrg (ltOf cF) (insAll (ltOf cF) (T.take bs)) (insAll (ltOf cF) ((T.drop bs).take bs)) := by rw [et, insAll_append h]
      have hx : P.length + (insAll (ltOf cF) (T.take bs)).length = P.length + bs := by rw [insAll_len, t1]
      have hy : P.length + bs + (insAll (ltOf cF) ((T.drop bs).take bs)).length = P.length + 2 * bs := by rw [insAll_len, t2]; omega
      have mb := mgOf_blocks (ltOf cF) P (insAll (ltOf cF) (T.take bs)) (insAll (ltOf cF) ((T.drop bs).take bs)) (blk (ltOf cF) bs (T.drop (2 * bs))) rfl hx hy
      have ak := askB_of (lt := ltOf cF) (s := 20) (C := blk (ltOf cF) bs (T.drop (2 * bs))) rfl hx hy (by have : (2 : Nat) ^ 20 = 1048576 := rfl; omega) (insAll_sorted h _) (insAll_sorted h _)
      have hR2 : rowsOk KF ((P ++ insAll (ltOf cF) (T.take (2 * bs))) ++ T.drop (2 * bs)) = true := rowsOk_mem hR (fun r hr => by
        simp only [List.mem_append, mem_insAll] at hr ⊢
        rcases hr with (h | h) | h
        . exact Or.inl h
        . exact Or.inr (List.mem_of_mem_take h)
        . exact Or.inr (List.mem_of_mem_drop h))
      have hM : rowsOk KF ((P ++ insAll (ltOf cF) (T.take (2 * bs))) ++ blk (ltOf cF) bs (T.drop (2 * bs))) = true := rowsOk_mem hR2 (fun r hr => by
        simp only [List.mem_append] at hr ⊢
        rcases hr with (h | h) | h
        . exact Or.inl (Or.inl h)
        . exact Or.inl (Or.inr h)
        . exact Or.inr (mem_blk _ hbs r _ _ (Nat.le_refl _) h))
      have hl2 : ((P ++ insAll (ltOf cF) (T.take (2 * bs))) ++ T.drop (2 * bs)).length = n := by simp only [List.length_append, insAll_len, List.length_take, List.length_drop]; omega
      obtain ⟨a, b, hI⟩ := ih r (P ++ insAll (ltOf cF) (T.take (2 * bs))) (T.drop (2 * bs)) hR2 hl2 (by rw [List.length_drop]; omega)
      refine ⟨a, b, ?_⟩
      rw [show r + (f + 1) + 1 = (r + f + 1) + 1 from by omega, tM3, cond_t (show decide (((P.length + 2 * bs : Nat) : Int) <= (n : Int)) = true from by simp; omega), wrap_add (by omega : P.length + bs < 9223372036854775808), show 2 * (bs : Int) = ((2 * bs : Nat) : Int) from by omega, wrap_nat (by omega : 2 * bs < 9223372036854775808), wrap_add (by omega : P.length + 2 * bs + 2 * bs < 9223372036854775808), hch]
      simp only [Int.toNat_natCast]
      rw [ass_of (rows_old hB), ass_of (asked4 hB hBl hn (by omega) (by omega) (by omega) (by omega) (by rw [eb]; exact ak)), eb, mb, <- eb2, <- List.append_assoc, ass_of (rows_old hM), ass_of (rows_old hM)]
      rw [List.length_append, insAll_len, t3] at hI
      rw [hI, blk_step _ (by omega : 0 < 2 * bs) T, List.append_assoc]
theorem m2_loop {cF : List PV -> List PV -> Int} (h : Ord (ltOf cF)) (N n : Nat) (a0 b0 : Int) (hn : n <= 1000000) (hN : n < N) (R : List (List PV)) (hR : rowsOk KF R = true) (hl : R.length = n) : ∀ (f bs q : Nat) (a b : Int), 0 < bs -> n <= bs + f ->
    M2F cF (askB (ltOf cF) 20) (mgOf (ltOf cF)) N (q + f + 1) (blk (ltOf cF) bs R).flatten n (bs : Int) a b a0 b0 = some (PV.tup [PV.tup [], encS (obOf KF.length n (insAll (ltOf cF) R).flatten)])
  | 0, bs, q, a, b, hb, hf => by
    have hi : rowsOk KF (insAll (ltOf cF) R) = true := rows_insAll hR
    rw [tM2, cond_f (show decide ((bs : Int) < (n : Int)) = false from by simp; omega), blk_short _ hb (by omega), ass_of (rows_old hi)]
  | f + 1, bs, q, a, b, hb, hf => by
    by_cases hlt : bs < n
    . obtain ⟨a', b', h3⟩ := m3_loop h N n (q + f + 1) bs a0 b0 hn hb hlt n (N - n - 1) [] R hR hl (by omega)
      rw [List.nil_append, List.nil_append, show N - n - 1 + n + 1 = N from by omega] at h3
      rw [show q + (f + 1) + 1 = (q + f + 1) + 1 from by omega, tM2, cond_t (show decide ((bs : Int) < (n : Int)) = true from by simpa using hlt), show 2 * (bs : Int) = ((2 * bs : Nat) : Int) from by omega, wrap_nat (by omega : 2 * bs < 9223372036854775808)]
      have e0 : (([] : List (List PV)).length + 2 * bs) = 2 * bs := by simp
      rw [e0] at h3
      exact h3.trans (m2_loop h N n a0 b0 hn hN R hR hl f (2 * bs) q a' b' (by omega) (by omega))
    . have hi : rowsOk KF (insAll (ltOf cF) R) = true := rows_insAll hR
      rw [tM2, cond_f (show decide ((bs : Int) < (n : Int)) = false from by simp; omega), blk_short _ hb (by omega), ass_of (rows_old hi)]
theorem runStF {cF : List PV -> List PV -> Int} (h : Ord (ltOf cF)) (xs : List PV) (t : Tr) (v : PV) (hg : gStF cF xs = some t) (hv : t.val = some v) : ∃ H, footSR EN (TStF cF (askB (ltOf cF) 20) (mgOf (ltOf cF))) H 1000009 5 fSt xs = some v := by
  refine ⟨H0, ?_⟩
  unfold gStF at hg
  split at hg
  . rename_i d k q o
    split at hg
    . rename_i n n1 n2 cells ho
      cases hg
      obtain ⟨hc, rfl⟩ := leaf_val hv
      simp only [Bool.and_eq_true, decide_eq_true_eq] at hc
      obtain ⟨hq, q1, q2, hr, rfl⟩ := hc
      obtain rfl := Nat.eq_of_beq_eq_true hq
      obtain ⟨rfl, rfl⟩ := obIn_ok ho q1 q2
      obtain ⟨r1, r2, r3, r4⟩ := rowsC_ok hr
      refine (tSt0 cF _ _ 1000009 cells n).trans ?_
      obtain ⟨a0, b0, h1⟩ := m1_loop cF (askB (ltOf cF) 20) (mgOf (ltOf cF)) 1000009 n r1 n (1000008 - n) [] (chunks KF.length n cells) r2 r4 (by omega)
      rw [List.nil_append, List.nil_append, r3, show 1000008 - n + n + 1 = 1000009 from by omega] at h1
      have h2 := m2_loop h 1000009 n a0 b0 r1 (by omega) _ r2 r4 n 20 (1000008 - n) a0 b0 (by omega) (by omega)
      rw [show 1000008 - n + n + 1 = 1000009 from by omega] at h2
      exact h1.trans h2
    . cases hg
  . cases hg
theorem runSoF (cF : List PV -> List PV -> Int) (xs : List PV) (t : Tr) (v : PV) (hg : gSoF cF xs = some t) (hv : t.val = some v) : ∃ H, footSR EN (TSt2F cF) H 1000009 5 fSs xs = some v := by
  refine ⟨H0, ?_⟩
  unfold gSoF at hg
  split at hg
  . rename_i d q o
    split at hg
    . rename_i n n1 n2 cells ho
      cases hg
      obtain ⟨hc, rfl⟩ := leaf_val hv
      simp only [Bool.and_eq_true] at hc
      obtain ⟨hq, q1, q2, hr⟩ := hc
      obtain rfl := Nat.eq_of_beq_eq_true hq
      obtain ⟨rfl, rfl⟩ := obIn_ok ho q1 q2
      obtain ⟨r1, r2, r3, r4⟩ := rowsC_ok hr
      refine (tSo0 cF 1000009 cells n).trans ?_
      have ho := rows_old r2
      rw [r3] at ho
      have hi : oldL 0 (insAll (ltOf cF) (chunks KF.length n cells)).flatten = true := rows_old (K := KF) (rows_insAll r2)
      rw [ass_of ho, ass_of (by rw [hr]; simp), ass_of hi, ass_of hi]
      rfl
    . cases hg
  . cases hg
theorem noSy {lt : List PV -> List PV -> Bool} {mg : Mg} (xs : List PV) (t : Tr) (v : PV) (hg : gSyF (askB lt 0) mg xs = some t) (hv : t.val = some v) : False := by
  unfold gSyF at hg
  split at hg
  . rename_i d a m b q o
    split at hg
    . rename_i n n1 n2 cells ho
      cases hg
      obtain ⟨hc, rfl⟩ := leaf_val hv
      simp only [Bool.and_eq_true, decide_eq_true_eq] at hc
      obtain ⟨hq, q1, q2, hr, c1, c2, c3, c4, c5⟩ := hc
      unfold askB at c5
      simp only [Bool.and_eq_true, decide_eq_true_eq] at c5
      have := c5.1
      omega
    . cases hg
  . cases hg
theorem okSt2 {cF : List PV -> List PV -> Int} (h : Ord (ltOf cF)) (hc : ∃ K, TOk EN (TCF cF) (runA EN 1000009 K)) : ∃ K, TOk EN (TSt2F cF) (runA EN 1000009 K) := by
  obtain ⟨kc, hc⟩ := hc
  have h0 : TOk EN T0 (runA EN 1000009 0) := T0_ok
  have hSwT : TOk EN TSwF (runA EN 1000009 _) := TaddF_ok2 h0 h0 runSwF hSw
  have hRoT : TOk EN (TaddT (TCF cF) fRo gRoF) (runA EN 1000009 _) := TaddF_ok2 hc hSwT runRoF hRo
  have hSyT : ∀ s, ∃ K, TOk EN (TSyF cF (askB (ltOf cF) s) (mgOf (ltOf cF))) (runA EN 1000009 K) := by
    intro s
    induction s with
    | zero => exact ⟨_, TaddF_ok2 (d := 5) hRoT h0 (fun xs t v hg hv => (noSy xs t v hg hv).elim) hSy⟩
    | succ s ih =>
      obtain ⟨k, ih⟩ := ih
      exact ⟨_, TaddF_ok2 hRoT ih (runSyF h s) hSy⟩
  have hInT : TOk EN (TaddT (TCF cF) fIn (gInF cF)) (runA EN 1000009 _) := TaddF_ok2 hc hc (runInF cF) hIn
  obtain ⟨k19, h19⟩ := hSyT 19
  have hStT : TOk EN (TStF cF (askB (ltOf cF) 20) (mgOf (ltOf cF))) (runA EN 1000009 _) := TaddF_ok2 hInT h19 (runSyF h 19) hSy
  exact ⟨_, TaddF_ok2 h0 hStT (runStF h) hSt⟩
end Go.Proofs.YtpbemfikhmeedaaGreatDoor.Am.SoG
