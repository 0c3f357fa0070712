/- TxnStages: the law's walk. -/
import Derived.Test.YtpbemfikhmeedaaGreatDoorMT5
set_option linter.unusedVariables false
set_option linter.unusedSimpArgs false
set_option maxRecDepth 100000
set_option maxHeartbeats 8000000
namespace Go.Proofs.YtpbemfikhmeedaaGreatDoor.Am
section
open St
abbrev Sg := Rw × Nat × Nat
def sgV (x : Sg) (e : PV) : PV := .tup [x.1.pv, vI x.2.1, e]
def anyL (c : List PV) (n : Nat) : Bool := (chunks 38 n c).any fun u => (oneR u).longR
def slX (r : Rw) (c : List PV) (n : Nat) (S G : Sg) (e : PV) (q : Int) (i : Int) : List (Nat × PV) := [(0, r.pv), (1, .sl c 38 n none), (2, .ptr 0 1 0), (4, .bool false), (5, .ptr 1 1 0), (6, .sl c 38 n none), (7, .ptr 2 1 0), (8, vI S.2.1), (9, e), (10, .ptr 3 1 0), (11, vI G.2.1), (12, vI G.2.2),
  (19, .bool true), (20, .bool false), (21, r.pv), (22, .bool r.longR), (23, .bool false), (24, .sl c 38 n none), (25, .bool (anyL c n)), (26, .bool false), (27, r.pv), (28, r.pv), (29, .sl c 38 n none), (30, .sl c 38 n none), (31, sgV S e), (32, r.pv), (33, .sl c 38 n none), (34, sgV S e), (35, S.1.pv), (36, vI S.2.1), (37, e),
  (38, sgV G (vI G.2.2)), (39, r.pv), (40, .sl c 38 n none), (41, sgV G (vI G.2.2)), (42, G.1.pv), (43, vI G.2.1), (44, vI G.2.2), (45, e), (46, vI q), (47, vI G.2.2), (48, .bool (q != (G.2.2 : Int))), (49, .bool false), (50, vI S.2.1), (51, vI G.2.1), (52, .bool ((S.2.1 : Int) != (G.2.1 : Int))), (53, .bool ((S.2.1 : Int) != (G.2.1 : Int))), (54, .bool false),
  (55, S.1.pv), (56, S.1.pv), (57, G.1.pv), (58, .bool (S.1.same G.1)), (59, .bool !(S.1.same G.1)), (60, .bool !(S.1.same G.1)), (61, .bool false), (62, r.pv), (63, r.pv), (64, r.pv), (65, .bool (r.same r)), (66, .bool !(r.same r)), (67, .bool false), (68, .sl c 38 n none), (69, vI n), (70, vI i)]
noncomputable def LX (N m : Nat) (r : Rw) (c : List PV) (n : Nat) (S G : Sg) (e : PV) (q : Int) (i : Int) : Option PV := loopS EN TX H0 N 5 3 Tryz.f3 [1, 1, 1, 1, 1, 1, 1, 0, 1, 0] (patOf (sparse 117 0 (slX nilR [] 0 (nilR, 0, 0) (nilR, 0, 0) .nils 0 0))) 4 m (sparse 117 0 (slX r c n S G e q i)) [bx r.pv.cells, bx r.pv.cells, bx S.1.pv.cells, bx G.1.pv.cells]
def chkX (N : Nat) (r : Rw) (S G : Sg) (q : Int) (k : Option PV) : Option PV :=
  bif q != (G.2.2 : Int) then some (.bool false) else bif (S.2.1 : Int) != (G.2.1 : Int) then some (.bool false) else
  asks (o3 4 S.1) <| asks (o3 0 S.1) <| asks [S.1.ok0] <| asks (o3 4 G.1) <| asks (o3 0 S.1) <| asks (o3 0 G.1) <| asks [S.1.ok && G.1.ok] <|
  bif !(S.1.same G.1) then some (.bool false) else
  asks (o3 4 r) <| asks (o3 0 r) <| asks [r.ok0] <| asks (o3 4 r) <| asks (o3 0 r) <| asks (o3 0 r) <| asks [r.ok && r.ok] <|
  bif !(r.same r) then some (.bool false) else k
def stA (r : Rw) (c : List PV) (n : Nat) : Bool := Nat.beq 38 38 && (rowsC KOp n c && stgOk r (chunks 38 n c))
def rgA (r : Rw) (c : List PV) (n : Nat) : Bool := Nat.beq 38 38 && (rowsC KOp n c && rgOk r (chunks 38 n c))
def SG (r : Rw) (c : List PV) (n : Nat) : Sg := stgR r (chunks 38 n c) 0
def GG (r : Rw) (c : List PV) (n : Nat) : Sg := rgR r (chunks 38 n c) 0
noncomputable def arm (N : Nat) (r : Rw) (c : List PV) (n : Nat) (e : PV) (q : Int) : Option PV :=
  asks [stA r c n] <| asks (o3 0 r) <| asks [oldL 0 c] <| asks [rgA r c n] <| chkX N r (SG r c n) (GG r c n) q (LX N N r c n (SG r c n) (GG r c n) e q 0)
theorem x0 (N : Nat) (r : Rw) (c : List PV) (n : Nat) : apartS EN TX H0 N 5 3 [r.pv, .sl c 38 n none] =
  (asks (o3 0 r) <| bif gt r.nf 40 || (gt r.ng 40 || gt r.ni 40) then some (.bool true) else
   asks [r.ok0] <| bif r.longR then some (.bool true) else
   asks [oldL 0 c] <| bif decide ((n : Int) > 12) then some (.bool true) else
   asks [Nat.beq 38 38 && rowsC KOp n c] <| bif anyL c n then some (.bool true) else
   asks (o3 0 r) <| asks [r.ok0] <| asks [oldL 0 c] <| asks [Nat.beq 38 38 && rowsC KOp n c] <| asks (o3 0 r) <| asks [oldL 0 c] <|
   bif Nat.beq (SG r c n).2.2 0 then arm N r c n .nilif 0 else bif Nat.beq (SG r c n).2.2 7 then arm N r c n errK 7 else arm N r c n errN 11) := by kernel_rfl
end
section
open St
def endX (r : Rw) (c : List PV) (S G : Sg) : List Bool :=
  o3 4 r ++ ([oldL 4 c, oldL 4 c] ++ (o3 4 r ++ ([oldL 4 c] ++ (o3 4 r ++ (o3 4 r ++ ([oldL 4 c, oldL 4 c] ++ (o3 4 S.1 ++ (o3 4 r ++ ([oldL 4 c] ++ (o3 4 S.1 ++ (o3 4 S.1 ++ (o3 4 G.1 ++ (o3 4 r ++ ([oldL 4 c] ++ (o3 4 G.1 ++ (o3 4 G.1 ++ (o3 4 S.1 ++ (o3 4 S.1 ++ (o3 4 G.1 ++
    (o3 4 r ++ (o3 4 r ++ (o3 4 r ++ ([oldL 4 c] ++ (o3 4 r ++ (o3 4 r ++ (o3 4 S.1 ++ o3 4 G.1))))))))))))))))))))))))))
def atX (c : List PV) (n : Nat) (i : Int) : List Bool := [decide (0 <= i) && decide (i < (n : Int)), okAt KOp c (i.toNat * 38)]
def thirdX (c : List PV) (n : Nat) (u : List PV) (i : Int) (A B : Rw) (e1 e2 : Int) (k : Option PV) : Option PV :=
  bif e1 != e2 then some (.bool false) else
  asks (o3 7 A) <| asks (o3 0 A) <| asks [A.ok0] <| asks (o3 7 B) <| asks (o3 0 A) <| asks (o3 0 B) <| asks [A.ok && B.ok] <|
  bif !(A.same B) then some (.bool false) else
  asks (oOld 7 u) <| asks (oOld 0 u) <| asks [askO u] <| asks (atX c n i) <| asks (oOld 7 u) <| asks (oOld 0 u) <| asks [askO u] <|
  bif !(svA u == svA u && (svB u == svB u && true)) then some (.bool false) else k
def secondX (r : Rw) (c : List PV) (n : Nat) (u : List PV) (i : Int) (A : Rw) (e1 : Int) (k : Option PV) : Option PV :=
  asks (o3 6 r) <| asks (atX c n i) <| asks (oOld 6 u) <| asks (o3 0 r) <| asks (oOld 0 u) <|
  bif known u then
    (bif noneR r u then asks [r.ok && (askO u && joOk [outR r u])] <| thirdX c n u i A nilR e1 11 k
     else asks [r.ok && (askO u && joOk [outR r u])] <| thirdX c n u i A (rj [outR r u]) e1 0 k)
  else asks [askO u] <| thirdX c n u i A nilR e1 7 k
def roundX (r : Rw) (c : List PV) (n : Nat) (u : List PV) (i : Int) (k : Option PV) : Option PV :=
  asks (atX c n i) <| asks (o3 0 r) <| asks (oOld 0 u) <|
  bif known u then
    (bif noneP r u then asks [r.ok && askO u] <| secondX r c n u i nilR 11 k
     else asks [r.ok && (askO u && joOk [r.rest u, moreR u])] <| secondX r c n u i (doP r u) 0 k)
  else asks [askO u] <| secondX r c n u i nilR 7 k
def touT (c : List PV) (n : Nat) : List (List PV) := sortU (keysT (chunks 38 n c))
def exitX (c : List PV) (n : Nat) : Option PV :=
  asks [oldL 0 c, Nat.beq 38 38 && rowsC KOp n c, oldL 0 c, Nat.beq 38 38 && rowsC KOp n c, oldL 0 (touT c n).flatten, oldL 0 (touT c n).flatten, Nat.beq 2 2 && (Nat.beq 2 2 && (rowsC KKy (touT c n).length (touT c n).flatten && rowsC KKy (touT c n).length (touT c n).flatten))] <|
  some (.bool (Nat.beq (touT c n).length (touT c n).length && eqRows eqK2 (chunks 2 (touT c n).length (touT c n).flatten) (chunks 2 (touT c n).length (touT c n).flatten)))
theorem x10 (N m : Nat) (r : Rw) (c : List PV) (n : Nat) (S G : Sg) (q : Int) (i : Int) : LX N (m + 1) r c n S G .nilif q i =
  (bif decide (i < (n : Int)) then roundX r c n (opAt c i) i (asks (endX r c S G) <| LX N m r c n S G .nilif q (IntKind.i64.wrap (i + 1))) else exitX c n) := by kernel_rfl
theorem x1K (N m : Nat) (r : Rw) (c : List PV) (n : Nat) (S G : Sg) (q : Int) (i : Int) : LX N (m + 1) r c n S G errK q i =
  (bif decide (i < (n : Int)) then roundX r c n (opAt c i) i (asks (endX r c S G) <| LX N m r c n S G errK q (IntKind.i64.wrap (i + 1))) else exitX c n) := by kernel_rfl
theorem x1N (N m : Nat) (r : Rw) (c : List PV) (n : Nat) (S G : Sg) (q : Int) (i : Int) : LX N (m + 1) r c n S G errN q i =
  (bif decide (i < (n : Int)) then roundX r c n (opAt c i) i (asks (endX r c S G) <| LX N m r c n S G errN q (IntKind.i64.wrap (i + 1))) else exitX c n) := by kernel_rfl
end
end Go.Proofs.YtpbemfikhmeedaaGreatDoor.Am
