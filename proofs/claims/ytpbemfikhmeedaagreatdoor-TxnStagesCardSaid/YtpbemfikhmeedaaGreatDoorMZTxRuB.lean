/- The document's Join: all rows, one by one. -/
import Derived.Test.YtpbemfikhmeedaaGreatDoorMR
set_option linter.unusedVariables false
set_option linter.unusedSimpArgs false
set_option maxRecDepth 100000
set_option maxHeartbeats 8000000
namespace Go.Proofs.YtpbemfikhmeedaaGreatDoor.Am
open St
def HRj : FuncId -> Hint := fun f t => bif Nat.beq f 31 then (bif Nat.beq t 51 || (Nat.beq t 94 || Nat.beq t 137) then [some false] else bif Nat.beq t 52 || (Nat.beq t 95 || Nat.beq t 138) then [none, some false] else bif Nat.beq t 55 || (Nat.beq t 98 || Nat.beq t 141) then [none, some false] else bif Nat.beq t 60 || (Nat.beq t 103 || Nat.beq t 146) then [none, some false] else []) else []
noncomputable def recR (N : Nat) : RecS PV := recS EN TRA HRj N 5
noncomputable def slP (l : List (Nat × PV)) : List Bool := patOf (sparse 151 0 l)
noncomputable def cR (N : Nat) (c : Code) : Slots -> Store -> KC PV -> Option PV := codeS EN TRA (recR N) (HRj 31) 0 N c
noncomputable def aR (N : Nat) (c : Code) (p : List Nat) (k : KC PV) : KC PV := afterS EN TRA (recR N) (HRj 31) 0 N c p k
noncomputable def contR (N : Nat) (pat : List Bool) (n0 : Nat) (body : Code) (q : Nat) (e : KC PV) : KC PV := fun o s1 σ1 => match o with
  | .norm => trimS EN 0 pat n0 s1 σ1 fun s2 σ2 => iterS EN 0 pat n0 (cR N body) q s2 σ2 e
  | .exit j => e (.exit j) s1 σ1
  | .ret => e .ret s1 σ1
  | .goto l => e (.goto l) s1 σ1
structure JS where
  c : List PV
  n : Nat
  i : Int
  bf : Bool
  bg : Bool
  bi : Bool
  af : List PV
  kf : Nat
  ag : List PV
  kg : Nat
  ai : List PV
  ki : Nat
def JS.accs (J : JS) : List PV := [accP J.bf 2 26 J.kf, accP J.bg (nx J.bf 2) 8 J.kg, accP J.bi (nx J.bg (nx J.bf 2)) 3 J.ki]
def JS.objs (J : JS) : Store := accO J.bf J.af 26 J.kf ++ (accO J.bg J.ag 8 J.kg ++ accO J.bi J.ai 3 J.ki)
def JS.x (J : JS) : Nat := nx J.bi (nx J.bg (nx J.bf 2))
def slO0 (c : List PV) (n : Nat) (i : Int) : List (Nat × PV) := [(0, .sl c 3 n none), (2, .ptr 0 1 0), (3, .ptr 1 1 0), (15, .agg [.nils, .nils, .nils]), (16, .sl c 3 n none), (17, vI n), (18, vI i)]
noncomputable def LRo (N m : Nat) (J : JS) : Option PV := loopS EN TRA HRj N 5 31 Tryz.f31 [1, 1, 0, 1, 0] (slP (slO0 [] 0 0)) 2 m
  (sparse 151 0 (slO0 J.c J.n J.i)) ([bx [.nils, .nils, .nils], bx J.accs] ++ J.objs)
noncomputable def bodyRO : Code := subC (bodyOf Tryz.f31) [1, 1, 0, 1, 0, 0]
noncomputable def endRO (N : Nat) : KC PV := aR N (bodyOf Tryz.f31) [1, 1, 0, 1, 0] (endK EN Tryz.f31 (lastK EN 31))
noncomputable def contRO (N m : Nat) : KC PV := contR N (slP (slO0 [] 0 0)) 2 bodyRO m (endRO N)
def slO (J : JS) (r : Rw) (m7 m10 m13 : List (Nat × PV)) : List (Nat × PV) := [(0, .sl J.c 3 J.n none), (2, .ptr 0 1 0), (3, .ptr 1 1 0), (5, .ptr J.x 1 0)] ++ m7 ++ m10 ++ m13 ++ [(15, .agg [.nils, .nils, .nils]), (16, .sl J.c 3 J.n none), (17, vI J.n), (18, vI J.i), (19, .bool true), (20, .eptr J.c (J.i.toNat * 3)), (21, r.pv), (22, .ptr J.x 1 0), (23, .sl r.fc 26 r.nf none), (24, vI r.nf)]
def nilJ : JS := ⟨[], 0, 0, false, false, false, [], 0, [], 0, [], 0⟩
def nilR : Rw := ⟨0, [], 0, [], 0, []⟩
structure NS where
  pf : Bool
  aF : List PV
  kF : Nat
  pg : Bool
  aG : List PV
  kG : Nat
  pi : Bool
  aI : List PV
  kI : Nat
def nS : NS := ⟨false, [], 0, false, [], 0, false, [], 0⟩
def xF (J : JS) : Nat := J.x + 1
def xG (J : JS) (M : NS) : Nat := nx M.pf (xF J)
def xI (J : JS) (M : NS) : Nat := nx M.pg (xG J M)
def xE (J : JS) (M : NS) : Nat := nx M.pi (xI J M)
def outs (J : JS) (M : NS) : List PV := [bif M.pf then .osl (xF J) M.kF 0 26 M.kF none else accP J.bf 2 26 J.kf, bif M.pg then .osl (xG J M) M.kG 0 8 M.kG none else accP J.bg (nx J.bf 2) 8 J.kg, bif M.pi then .osl (xI J M) M.kI 0 3 M.kI none else accP J.bi (nx J.bg (nx J.bf 2)) 3 J.ki]
def stR (J : JS) (M : NS) (r : Rw) (ex : Store) : Store := [bx [.nils, .nils, .nils], bx (outs J M)] ++ (J.objs ++ ([bx r.pv.cells] ++ (accO M.pf M.aF 26 M.kF ++ (accO M.pg M.aG 8 M.kG ++ (accO M.pi M.aI 3 M.kI ++ ex)))))
def curP (p b : Bool) (x id es k kf : Nat) : PV := bif p then .osl x k 0 es k none else bif b then .osl id kf 0 es kf none else .sl [] es 0 (some 0)
def curN (p b : Bool) (k kf : Nat) : Nat := bif p then k else bif b then kf else 0
noncomputable def bodyRF : Code := subC bodyRO [1, 1, 0, 0, 1, 0, 1, 0, 0]
noncomputable def patRF : List Bool := slP (slO nilJ nilR [] [] [] ++ [(25, .nils)])
noncomputable def LRF (N m q : Nat) (J : JS) (r : Rw) (M : NS) (j : Int) : Option PV :=
  iterS EN 0 patRF (xF J) (cR N bodyRF) q (sparse 151 0 (slO J r [] [] [] ++ [(25, vI j)])) (stR J M r []) (aR N bodyRO [1, 1, 0, 0, 1, 0, 1, 0] (contRO N m))
def slFA (J : JS) (r : Rw) (M : NS) (j : Int) (row : List PV) (at' : Int) : List (Nat × PV) := slO J r [(7, .ptr (xE J M) 1 0), (8, vI at')] [] [] ++ [(25, vI j), (26, .bool true), (27, .eptr r.fc (j.toNat * 26)), (28, .agg row), (29, .ptr 1 1 0), (30, curP M.pf J.bf (xF J) 2 26 M.kF J.kf), (31, vI (curN M.pf J.bf M.kF J.kf))]
noncomputable def LRA (N m q s : Nat) (J : JS) (r : Rw) (M : NS) (j : Int) (row : List PV) (at' : Int) : Option PV :=
  iterS EN 0 (slP (slFA nilJ nilR nS 0 [] 0)) (xE J M + 1) (cR N (subC bodyRF [1, 1, 0, 0, 1, 1, 0, 0, 0])) s (sparse 151 0 (slFA J r M j row at')) (stR J M r [bxN row 26])
    (aR N bodyRF [1, 1, 0, 0, 1, 1, 0, 0] (contR N patRF (xF J) bodyRF q (aR N bodyRO [1, 1, 0, 0, 1, 0, 1, 0] (contRO N m))))
noncomputable def bodyRG : Code := subC bodyRO [1, 1, 0, 0, 1, 1, 0, 1, 0, 0]
noncomputable def patRG : List Bool := slP (slO nilJ nilR [] [] [] ++ [(25, .nils), (26, .nils), (63, .nils), (64, .nils), (65, .nils), (66, .nils)])
noncomputable def LRG (N m q : Nat) (J : JS) (r : Rw) (M : NS) (e1 : Int) (j : Int) : Option PV :=
  iterS EN 0 patRG (xG J M) (cR N bodyRG) q (sparse 151 0 (slO J r [] [] [] ++ [(25, vI e1), (26, .bool false), (63, .ptr J.x 1 1), (64, .sl r.gc 8 r.ng none), (65, vI r.ng), (66, vI j)])) (stR J M r []) (aR N bodyRO [1, 1, 0, 0, 1, 1, 0, 1, 0] (contRO N m))
def oldJ (J : JS) (x : Nat) (r : Rw) : List Bool := [oldL x J.c, oldL x J.c, oldL x J.c, oldL x r.fc, oldL x r.gc, oldL x r.ic, oldL x r.fc]
def asksO (J : JS) (k : Option PV) : Option PV := asks (ifb J.bf [oldL 0 J.af]) <| asks (ifb J.bg [oldL 0 J.ag]) <| asks (ifb J.bi [oldL 0 J.ai]) k
def rowF (r : Rw) (j : Int) : List PV := shapeAt KFr r.fc (j.toNat * 26)
def JS.curF (J : JS) (M : NS) : List PV := bif M.pf then M.aF else bif J.bf then J.af else []
theorem rF (N m q : Nat) (J : JS) (r : Rw) (pf : Bool) (aF : List PV) (kF : Nat) (j : Int) : LRF N m (q + 1) J r ⟨pf, aF, kF, false, [], 0, false, [], 0⟩ j =
  (bif decide (j < (r.nf : Int)) then
    (asks [decide (0 <= j) && decide (j < (r.nf : Int)), okAt KFr r.fc (j.toNat * 26)] <| LRA N m q N J r ⟨pf, aF, kF, false, [], 0, false, [], 0⟩ j (rowF r j) (curN pf J.bf kF J.kf))
  else LRG N m N J r ⟨pf, aF, kF, false, [], 0, false, [], 0⟩ j 0) := by
  obtain ⟨c, n, i, bf, bg, bi, af, kf, ag, kg, ai, ki⟩ := J
  cases bf <;> cases bg <;> cases bi <;> cases pf <;> kernel_rfl
theorem rA (N m q s : Nat) (J : JS) (r : Rw) (pf : Bool) (aF : List PV) (kF : Nat) (j : Int) (at' : Int) (hc : (pf || J.bf) = true) : LRA N m q (s + 1) J r ⟨pf, aF, kF, false, [], 0, false, [], 0⟩ j (rowF r j) at' =
  (bif decide (at' > 0) then
    (asks [decide (0 <= IntKind.i64.wrap (at' - 1)) && decide (IntKind.i64.wrap (at' - 1) < (curN pf J.bf kF J.kf : Int)), curN pf J.bf kF J.kf == curN pf J.bf kF J.kf, okAt KFr (J.curF ⟨pf, aF, kF, false, [], 0, false, [], 0⟩) (0 + (IntKind.i64.wrap (at' - 1)).toNat * 26)] <|
    bif decide (rFr (rowF r j) (shapeAt KFr (J.curF ⟨pf, aF, kF, false, [], 0, false, [], 0⟩) (0 + (IntKind.i64.wrap (at' - 1)).toNat * 26)) < 0) then
      (asks (oldJ J (xE J ⟨pf, aF, kF, false, [], 0, false, [], 0⟩ + 1) r) <| asks [oldL (xE J ⟨pf, aF, kF, false, [], 0, false, [], 0⟩ + 1) r.fc] <| asksO J <|
      asks [oldL (xE J ⟨pf, aF, kF, false, [], 0, false, [], 0⟩ + 1) r.fc, oldL (xE J ⟨pf, aF, kF, false, [], 0, false, [], 0⟩ + 1) r.gc, oldL (xE J ⟨pf, aF, kF, false, [], 0, false, [], 0⟩ + 1) r.ic] <| asks (ifb pf [oldL 0 aF]) <|
      LRA N m q s J r ⟨pf, aF, kF, false, [], 0, false, [], 0⟩ j (rowF r j) (IntKind.i64.wrap (at' - 1)))
    else insT (J.curF ⟨pf, aF, kF, false, [], 0, false, [], 0⟩) (curN pf J.bf kF J.kf) at' 26 (rowF r j) fun ac k =>
      (asks (oldJ J (xF J) r) <| asksO J <| asks [oldL (xF J) r.fc, oldL (xF J) r.gc, oldL (xF J) r.ic] <| asks [oldL 0 ac] <| LRF N m q J r ⟨true, ac, k, false, [], 0, false, [], 0⟩ (IntKind.i64.wrap (j + 1))))
  else insT (J.curF ⟨pf, aF, kF, false, [], 0, false, [], 0⟩) (curN pf J.bf kF J.kf) at' 26 (rowF r j) fun ac k =>
      (asks (oldJ J (xF J) r) <| asksO J <| asks [oldL (xF J) r.fc, oldL (xF J) r.gc, oldL (xF J) r.ic] <| asks [oldL 0 ac] <| LRF N m q J r ⟨true, ac, k, false, [], 0, false, [], 0⟩ (IntKind.i64.wrap (j + 1)))) := by
  obtain ⟨c, n, i, bf, bg, bi, af, kf, ag, kg, ai, ki⟩ := J
  cases pf with
  | true => clear hc; cases bf <;> cases bg <;> cases bi <;> kernel_rfl
  | false =>
    cases bf with
    | true => clear hc; cases bg <;> cases bi <;> kernel_rfl
    | false => cases hc
theorem rA0 (N m q s : Nat) (J : JS) (r : Rw) (aF : List PV) (kF : Nat) (j : Int) (hb : J.bf = false) : LRA N m q (s + 1) J r ⟨false, aF, kF, false, [], 0, false, [], 0⟩ j (rowF r j) 0 =
      (asks (oldJ J (xF J) r) <| asksO J <| asks [oldL (xF J) r.fc, oldL (xF J) r.gc, oldL (xF J) r.ic] <| asks [oldL 0 (rowF r j)] <| LRF N m q J r ⟨true, rowF r j, 1, false, [], 0, false, [], 0⟩ (IntKind.i64.wrap (j + 1))) := by
  obtain ⟨c, n, i, bf, bg, bi, af, kf, ag, kg, ai, ki⟩ := J
  cases bf with
  | true => cases hb
  | false => clear hb; cases bg <;> cases bi <;> kernel_rfl
end Go.Proofs.YtpbemfikhmeedaaGreatDoor.Am
