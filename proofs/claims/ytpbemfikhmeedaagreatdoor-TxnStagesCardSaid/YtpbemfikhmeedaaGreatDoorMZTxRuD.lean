/- The document's Join: the filters' loops. -/
import Derived.Test.YtpbemfikhmeedaaGreatDoorMZTxRuC
set_option linter.unusedVariables false
set_option linter.unusedSimpArgs false
set_option maxRecDepth 100000
set_option maxHeartbeats 8000000
namespace Go.Proofs.YtpbemfikhmeedaaGreatDoor.Am
open St
def slIC (J : JS) (r : Rw) (M : NS) (e1 e2 j : Int) (row : List PV) (at' : Int) : List (Nat × PV) := slO J r [] [] [(13, .ptr (xE J M) 1 0), (14, vI at')] ++ [(25, vI e1), (26, .bool false), (63, .ptr J.x 1 1), (64, .sl r.gc 8 r.ng none), (65, vI r.ng), (66, vI e2), (67, .bool false), (106, .ptr J.x 1 2), (107, .sl r.ic 3 r.ni none), (108, vI r.ni), (109, vI j), (110, .bool true), (111, .eptr r.ic (j.toNat * 3)), (112, .agg row), (113, .ptr 1 1 2), (114, curP M.pi J.bi (xI J M) (nx J.bg (nx J.bf 2)) 3 M.kI J.ki), (115, vI (curN M.pi J.bi M.kI J.ki))]
noncomputable def LRC (N m q s : Nat) (J : JS) (r : Rw) (M : NS) (e1 e2 j : Int) (row : List PV) (at' : Int) : Option PV :=
  iterS EN 0 (slP (slIC nilJ nilR nS 0 0 0 [] 0)) (xE J M + 1) (cR N (subC bodyRI [1, 1, 0, 0, 1, 1, 0, 0, 0])) s (sparse 151 0 (slIC J r M e1 e2 j row at')) (stR J M r [bxN row 3])
    (aR N bodyRI [1, 1, 0, 0, 1, 1, 0, 0] (contR N patRI (xI J M) bodyRI q (aR N bodyRO [1, 1, 0, 0, 1, 1, 1, 1, 0] (contRO N m))))
def rowI (r : Rw) (j : Int) : List PV := shapeAt KFi r.ic (j.toNat * 3)
def JS.curI (J : JS) (M : NS) : List PV := bif M.pi then M.aI else bif J.bi then J.ai else []
def JS.next (J : JS) (M : NS) : JS := ⟨J.c, J.n, IntKind.i64.wrap (J.i + 1), M.pf || J.bf, M.pg || J.bg, M.pi || J.bi, bif M.pf then M.aF else J.af, bif M.pf then M.kF else J.kf, bif M.pg then M.aG else J.ag, bif M.pg then M.kG else J.kg, bif M.pi then M.aI else J.ai, bif M.pi then M.kI else J.ki⟩
theorem rI (N m q : Nat) (J : JS) (r : Rw) (pf : Bool) (aF : List PV) (kF : Nat) (pg : Bool) (aG : List PV) (kG : Nat) (pi : Bool) (aI : List PV) (kI : Nat) (e1 e2 j : Int) : LRI N m (q + 1) J r ⟨pf, aF, kF, pg, aG, kG, pi, aI, kI⟩ e1 e2 j =
  (bif decide (j < (r.ni : Int)) then
    (asks [decide (0 <= j) && decide (j < (r.ni : Int)), okAt KFi r.ic (j.toNat * 3)] <| LRC N m q N J r ⟨pf, aF, kF, pg, aG, kG, pi, aI, kI⟩ e1 e2 j (rowI r j) (curN pi J.bi kI J.ki))
  else asks [oldL 2 J.c, oldL 2 J.c] <| asks (ifb (pf || J.bf) [oldL 0 (J.next ⟨pf, aF, kF, pg, aG, kG, pi, aI, kI⟩).af]) <| asks (ifb (pg || J.bg) [oldL 0 (J.next ⟨pf, aF, kF, pg, aG, kG, pi, aI, kI⟩).ag]) <|
    asks (ifb (pi || J.bi) [oldL 0 (J.next ⟨pf, aF, kF, pg, aG, kG, pi, aI, kI⟩).ai]) <| LRo N m (J.next ⟨pf, aF, kF, pg, aG, kG, pi, aI, kI⟩)) := by
  obtain ⟨c, n, i, bf, bg, bi, af, kf, ag, kg, ai, ki⟩ := J
  cases bf <;> cases bg <;> cases bi <;> cases pf <;> cases pg <;> cases pi <;> kernel_rfl
def exitR (J : JS) : Option PV :=
  asks (ifb J.bf (sealAsk J.af J.kf 26)) <| asks (ifb J.bg (sealAsk J.ag J.kg 8)) <| asks (ifb J.bi (sealAsk J.ai J.ki 3)) <|
  asks (ifb J.bf [oldL 0 ((J.af.drop 0).take (J.kf * 26))]) <| asks (ifb J.bg [oldL 0 ((J.ag.drop 0).take (J.kg * 8))]) <| asks (ifb J.bi [oldL 0 ((J.ai.drop 0).take (J.ki * 3))]) <|
  some (jR J.bf J.bg J.bi J.af J.kf J.ag J.kg J.ai J.ki).pv
theorem rO (N m : Nat) (J : JS) : LRo N (m + 1) J =
  (bif decide (J.i < (J.n : Int)) then
    (asks [decide (0 <= J.i) && decide (J.i < (J.n : Int)), okAt KRw J.c (J.i.toNat * 3)] <| LRF N m N J (rwOf (shapeAt KRw J.c (J.i.toNat * 3))) nS 0)
  else exitR J) := by
  obtain ⟨c, n, i, bf, bg, bi, af, kf, ag, kg, ai, ki⟩ := J
  cases bf <;> cases bg <;> cases bi <;> kernel_rfl
theorem r00 (N : Nat) (c : List PV) (n : Nat) : apartS EN TRA HRj N 5 31 [.sl c 3 n none] = LRo N N ⟨c, n, 0, false, false, false, [], 0, [], 0, [], 0⟩ := by kernel_rfl
theorem rC0 (N m q s : Nat) (J : JS) (r : Rw) (pf : Bool) (aF : List PV) (kF : Nat) (pg : Bool) (aG : List PV) (kG : Nat) (aI : List PV) (kI : Nat) (e1 e2 j : Int) (hb : J.bi = false) : LRC N m q (s + 1) J r ⟨pf, aF, kF, pg, aG, kG, false, aI, kI⟩ e1 e2 j (rowI r j) 0 =
      (asks (wI (xE J ⟨pf, aF, kF, pg, aG, kG, false, aI, kI⟩ + 1) (rowI r j)) <| (asks (oldJ J (xI J ⟨pf, aF, kF, pg, aG, kG, false, aI, kI⟩) r) <| asks [oldL (xI J ⟨pf, aF, kF, pg, aG, kG, false, aI, kI⟩) r.gc] <| asks [oldL (xI J ⟨pf, aF, kF, pg, aG, kG, false, aI, kI⟩) r.ic] <| asksO J <| asks (oldR (xI J ⟨pf, aF, kF, pg, aG, kG, false, aI, kI⟩) r) <| asks (ifb pf [oldL 0 aF]) <| asks (ifb pg [oldL 0 aG]) <| asks [oldL 0 (rowI r j)] <| LRI N m q J r ⟨pf, aF, kF, pg, aG, kG, true, (rowI r j), 1⟩ e1 e2 (IntKind.i64.wrap (j + 1)))) := by
  obtain ⟨c, n, i, bf, bg, bi, af, kf, ag, kg, ai, ki⟩ := J
  cases bi with
  | true => cases hb
  | false => clear hb; cases bf <;> cases bg <;> cases pf <;> cases pg <;> kernel_rfl
noncomputable def rhC (N m q s : Nat) (J : JS) (r : Rw) (pf : Bool) (aF : List PV) (kF : Nat) (pg : Bool) (aG : List PV) (kG : Nat) (pi : Bool) (aI : List PV) (kI : Nat) (e1 e2 j : Int) (at' : Int) : Option PV :=
  (bif decide (at' > 0) then
    (asks [decide (0 <= IntKind.i64.wrap (at' - 1)) && decide (IntKind.i64.wrap (at' - 1) < (curN pi J.bi kI J.ki : Int)), curN pi J.bi kI J.ki == curN pi J.bi kI J.ki, okAt KKy (J.curI ⟨pf, aF, kF, pg, aG, kG, pi, aI, kI⟩) (0 + (IntKind.i64.wrap (at' - 1)).toNat * 3 + 0)] <|
    bif decide (rKy (shapeAt KKy r.ic (j.toNat * 3)) (shapeAt KKy (J.curI ⟨pf, aF, kF, pg, aG, kG, pi, aI, kI⟩) (0 + (IntKind.i64.wrap (at' - 1)).toNat * 3 + 0)) < 0) then
      (asks (oldJ J (xE J ⟨pf, aF, kF, pg, aG, kG, pi, aI, kI⟩ + 1) r) <| asks [oldL (xE J ⟨pf, aF, kF, pg, aG, kG, pi, aI, kI⟩ + 1) r.gc] <| asks [oldL (xE J ⟨pf, aF, kF, pg, aG, kG, pi, aI, kI⟩ + 1) r.ic] <| asks [oldL (xE J ⟨pf, aF, kF, pg, aG, kG, pi, aI, kI⟩ + 1) r.ic] <| asks (wI (xE J ⟨pf, aF, kF, pg, aG, kG, pi, aI, kI⟩ + 1) (rowI r j)) <| asksO J <|
      asks (oldR (xE J ⟨pf, aF, kF, pg, aG, kG, pi, aI, kI⟩ + 1) r) <| asks (ifb pf [oldL 0 aF]) <| asks (ifb pg [oldL 0 aG]) <| asks (ifb pi [oldL 0 aI]) <| asks (wI (xE J ⟨pf, aF, kF, pg, aG, kG, pi, aI, kI⟩ + 1) (rowI r j)) <|
      LRC N m q s J r ⟨pf, aF, kF, pg, aG, kG, pi, aI, kI⟩ e1 e2 j (rowI r j) (IntKind.i64.wrap (at' - 1)))
    else insT2 (J.curI ⟨pf, aF, kF, pg, aG, kG, pi, aI, kI⟩) (curN pi J.bi kI J.ki) at' 3 (rowI r j) (wI (xE J ⟨pf, aF, kF, pg, aG, kG, pi, aI, kI⟩ + 1) (rowI r j)) (wI (xE J ⟨pf, aF, kF, pg, aG, kG, pi, aI, kI⟩ + 2) (rowI r j)) fun ac k =>
      (asks (oldJ J (xI J ⟨pf, aF, kF, pg, aG, kG, pi, aI, kI⟩) r) <| asks [oldL (xI J ⟨pf, aF, kF, pg, aG, kG, pi, aI, kI⟩) r.gc] <| asks [oldL (xI J ⟨pf, aF, kF, pg, aG, kG, pi, aI, kI⟩) r.ic] <| asksO J <| asks (oldR (xI J ⟨pf, aF, kF, pg, aG, kG, pi, aI, kI⟩) r) <| asks (ifb pf [oldL 0 aF]) <| asks (ifb pg [oldL 0 aG]) <| asks [oldL 0 ac] <| LRI N m q J r ⟨pf, aF, kF, pg, aG, kG, true, ac, k⟩ e1 e2 (IntKind.i64.wrap (j + 1))))
  else insT2 (J.curI ⟨pf, aF, kF, pg, aG, kG, pi, aI, kI⟩) (curN pi J.bi kI J.ki) at' 3 (rowI r j) (wI (xE J ⟨pf, aF, kF, pg, aG, kG, pi, aI, kI⟩ + 1) (rowI r j)) (wI (xE J ⟨pf, aF, kF, pg, aG, kG, pi, aI, kI⟩ + 2) (rowI r j)) fun ac k =>
      (asks (oldJ J (xI J ⟨pf, aF, kF, pg, aG, kG, pi, aI, kI⟩) r) <| asks [oldL (xI J ⟨pf, aF, kF, pg, aG, kG, pi, aI, kI⟩) r.gc] <| asks [oldL (xI J ⟨pf, aF, kF, pg, aG, kG, pi, aI, kI⟩) r.ic] <| asksO J <| asks (oldR (xI J ⟨pf, aF, kF, pg, aG, kG, pi, aI, kI⟩) r) <| asks (ifb pf [oldL 0 aF]) <| asks (ifb pg [oldL 0 aG]) <| asks [oldL 0 ac] <| LRI N m q J r ⟨pf, aF, kF, pg, aG, kG, true, ac, k⟩ e1 e2 (IntKind.i64.wrap (j + 1))))
end Go.Proofs.YtpbemfikhmeedaaGreatDoor.Am
