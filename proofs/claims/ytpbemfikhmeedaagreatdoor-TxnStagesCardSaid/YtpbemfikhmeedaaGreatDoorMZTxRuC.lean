/- The document's Join: the groups' loops. -/
import Derived.Test.YtpbemfikhmeedaaGreatDoorMZTxRuB
set_option linter.unusedVariables false
set_option linter.unusedSimpArgs false
set_option maxRecDepth 100000
set_option maxHeartbeats 8000000
namespace Go.Proofs.YtpbemfikhmeedaaGreatDoor.Am
open St
def slGB (J : JS) (r : Rw) (M : NS) (e1 j : Int) (row : List PV) (at' : Int) : List (Nat × PV) := slO J r [] [(10, .ptr (xE J M) 1 0), (11, vI at')] [] ++ [(25, vI e1), (26, .bool false), (63, .ptr J.x 1 1), (64, .sl r.gc 8 r.ng none), (65, vI r.ng), (66, vI j), (67, .bool true), (68, .eptr r.gc (j.toNat * 8)), (69, .agg row), (70, .ptr 1 1 1), (71, curP M.pg J.bg (xG J M) (nx J.bf 2) 8 M.kG J.kg), (72, vI (curN M.pg J.bg M.kG J.kg))]
noncomputable def LRB (N m q s : Nat) (J : JS) (r : Rw) (M : NS) (e1 j : Int) (row : List PV) (at' : Int) : Option PV :=
  iterS EN 0 (slP (slGB nilJ nilR nS 0 0 [] 0)) (xE J M + 1) (cR N (subC bodyRG [1, 1, 0, 0, 1, 1, 0, 0, 0])) s (sparse 151 0 (slGB J r M e1 j row at')) (stR J M r [bxN row 8])
    (aR N bodyRG [1, 1, 0, 0, 1, 1, 0, 0] (contR N patRG (xG J M) bodyRG q (aR N bodyRO [1, 1, 0, 0, 1, 1, 0, 1, 0] (contRO N m))))
noncomputable def bodyRI : Code := subC bodyRO [1, 1, 0, 0, 1, 1, 1, 1, 0, 0]
noncomputable def patRI : List Bool := slP (slO nilJ nilR [] [] [] ++ [(25, .nils), (26, .nils), (63, .nils), (64, .nils), (65, .nils), (66, .nils), (67, .nils), (106, .nils), (107, .nils), (108, .nils), (109, .nils)])
noncomputable def LRI (N m q : Nat) (J : JS) (r : Rw) (M : NS) (e1 e2 : Int) (j : Int) : Option PV :=
  iterS EN 0 patRI (xI J M) (cR N bodyRI) q (sparse 151 0 (slO J r [] [] [] ++ [(25, vI e1), (26, .bool false), (63, .ptr J.x 1 1), (64, .sl r.gc 8 r.ng none), (65, vI r.ng), (66, vI e2), (67, .bool false), (106, .ptr J.x 1 2), (107, .sl r.ic 3 r.ni none), (108, vI r.ni), (109, vI j)])) (stR J M r []) (aR N bodyRO [1, 1, 0, 0, 1, 1, 1, 1, 0] (contRO N m))
def rowGr (r : Rw) (j : Int) : List PV := shapeAt KGr r.gc (j.toNat * 8)
def JS.curG (J : JS) (M : NS) : List PV := bif M.pg then M.aG else bif J.bg then J.ag else []
def wG (x : Nat) (row : List PV) : List Bool := [oldL x (slCells (row.getD 6 .nilp)), oldL x (slCells (row.getD 7 .nilp))]
def wI (x : Nat) (row : List PV) : List Bool := [oldL x (slCells (row.getD 2 .nilp))]
def oldR (x : Nat) (r : Rw) : List Bool := [oldL x r.fc, oldL x r.gc, oldL x r.ic]
theorem rG (N m q : Nat) (J : JS) (r : Rw) (pf : Bool) (aF : List PV) (kF : Nat) (pg : Bool) (aG : List PV) (kG : Nat) (e1 j : Int) : LRG N m (q + 1) J r ⟨pf, aF, kF, pg, aG, kG, false, [], 0⟩ e1 j =
  (bif decide (j < (r.ng : Int)) then
    (asks [decide (0 <= j) && decide (j < (r.ng : Int)), okAt KGr r.gc (j.toNat * 8)] <| LRB N m q N J r ⟨pf, aF, kF, pg, aG, kG, false, [], 0⟩ e1 j (rowGr r j) (curN pg J.bg kG J.kg))
  else LRI N m N J r ⟨pf, aF, kF, pg, aG, kG, false, [], 0⟩ e1 j 0) := by
  obtain ⟨c, n, i, bf, bg, bi, af, kf, ag, kg, ai, ki⟩ := J
  cases bf <;> cases bg <;> cases bi <;> cases pf <;> cases pg <;> kernel_rfl
noncomputable def rhB (N m q s : Nat) (J : JS) (r : Rw) (pf : Bool) (aF : List PV) (kF : Nat) (pg : Bool) (aG : List PV) (kG : Nat) (e1 j : Int) (at' : Int) : Option PV :=
  (bif decide (at' > 0) then
    (asks [decide (0 <= IntKind.i64.wrap (at' - 1)) && decide (IntKind.i64.wrap (at' - 1) < (curN pg J.bg kG J.kg : Int)), curN pg J.bg kG J.kg == curN pg J.bg kG J.kg, okAt KGi (J.curG ⟨pf, aF, kF, pg, aG, kG, false, [], 0⟩) (0 + (IntKind.i64.wrap (at' - 1)).toNat * 8 + 0)] <|
    bif decide (rGi (shapeAt KGi r.gc (j.toNat * 8)) (shapeAt KGi (J.curG ⟨pf, aF, kF, pg, aG, kG, false, [], 0⟩) (0 + (IntKind.i64.wrap (at' - 1)).toNat * 8 + 0)) < 0) then
      (asks (oldJ J (xE J ⟨pf, aF, kF, pg, aG, kG, false, [], 0⟩ + 1) r) <| asks [oldL (xE J ⟨pf, aF, kF, pg, aG, kG, false, [], 0⟩ + 1) r.gc] <| asks [oldL (xE J ⟨pf, aF, kF, pg, aG, kG, false, [], 0⟩ + 1) r.gc] <| asks (wG (xE J ⟨pf, aF, kF, pg, aG, kG, false, [], 0⟩ + 1) (rowGr r j)) <| asksO J <|
      asks (oldR (xE J ⟨pf, aF, kF, pg, aG, kG, false, [], 0⟩ + 1) r) <| asks (ifb pf [oldL 0 aF]) <| asks (ifb pg [oldL 0 aG]) <| asks (wG (xE J ⟨pf, aF, kF, pg, aG, kG, false, [], 0⟩ + 1) (rowGr r j)) <|
      LRB N m q s J r ⟨pf, aF, kF, pg, aG, kG, false, [], 0⟩ e1 j (rowGr r j) (IntKind.i64.wrap (at' - 1)))
    else insT2 (J.curG ⟨pf, aF, kF, pg, aG, kG, false, [], 0⟩) (curN pg J.bg kG J.kg) at' 8 (rowGr r j) (wG (xE J ⟨pf, aF, kF, pg, aG, kG, false, [], 0⟩ + 1) (rowGr r j)) (wG (xE J ⟨pf, aF, kF, pg, aG, kG, false, [], 0⟩ + 2) (rowGr r j)) fun ac k =>
      (asks (oldJ J (xG J ⟨pf, aF, kF, pg, aG, kG, false, [], 0⟩) r) <| asks [oldL (xG J ⟨pf, aF, kF, pg, aG, kG, false, [], 0⟩) r.gc] <| asksO J <| asks (oldR (xG J ⟨pf, aF, kF, pg, aG, kG, false, [], 0⟩) r) <| asks (ifb pf [oldL 0 aF]) <| asks [oldL 0 ac] <| LRG N m q J r ⟨pf, aF, kF, true, ac, k, false, [], 0⟩ e1 (IntKind.i64.wrap (j + 1))))
  else insT2 (J.curG ⟨pf, aF, kF, pg, aG, kG, false, [], 0⟩) (curN pg J.bg kG J.kg) at' 8 (rowGr r j) (wG (xE J ⟨pf, aF, kF, pg, aG, kG, false, [], 0⟩ + 1) (rowGr r j)) (wG (xE J ⟨pf, aF, kF, pg, aG, kG, false, [], 0⟩ + 2) (rowGr r j)) fun ac k =>
      (asks (oldJ J (xG J ⟨pf, aF, kF, pg, aG, kG, false, [], 0⟩) r) <| asks [oldL (xG J ⟨pf, aF, kF, pg, aG, kG, false, [], 0⟩) r.gc] <| asksO J <| asks (oldR (xG J ⟨pf, aF, kF, pg, aG, kG, false, [], 0⟩) r) <| asks (ifb pf [oldL 0 aF]) <| asks [oldL 0 ac] <| LRG N m q J r ⟨pf, aF, kF, true, ac, k, false, [], 0⟩ e1 (IntKind.i64.wrap (j + 1))))
theorem rB0 (N m q s : Nat) (J : JS) (r : Rw) (pf : Bool) (aF : List PV) (kF : Nat) (aG : List PV) (kG : Nat) (e1 j : Int) (hb : J.bg = false) : LRB N m q (s + 1) J r ⟨pf, aF, kF, false, aG, kG, false, [], 0⟩ e1 j (rowGr r j) 0 =
      (asks (wG (xE J ⟨pf, aF, kF, false, aG, kG, false, [], 0⟩ + 1) (rowGr r j)) <| (asks (oldJ J (xG J ⟨pf, aF, kF, false, aG, kG, false, [], 0⟩) r) <| asks [oldL (xG J ⟨pf, aF, kF, false, aG, kG, false, [], 0⟩) r.gc] <| asksO J <| asks (oldR (xG J ⟨pf, aF, kF, false, aG, kG, false, [], 0⟩) r) <| asks (ifb pf [oldL 0 aF]) <| asks [oldL 0 (rowGr r j)] <| LRG N m q J r ⟨pf, aF, kF, true, (rowGr r j), 1, false, [], 0⟩ e1 (IntKind.i64.wrap (j + 1)))) := by
  obtain ⟨c, n, i, bf, bg, bi, af, kf, ag, kg, ai, ki⟩ := J
  cases bg with
  | true => cases hb
  | false => clear hb; cases bf <;> cases bi <;> cases pf <;> kernel_rfl
end Go.Proofs.YtpbemfikhmeedaaGreatDoor.Am
