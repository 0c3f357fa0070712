/- maglev.cursors: states, each number of cursors. -/
import Derived.Test.YtaofbpldflcjmaaDoorMMM2
set_option linter.unusedVariables false
set_option linter.unusedSimpArgs false
set_option maxRecDepth 100000
set_option maxHeartbeats 4000000
namespace Go.Proofs.YtaofbpldflcjmaaDoor.Am
section
open St
def Sp.put (x : List PV) : List PV := putP (ptAt x 0)
def Sp.putn (x : List PV) : Nat := putN (ptAt x 0)
def gPuR (xs : List PV) : Option (Bool × PV) := match xs with
  | [.agg x] => some (wk KPt x, .sl (Sp.put x) 1 (Sp.putn x) none)
  | _ => none
theorem pt_of {x : List PV} (h : wk KPt x = true) : x = (ptAt x 0).cs := (shape_of h).symm
theorem runPuR (xs : List PV) (v : PV) (hg : gPuR xs = some (true, v)) : ∃ H, apartS EN TBy H 1000009 5 31 xs = some v := by
  unfold gPuR at hg
  split at hg
  . rename_i x
    simp only [Option.some.injEq, Prod.mk.injEq] at hg
    obtain ⟨hw, rfl⟩ := hg
    have e := pt_of hw
    unfold Sp.put Sp.putn
    generalize ptAt x 0 = p at e ⊢
    subst e
    obtain ⟨⟨s, b⟩, p⟩ := p
    cases s with
    | true => exact ⟨H0, tPutS 999989 b p⟩
    | false => exact ⟨H0, tPutF 999989 b p⟩
  . cases hg
noncomputable def TCu : Table := Tadd (TaddT (Tadd TPl 31 gPuR) 30 gSof) 48 gSr
theorem TCuok : TR TCu := ((TPlok.add TByok runPuR).addT TSook runSof).add TSzok runSr
def HCu : FuncId -> Hint := fun f t => bif Nat.beq f 32 && Nat.beq t 10 then [none, none, none, none, none, none, none, none, some false] else []
structure Cu where
  o : Int
  s : Int
  d : Int
  a : Int
def ptrsF : Nat -> Nat -> List PV
  | 0, _ => []
  | n + 1, k => .ptr k 1 0 :: ptrsF n (k + 1)
def cobs (z : Int) (C : Nat -> Cu) : Nat -> Nat -> Nat -> Store
  | 0, _, _ => []
  | n + 1, i, k => .mem ⟨[vI z, vI (C i).o, vI (C i).s, vI (C i).d, .fn (.func 47) [] [.ptr k 1 0, .ptr (k + 1) 1 0]], 5, 1, true, false, true⟩ :: cobs z C n (i + 1) (k + 2)
def cbox (z : Int) (C : Nat -> Cu) : Nat -> Nat -> Store
  | 0, _ => []
  | n + 1, i => .mem ⟨[vI (C i).a], 1, 1, true, false, true⟩ :: .mem ⟨[vI z, vI (C i).o, vI (C i).s], 3, 1, true, false, true⟩ :: cbox z C n (i + 1)
def cuSt (z : Int) (C : Nat -> Cu) (j : Nat) : Store := match j with
  | 0 => []
  | j + 1 => .mem ⟨ptrsF (j + 1) 1, 1, j + 1, false, false, true⟩ :: (cobs z C (j + 1) 0 (2 + j) ++ cbox z C (j + 1) 0)
def cuO (j : Nat) : PV := match j with
  | 0 => .nils
  | j + 1 => .osl 0 (j + 1) 0 1 (j + 1) none
def updC (C : Nat -> Cu) (j : Nat) (x : Cu) : Nat -> Cu := fun i => bif Nat.beq i j then x else C i
noncomputable def LCu (N m : Nat) (c : List PV) (n : Nat) (z : Int) (C : Nat -> Cu) (j : Nat) (i : Int) : Option PV := loopSF EN TCu HCu N 5 0 17 Tryd.f17 [1, 1, 0, 1, 0] (patOf (sparse 34 0 [(0, .nils), (1, vI 0), (4, .nils), (5, .nilif), (6, .nils), (11, .nils), (12, vI 0), (13, vI 0)])) 0 m (sparse 34 0 [(0, .sl c 18 n none), (1, vI z), (4, .nils), (5, .nilif), (6, cuO j), (11, .sl c 18 n none), (12, vI n), (13, vI i)]) (cuSt z C j)
def poAt (c : List PV) (i : Int) : List PV := shapeAt KPt c (i.toNat * 18)
def newC (z : Int) (x : List PV) : Cu := ⟨ofO (Sp.put x) z, ofS (Sp.put x) z, 0, pl0 z (ofO (Sp.put x) z) (ofS (Sp.put x) z)⟩
def rndC (c : List PV) (n : Nat) (z i : Int) (k e : Option PV) : Option PV :=
  bif decide (i < (n : Int)) then
    (asks [decide (0 <= i) && decide (i < (n : Int)), okAt KPt c (i.toNat * 18)] <| asks [oldL 0 (Sp.put (poAt c i))] <|
     bif sizedP z then
       (asks [Nat.beq 1 1 && okB (Sp.put (poAt c i)) (Sp.putn (poAt c i)), srP z (ofO (Sp.put (poAt c i)) z) (ofS (Sp.put (poAt c i)) z) && z != 0, !!srP z (ofO (Sp.put (poAt c i)) z) (ofS (Sp.put (poAt c i)) z), oldL 0 c, oldL 0 c] <| k)
     else some (.tup [.tup [.nils, errR], .tup []]))
  else e
def CuR (j : Nat) : Prop := ∀ (N m : Nat) (c : List PV) (n : Nat) (z : Int) (C : Nat -> Cu) (i : Int), LCu N (m + 1) c n z C j i =
  rndC c n z i (LCu N m c n z (updC C j (newC z (poAt c i))) (j + 1) (IntKind.i64.wrap (i + 1))) (some (.tup [.tup [cuO j, .nilif], encS (cuSt z C j)]))
end
section
open St
theorem cuR0 : CuR 0 := fun N m c n z C i => by kernel_rfl
theorem cuR1 : CuR 1 := fun N m c n z C i => by kernel_rfl
theorem cuR2 : CuR 2 := fun N m c n z C i => by kernel_rfl
theorem cuR3 : CuR 3 := fun N m c n z C i => by kernel_rfl
theorem cuR4 : CuR 4 := fun N m c n z C i => by kernel_rfl
theorem cuR5 : CuR 5 := fun N m c n z C i => by kernel_rfl
theorem cuR6 : CuR 6 := fun N m c n z C i => by kernel_rfl
theorem cuR7 : CuR 7 := fun N m c n z C i => by kernel_rfl
theorem cuR8 : CuR 8 := fun N m c n z C i => by kernel_rfl
theorem cuR9 : CuR 9 := fun N m c n z C i => by kernel_rfl
theorem cuR10 : CuR 10 := fun N m c n z C i => by kernel_rfl
theorem cuR11 : CuR 11 := fun N m c n z C i => by kernel_rfl
theorem cuR12 : CuR 12 := fun N m c n z C i => by kernel_rfl
end
end Go.Proofs.YtaofbpldflcjmaaDoor.Am
