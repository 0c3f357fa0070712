/- maglev.Fill: its loop's state at each number of backends. -/
import Derived.Test.YtaofbpldflcjmaaDoorMZMgMaF
set_option linter.unusedVariables false
set_option linter.unusedSimpArgs false
set_option maxRecDepth 100000
set_option maxHeartbeats 4000000
namespace Go.Proofs.YtaofbpldflcjmaaDoor.Am
open St
def fiSt (z : Int) (C : Nat -> Cu) (k : Nat) (cs : List PV) : Store := .mem ⟨[vI 0, .nils, .nils], 3, 1, true, false, true⟩ :: .mem ⟨ptrsF k 2, 1, k, false, false, true⟩ :: (cobs z C k 0 (2 + k) ++ (cbox z C k 0 ++ [.mem ⟨cs, 1, z.toNat, true, false, false⟩]))
def fiSl (c : List PV) (n : Nat) (s : List PV) (sn : Nat) (z : Int) (k : Nat) (i : Int) : List (Nat × PV) :=
  [(0, .sl c 18 n none), (1, vI z), (4, .ptr 0 1 0), (5, .nilif), (6, .fn (.func 12) [] []), (7, .sl s 18 sn none), (8, .osl 1 k 0 1 k none), (9, .nilif), (10, .osl (2 + 3 * k) z.toNat 0 1 z.toNat none), (13, .sl c 18 n none), (14, .sl s 18 sn none), (15, .bool false), (16, vI z), (17, .bool (sizedP z)), (18, .bool !sizedP z),
   (21, .bool false), (22, .sl c 18 n none), (23, .fn (.func 12) [] []), (24, .bool (strange c n)), (27, .bool false), (28, .sl s 18 sn none), (29, vI sn), (30, .bool ((sn : Int) == 0)), (33, .bool false), (34, .sl s 18 sn none), (35, vI sn), (36, .bool (decide ((sn : Int) > 24))), (37, .bool false), (38, .sl s 18 sn none), (39, vI sn), (40, vI z), (41, .bool (decide ((sn : Int) > z))), (42, .bool (decide ((sn : Int) > z))),
   (45, .tup [.osl 1 k 0 1 k none, .nilif]), (46, .sl s 18 sn none), (47, vI z), (48, .tup [.osl 1 k 0 1 k none, .nilif]), (49, .osl 1 k 0 1 k none), (50, .nilif), (51, .nilif), (52, .bool false), (55, .sl [vI (-1)] 1 1 (some 1)), (56, vI z), (57, .osl (2 + 3 * k) z.toNat 0 1 z.toNat none), (58, vI z), (59, vI i)]
noncomputable def LFi (N m : Nat) (c : List PV) (n : Nat) (s : List PV) (sn : Nat) (z : Int) (k : Nat) (C : Nat -> Cu) (cs : List PV) (i : Int) : Option PV := loopS EN TFi H0 N 5 6 Tryd.f6 [1, 1, 1, 1, 1, 1, 1, 0, 1, 0] (patOf (sparse 78 0 (fiSl [] 0 [] 0 0 0 0))) (3 + 3 * k) m (sparse 78 0 (fiSl c n s sn z k i)) (fiSt z C k cs)
def chainF (who : Nat) (f : Nat -> Option PV) : Nat -> Nat -> Option PV
  | 0, _ => none
  | n + 1, j => bif Nat.beq who j then f j else chainF who f n (j + 1)
def csN (z : Int) (x : Cu) (cs : List PV) (w : Int) : List PV := ivs ((cs.map asI).set (tkR z x.s x.a x.d cs).1 w)
def cuN (z : Int) (x : Cu) (cs : List PV) : Cu := ⟨x.o, x.s, ((tkR z x.s x.a x.d cs).2.2 : Int), ((tkR z x.s x.a x.d cs).2.1 : Int)⟩
def askF (k : Nat) (c s : List PV) (z : Int) (x : Cu) (cs : List PV) (w : Int) : List Bool :=
  [oldL 0 cs, Nat.beq 47 47 && (z.toNat.beq z.toNat && (z.toNat.beq z.toNat && (decide (z = z) && (decide (x.o = x.o) && (decide (x.s = x.s) && tkA z x.s x.a x.d cs z.toNat))))),
   oldL 0 (csN z x cs w), oldL (3 + 3 * k) c, oldL (3 + 3 * k) s, oldL (3 + 3 * k) c, oldL (3 + 3 * k) s, oldL (3 + 3 * k) c, oldL (3 + 3 * k) s, oldL (3 + 3 * k) s, oldL (3 + 3 * k) s, oldL (3 + 3 * k) s, oldL 0 (csN z x cs w)]
def takeZ (z : Int) (cs : List PV) : List PV := List.take (z.toNat * 1) (List.drop 0 cs)
def exitF (s : List PV) (sn : Nat) (z : Int) (cs : List PV) : Option PV :=
  asks [z.toNat == z.toNat && (decide (0 + z.toNat * 1 <= cs.length) && (decide (0 < 1) && (takeZ z cs).all PV.calm)), oldL 0 s, oldL 0 (takeZ z cs)] <| some (.tup [.agg [vI z, .sl s 18 sn none, .sl (takeZ z cs) 1 z.toNat none], .nilif])
def FiR (k : Nat) : Prop := ∀ (N m : Nat) (c : List PV) (n : Nat) (s : List PV) (sn : Nat) (z : Int) (C : Nat -> Cu) (cs : List PV) (i : Int), LFi N (m + 1) c n s sn z k C cs i =
  (bif decide (i < z) then
    (asks [(sn : Int) != 0, decide (0 <= i.tmod (sn : Int)) && decide (i.tmod (sn : Int) < (k : Int))] <|
     chainF (0 + (i.tmod (sn : Int)).toNat * 1) (fun j => asks (askF k c s z (C j) cs (i.tmod (sn : Int))) <| LFi N m c n s sn z k (updC C j (cuN z (C j) cs)) (csN z (C j) cs (i.tmod (sn : Int))) (IntKind.i64.wrap (i + 1))) k 0)
   else exitF s sn z cs)
end Go.Proofs.YtaofbpldflcjmaaDoor.Am
