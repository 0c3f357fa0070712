/- maglev.Fill: its head. -/
import Derived.Test.YtaofbpldflcjmaaDoorMZMgMaG
set_option linter.unusedVariables false
set_option linter.unusedSimpArgs false
set_option maxRecDepth 100000
set_option maxHeartbeats 4000000
namespace Go.Proofs.YtaofbpldflcjmaaDoor.Am
open St
def errV (g : Nat) : PV := .iface 128 (.gptr g)
def noTab : PV := .agg [vI 0, .sl [] 18 0 none, .sl [] 1 0 none]
def chainK (n : Nat) (f : Nat -> Option PV) : Nat -> Option PV
  | 0 => none
  | k + 1 => bif Nat.beq n (k + 1) then f (k + 1) else chainK n f k
def negs (z : Int) : List PV := List.replicate z.toNat (vI (-1))
noncomputable def headF (N : Nat) (c : List PV) (n : Nat) (z : Int) : Option PV :=
  asks [oldL 0 c, Nat.beq 18 18 && goodP n c] <|
  bif !sizedP z then some (.tup [noTab, errV 0]) else
  asks [oldL 0 c, Nat.beq 18 18 && (Nat.beq 12 12 && rowsC KPt n c)] <|
  bif strange c n then some (.tup [noTab, errV 1]) else
  bif (Sp.srn c n : Int) == 0 then some (.tup [noTab, errV 2]) else
  bif decide ((Sp.srn c n : Int) > 24) then some (.tup [noTab, errV 3]) else
  bif decide ((Sp.srn c n : Int) > z) then some (.tup [noTab, errV 3]) else
  asks [oldL 0 (Sp.srt c n)] <|
  chainK (Sp.srn c n) (fun k => asks [Nat.beq 18 18 && (rowsC KPt (Sp.srn c n) (Sp.srt c n) && sizedP z), sizedP z, oldL 0 (negs z)] <| LFi N N c n (Sp.srt c n) (Sp.srn c n) z k (cursF (Sp.srt c n) z) (negs z) 0) 24
theorem fi0 (N : Nat) (c : List PV) (n : Nat) (z : Int) : apartS EN TFi H0 N 5 6 [.sl c 18 n none, .int .i64 z] = headF N c n z := by kernel_rfl
end Go.Proofs.YtaofbpldflcjmaaDoor.Am
