/- The document's Join: the groups' loops, second half. -/
import Derived.Test.YtpbemfikhmeedaaGreatDoorMZTxRuC
set_option linter.unusedVariables false
set_option linter.unusedSimpArgs false
set_option maxRecDepth 100000
set_option maxHeartbeats 8000000
namespace Go.Proofs.YtpbemfikhmeedaaGreatDoor.Am
open St
section
variable (N m q s : Nat) (c : List PV) (n : Nat) (i : Int) (af : List PV) (kf : Nat) (ag : List PV) (kg : Nat) (ai : List PV) (ki : Nat) (r : Rw) (aF : List PV) (kF : Nat) (aG : List PV) (kG : Nat) (aI : List PV) (kI : Nat) (e1 e2 j : Int) (at' : Int)
theorem rB_10001 : LRB N m q (s + 1) ⟨c, n, i, true, false, false, af, kf, ag, kg, ai, ki⟩ r ⟨false, aF, kF, true, aG, kG, false, [], 0⟩ e1 j (rowGr r j) at' = rhB N m q s ⟨c, n, i, true, false, false, af, kf, ag, kg, ai, ki⟩ r false aF kF true aG kG e1 j at' := by kernel_rfl
theorem rB_10011 : LRB N m q (s + 1) ⟨c, n, i, true, false, false, af, kf, ag, kg, ai, ki⟩ r ⟨true, aF, kF, true, aG, kG, false, [], 0⟩ e1 j (rowGr r j) at' = rhB N m q s ⟨c, n, i, true, false, false, af, kf, ag, kg, ai, ki⟩ r true aF kF true aG kG e1 j at' := by kernel_rfl
theorem rB_10101 : LRB N m q (s + 1) ⟨c, n, i, true, false, true, af, kf, ag, kg, ai, ki⟩ r ⟨false, aF, kF, true, aG, kG, false, [], 0⟩ e1 j (rowGr r j) at' = rhB N m q s ⟨c, n, i, true, false, true, af, kf, ag, kg, ai, ki⟩ r false aF kF true aG kG e1 j at' := by kernel_rfl
theorem rB_10111 : LRB N m q (s + 1) ⟨c, n, i, true, false, true, af, kf, ag, kg, ai, ki⟩ r ⟨true, aF, kF, true, aG, kG, false, [], 0⟩ e1 j (rowGr r j) at' = rhB N m q s ⟨c, n, i, true, false, true, af, kf, ag, kg, ai, ki⟩ r true aF kF true aG kG e1 j at' := by kernel_rfl
theorem rB_11000 : LRB N m q (s + 1) ⟨c, n, i, true, true, false, af, kf, ag, kg, ai, ki⟩ r ⟨false, aF, kF, false, aG, kG, false, [], 0⟩ e1 j (rowGr r j) at' = rhB N m q s ⟨c, n, i, true, true, false, af, kf, ag, kg, ai, ki⟩ r false aF kF false aG kG e1 j at' := by kernel_rfl
theorem rB_11001 : LRB N m q (s + 1) ⟨c, n, i, true, true, false, af, kf, ag, kg, ai, ki⟩ r ⟨false, aF, kF, true, aG, kG, false, [], 0⟩ e1 j (rowGr r j) at' = rhB N m q s ⟨c, n, i, true, true, false, af, kf, ag, kg, ai, ki⟩ r false aF kF true aG kG e1 j at' := by kernel_rfl
theorem rB_11010 : LRB N m q (s + 1) ⟨c, n, i, true, true, false, af, kf, ag, kg, ai, ki⟩ r ⟨true, aF, kF, false, aG, kG, false, [], 0⟩ e1 j (rowGr r j) at' = rhB N m q s ⟨c, n, i, true, true, false, af, kf, ag, kg, ai, ki⟩ r true aF kF false aG kG e1 j at' := by kernel_rfl
theorem rB_11011 : LRB N m q (s + 1) ⟨c, n, i, true, true, false, af, kf, ag, kg, ai, ki⟩ r ⟨true, aF, kF, true, aG, kG, false, [], 0⟩ e1 j (rowGr r j) at' = rhB N m q s ⟨c, n, i, true, true, false, af, kf, ag, kg, ai, ki⟩ r true aF kF true aG kG e1 j at' := by kernel_rfl
theorem rB_11100 : LRB N m q (s + 1) ⟨c, n, i, true, true, true, af, kf, ag, kg, ai, ki⟩ r ⟨false, aF, kF, false, aG, kG, false, [], 0⟩ e1 j (rowGr r j) at' = rhB N m q s ⟨c, n, i, true, true, true, af, kf, ag, kg, ai, ki⟩ r false aF kF false aG kG e1 j at' := by kernel_rfl
theorem rB_11101 : LRB N m q (s + 1) ⟨c, n, i, true, true, true, af, kf, ag, kg, ai, ki⟩ r ⟨false, aF, kF, true, aG, kG, false, [], 0⟩ e1 j (rowGr r j) at' = rhB N m q s ⟨c, n, i, true, true, true, af, kf, ag, kg, ai, ki⟩ r false aF kF true aG kG e1 j at' := by kernel_rfl
theorem rB_11110 : LRB N m q (s + 1) ⟨c, n, i, true, true, true, af, kf, ag, kg, ai, ki⟩ r ⟨true, aF, kF, false, aG, kG, false, [], 0⟩ e1 j (rowGr r j) at' = rhB N m q s ⟨c, n, i, true, true, true, af, kf, ag, kg, ai, ki⟩ r true aF kF false aG kG e1 j at' := by kernel_rfl
theorem rB_11111 : LRB N m q (s + 1) ⟨c, n, i, true, true, true, af, kf, ag, kg, ai, ki⟩ r ⟨true, aF, kF, true, aG, kG, false, [], 0⟩ e1 j (rowGr r j) at' = rhB N m q s ⟨c, n, i, true, true, true, af, kf, ag, kg, ai, ki⟩ r true aF kF true aG kG e1 j at' := by kernel_rfl
end
end Go.Proofs.YtpbemfikhmeedaaGreatDoor.Am
