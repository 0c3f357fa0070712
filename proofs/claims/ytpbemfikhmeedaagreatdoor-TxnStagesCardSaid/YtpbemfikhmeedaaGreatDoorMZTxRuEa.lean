/- The document's Join: the filters' loops, a quarter. -/
import Derived.Test.YtpbemfikhmeedaaGreatDoorMZTxRuD
set_option linter.unusedVariables false
set_option linter.unusedSimpArgs false
set_option maxRecDepth 100000
set_option maxHeartbeats 8000000
namespace Go.Proofs.YtpbemfikhmeedaaGreatDoor.Am
open St
section
variable (N m q s : Nat) (c : List PV) (n : Nat) (i : Int) (af : List PV) (kf : Nat) (ag : List PV) (kg : Nat) (ai : List PV) (ki : Nat) (r : Rw) (aF : List PV) (kF : Nat) (aG : List PV) (kG : Nat) (aI : List PV) (kI : Nat) (e1 e2 j : Int) (at' : Int)
theorem rC_010001 : LRC N m q (s + 1) ⟨c, n, i, false, true, false, af, kf, ag, kg, ai, ki⟩ r ⟨false, aF, kF, false, aG, kG, true, aI, kI⟩ e1 e2 j (rowI r j) at' = rhC N m q s ⟨c, n, i, false, true, false, af, kf, ag, kg, ai, ki⟩ r false aF kF false aG kG true aI kI e1 e2 j at' := by kernel_rfl
theorem rC_010011 : LRC N m q (s + 1) ⟨c, n, i, false, true, false, af, kf, ag, kg, ai, ki⟩ r ⟨false, aF, kF, true, aG, kG, true, aI, kI⟩ e1 e2 j (rowI r j) at' = rhC N m q s ⟨c, n, i, false, true, false, af, kf, ag, kg, ai, ki⟩ r false aF kF true aG kG true aI kI e1 e2 j at' := by kernel_rfl
theorem rC_010101 : LRC N m q (s + 1) ⟨c, n, i, false, true, false, af, kf, ag, kg, ai, ki⟩ r ⟨true, aF, kF, false, aG, kG, true, aI, kI⟩ e1 e2 j (rowI r j) at' = rhC N m q s ⟨c, n, i, false, true, false, af, kf, ag, kg, ai, ki⟩ r true aF kF false aG kG true aI kI e1 e2 j at' := by kernel_rfl
theorem rC_010111 : LRC N m q (s + 1) ⟨c, n, i, false, true, false, af, kf, ag, kg, ai, ki⟩ r ⟨true, aF, kF, true, aG, kG, true, aI, kI⟩ e1 e2 j (rowI r j) at' = rhC N m q s ⟨c, n, i, false, true, false, af, kf, ag, kg, ai, ki⟩ r true aF kF true aG kG true aI kI e1 e2 j at' := by kernel_rfl
theorem rC_011000 : LRC N m q (s + 1) ⟨c, n, i, false, true, true, af, kf, ag, kg, ai, ki⟩ r ⟨false, aF, kF, false, aG, kG, false, aI, kI⟩ e1 e2 j (rowI r j) at' = rhC N m q s ⟨c, n, i, false, true, true, af, kf, ag, kg, ai, ki⟩ r false aF kF false aG kG false aI kI e1 e2 j at' := by kernel_rfl
theorem rC_011001 : LRC N m q (s + 1) ⟨c, n, i, false, true, true, af, kf, ag, kg, ai, ki⟩ r ⟨false, aF, kF, false, aG, kG, true, aI, kI⟩ e1 e2 j (rowI r j) at' = rhC N m q s ⟨c, n, i, false, true, true, af, kf, ag, kg, ai, ki⟩ r false aF kF false aG kG true aI kI e1 e2 j at' := by kernel_rfl
theorem rC_011010 : LRC N m q (s + 1) ⟨c, n, i, false, true, true, af, kf, ag, kg, ai, ki⟩ r ⟨false, aF, kF, true, aG, kG, false, aI, kI⟩ e1 e2 j (rowI r j) at' = rhC N m q s ⟨c, n, i, false, true, true, af, kf, ag, kg, ai, ki⟩ r false aF kF true aG kG false aI kI e1 e2 j at' := by kernel_rfl
theorem rC_011011 : LRC N m q (s + 1) ⟨c, n, i, false, true, true, af, kf, ag, kg, ai, ki⟩ r ⟨false, aF, kF, true, aG, kG, true, aI, kI⟩ e1 e2 j (rowI r j) at' = rhC N m q s ⟨c, n, i, false, true, true, af, kf, ag, kg, ai, ki⟩ r false aF kF true aG kG true aI kI e1 e2 j at' := by kernel_rfl
theorem rC_011100 : LRC N m q (s + 1) ⟨c, n, i, false, true, true, af, kf, ag, kg, ai, ki⟩ r ⟨true, aF, kF, false, aG, kG, false, aI, kI⟩ e1 e2 j (rowI r j) at' = rhC N m q s ⟨c, n, i, false, true, true, af, kf, ag, kg, ai, ki⟩ r true aF kF false aG kG false aI kI e1 e2 j at' := by kernel_rfl
theorem rC_011101 : LRC N m q (s + 1) ⟨c, n, i, false, true, true, af, kf, ag, kg, ai, ki⟩ r ⟨true, aF, kF, false, aG, kG, true, aI, kI⟩ e1 e2 j (rowI r j) at' = rhC N m q s ⟨c, n, i, false, true, true, af, kf, ag, kg, ai, ki⟩ r true aF kF false aG kG true aI kI e1 e2 j at' := by kernel_rfl
theorem rC_011110 : LRC N m q (s + 1) ⟨c, n, i, false, true, true, af, kf, ag, kg, ai, ki⟩ r ⟨true, aF, kF, true, aG, kG, false, aI, kI⟩ e1 e2 j (rowI r j) at' = rhC N m q s ⟨c, n, i, false, true, true, af, kf, ag, kg, ai, ki⟩ r true aF kF true aG kG false aI kI e1 e2 j at' := by kernel_rfl
theorem rC_011111 : LRC N m q (s + 1) ⟨c, n, i, false, true, true, af, kf, ag, kg, ai, ki⟩ r ⟨true, aF, kF, true, aG, kG, true, aI, kI⟩ e1 e2 j (rowI r j) at' = rhC N m q s ⟨c, n, i, false, true, true, af, kf, ag, kg, ai, ki⟩ r true aF kF true aG kG true aI kI e1 e2 j at' := by kernel_rfl
end
end Go.Proofs.YtpbemfikhmeedaaGreatDoor.Am
