/- ForwardWords: the words' variable; the check's own example; the law's tree. -/
import Derived.Test.YtbeoagcldeolhaaGreatDoorFwLaidE
set_option linter.unusedVariables false
set_option linter.unusedSimpArgs false
set_option maxRecDepth 100000
namespace Go.Proofs.YtbeoagcldeolhaaGreatDoor.Am

def wordsC : List (List UInt8) := [[112, 97, 115, 115], [109, 97, 108, 102, 111, 114, 109, 101, 100], [102, 111, 114, 119, 97, 114, 100], [114, 101, 112, 108, 121], [102, 105, 108, 116, 101, 114, 101, 100], [114, 101, 106, 101, 99, 116, 101, 100], [102, 117, 108, 108]]

def wordsG (g : Nat) : Option (List PV) := bif Nat.beq g 18 then some (wordsC.map PV.str) else errG g

noncomputable def EW : Env := EG wordsG

def isTrue : Option PV → Bool
  | some (.bool b) => b
  | _ => false

theorem isTrue_eq : ∀ {x : Option PV}, isTrue x = true → x = some (.bool true)
  | some (.bool true), _ => rfl

theorem aliveW : apartA EW (runA EW 1000009 60) 27 [] = some (.bool true) := isTrue_eq (by kernel_rfl)

noncomputable def gAliveW (xs : List PV) : Option (Bool × PV) := match xs with
  | [] => some (true, .bool true)
  | _ => none
noncomputable def TW : Table := Tadd T0 27 gAliveW

theorem txw (N : Nat) (n : Int) : apartS EW TW H0 N 3 5 [PV.int IntKind.i64 n] =
  (bif decide (n ≥ 0) then
    (bif decide (n ≤ 6) then
      (ass (decide (0 ≤ n) && decide (n < (↑7 : Int))) <|
      ass (okAt [Kd.str] [PV.str [112, 97, 115, 115], PV.str [109, 97, 108, 102, 111, 114, 109, 101, 100], PV.str [102, 111, 114, 119, 97, 114, 100], PV.str [114, 101, 112, 108, 121], PV.str [102, 105, 108, 116, 101, 114, 101, 100], PV.str [114, 101, 106, 101, 99, 116, 101, 100], PV.str [102, 117, 108, 108]] (n.toNat * 1)) <|
        bif decide (n < 0) then
            (some (PV.bool ([] == asS ([PV.str [112, 97, 115, 115], PV.str [109, 97, 108, 102, 111, 114, 109, 101, 100], PV.str [102, 111, 114, 119, 97, 114, 100], PV.str [114, 101, 112, 108, 121], PV.str [102, 105, 108, 116, 101, 114, 101, 100], PV.str [114, 101, 106, 101, 99, 116, 101, 100], PV.str [102, 117, 108, 108]].getD (n.toNat * 1) PV.nilp))))
          else
            (bif decide (n > 6) then
              (some (PV.bool ([] == asS ([PV.str [112, 97, 115, 115], PV.str [109, 97, 108, 102, 111, 114, 109, 101, 100], PV.str [102, 111, 114, 119, 97, 114, 100], PV.str [114, 101, 112, 108, 121], PV.str [102, 105, 108, 116, 101, 114, 101, 100], PV.str [114, 101, 106, 101, 99, 116, 101, 100], PV.str [102, 117, 108, 108]].getD (n.toNat * 1) PV.nilp))))
            else
              (ass (decide (0 ≤ n) && decide (n < (↑7 : Int))) <|
              ass (okAt [Kd.str] [PV.str [112, 97, 115, 115], PV.str [109, 97, 108, 102, 111, 114, 109, 101, 100], PV.str [102, 111, 114, 119, 97, 114, 100], PV.str [114, 101, 112, 108, 121], PV.str [102, 105, 108, 116, 101, 114, 101, 100], PV.str [114, 101, 106, 101, 99, 116, 101, 100], PV.str [102, 117, 108, 108]] (0 + n.toNat * 1)) <|
                some (PV.bool (asS ([PV.str [112, 97, 115, 115], PV.str [109, 97, 108, 102, 111, 114, 109, 101, 100], PV.str [102, 111, 114, 119, 97, 114, 100], PV.str [114, 101, 112, 108, 121], PV.str [102, 105, 108, 116, 101, 114, 101, 100], PV.str [114, 101, 106, 101, 99, 116, 101, 100], PV.str [102, 117, 108, 108]].getD (0 + n.toNat * 1) PV.nilp) == asS ([PV.str [112, 97, 115, 115], PV.str [109, 97, 108, 102, 111, 114, 109, 101, 100], PV.str [102, 111, 114, 119, 97, 114, 100], PV.str [114, 101, 112, 108, 121], PV.str [102, 105, 108, 116, 101, 114, 101, 100], PV.str [114, 101, 106, 101, 99, 116, 101, 100], PV.str [102, 117, 108, 108]].getD (n.toNat * 1) PV.nilp))))))
    else
      (bif decide (n < 0) then
        (some (PV.bool true))
      else
        (bif decide (n > 6) then
          (some (PV.bool true))
        else
          (ass (decide (0 ≤ n) && decide (n < (↑7 : Int))) <|
          ass (okAt [Kd.str] [PV.str [112, 97, 115, 115], PV.str [109, 97, 108, 102, 111, 114, 109, 101, 100], PV.str [102, 111, 114, 119, 97, 114, 100], PV.str [114, 101, 112, 108, 121], PV.str [102, 105, 108, 116, 101, 114, 101, 100], PV.str [114, 101, 106, 101, 99, 116, 101, 100], PV.str [102, 117, 108, 108]] (0 + n.toNat * 1)) <|
            some (PV.bool (asS ([PV.str [112, 97, 115, 115], PV.str [109, 97, 108, 102, 111, 114, 109, 101, 100], PV.str [102, 111, 114, 119, 97, 114, 100], PV.str [114, 101, 112, 108, 121], PV.str [102, 105, 108, 116, 101, 114, 101, 100], PV.str [114, 101, 106, 101, 99, 116, 101, 100], PV.str [102, 117, 108, 108]].getD (0 + n.toNat * 1) PV.nilp) == []))))))
  else
    (bif decide (n < 0) then
      (some (PV.bool true))
    else
      (bif decide (n > 6) then
        (some (PV.bool true))
      else
        (ass (decide (0 ≤ n) && decide (n < (↑7 : Int))) <|
        ass (okAt [Kd.str] [PV.str [112, 97, 115, 115], PV.str [109, 97, 108, 102, 111, 114, 109, 101, 100], PV.str [102, 111, 114, 119, 97, 114, 100], PV.str [114, 101, 112, 108, 121], PV.str [102, 105, 108, 116, 101, 114, 101, 100], PV.str [114, 101, 106, 101, 99, 116, 101, 100], PV.str [102, 117, 108, 108]] (0 + n.toNat * 1)) <|
          some (PV.bool (asS ([PV.str [112, 97, 115, 115], PV.str [109, 97, 108, 102, 111, 114, 109, 101, 100], PV.str [102, 111, 114, 119, 97, 114, 100], PV.str [114, 101, 112, 108, 121], PV.str [102, 105, 108, 116, 101, 114, 101, 100], PV.str [114, 101, 106, 101, 99, 116, 101, 100], PV.str [102, 117, 108, 108]].getD (0 + n.toNat * 1) PV.nilp) == [])))))) := by kernel_rfl

theorem txw0 (N : Nat) : apartS EW TW H0 N 3 5 [PV.int IntKind.i64 0] = some (.bool true) := by kernel_rfl
theorem txw1 (N : Nat) : apartS EW TW H0 N 3 5 [PV.int IntKind.i64 1] = some (.bool true) := by kernel_rfl
theorem txw2 (N : Nat) : apartS EW TW H0 N 3 5 [PV.int IntKind.i64 2] = some (.bool true) := by kernel_rfl
theorem txw3 (N : Nat) : apartS EW TW H0 N 3 5 [PV.int IntKind.i64 3] = some (.bool true) := by kernel_rfl
theorem txw4 (N : Nat) : apartS EW TW H0 N 3 5 [PV.int IntKind.i64 4] = some (.bool true) := by kernel_rfl
theorem txw5 (N : Nat) : apartS EW TW H0 N 3 5 [PV.int IntKind.i64 5] = some (.bool true) := by kernel_rfl
theorem txw6 (N : Nat) : apartS EW TW H0 N 3 5 [PV.int IntKind.i64 6] = some (.bool true) := by kernel_rfl

theorem txw_true (N : Nat) (n : Int) : apartS EW TW H0 N 3 5 [PV.int IntKind.i64 n] = some (.bool true) := by
  by_cases h1 : n ≥ 0
  · by_cases h2 : n ≤ 6
    · have : n = 0 ∨ n = 1 ∨ n = 2 ∨ n = 3 ∨ n = 4 ∨ n = 5 ∨ n = 6 := by omega
      rcases this with rfl | rfl | rfl | rfl | rfl | rfl | rfl
      · exact txw0 N
      · exact txw1 N
      · exact txw2 N
      · exact txw3 N
      · exact txw4 N
      · exact txw5 N
      · exact txw6 N
    · rw [txw]
      have h3 : n > 6 := by omega
      have h4 : ¬ n < 0 := by omega
      simp [h2, h3]
  · rw [txw]
    have h4 : n < 0 := by omega
    have h5 : ¬ 0 ≤ n := h1
    simp [h4, h5]

theorem TW_ok : TOk EW TW (runA EW 1000009 60) := Tadd_run T0_ok fun xs v h => by
  unfold gAliveW at h
  split at h
  · cases h; exact aliveW
  · cases h

theorem txw_law (n : Int) : apartA EW (runA EW 1000009 64) 5 [PV.int IntKind.i64 n] = some (.bool true) :=
  apartS_ok (K := 60) (d := 3) TW_ok rfl (txw_true 1000009 n)

theorem wordsG_ok : GOk wordsG where
  err := fun g h => by
    unfold wordsG
    have : Nat.beq g 18 = false := by
      cases hb : Nat.beq g 18 with
      | false => rfl
      | true =>
        have := Nat.eq_of_beq_eq_true hb
        subst this
        have k : memN 18 errGs = false := by kernel_rfl
        rw [k] at h; cases h
    rw [this]; rfl
  old := fun g cells h => by
    unfold wordsG at h
    cases hb : Nat.beq g 18 with
    | true => rw [hb] at h; cases h; rfl
    | false => rw [hb] at h; exact errG_ok.old g cells h

end Go.Proofs.YtbeoagcldeolhaaGreatDoor.Am
