/- ScriptEncodes: all summaries joined. -/
import Derived.Test.YtbnfofcbajaiiaaDoorSe7
import Derived.Test.YtbnfofcbajaiiaaDoorLaid
set_option linter.unusedVariables false
set_option maxRecDepth 100000
set_option maxHeartbeats 4000000
namespace Go.Proofs.YtbnfofcbajaiiaaDoor.Am

def isTrue : Option PV → Bool
  | some (.bool b) => b
  | _ => false

theorem isTrue_eq : ∀ {x : Option PV}, isTrue x = true → x = some (.bool true)
  | some (.bool true), _ => rfl

def isNum (n : Nat) : Option PV → Bool
  | some (.int .i64 (.ofNat k)) => Nat.beq k n
  | _ => false

theorem isNum_eq {n : Nat} : ∀ {x : Option PV}, isNum n x = true → x = some (.int .i64 n)
  | some (.int .i64 (.ofNat k)), h => by
    have : k = n := Nat.eq_of_beq_eq_true h
    rw [this]; rfl

theorem alive6 : apartA EN (runA EN 1000009 20) 6 [] = some (.bool true) := isTrue_eq (by kernel_rfl)

theorem num0 : apartA EN (runA EN 1000009 20) 11 [.nilif] = some (.int .i64 0) := isNum_eq (n := 0) (by kernel_rfl)

theorem nums : ((List.range 18).all fun g => isNum (g + 1) (apartA EN (runA EN 1000009 20) 11 [.iface 188 (.gptr g)])) = true := by kernel_rfl

theorem runNum (xs : List PV) (v : PV) (h : gNum xs = some (true, v)) : apartA EN (runA EN 1000009 20) 11 xs = some v := by
  unfold gNum at h
  split at h
  · cases h; exact num0
  · rename_i t g
    simp only [Option.some.injEq, Prod.mk.injEq, Bool.and_eq_true] at h
    obtain ⟨⟨h1, h2⟩, rfl⟩ := h
    have h1 := Nat.eq_of_beq_eq_true h1
    subst h1
    have hg : g < 18 := Nat.le_of_ble_eq_true h2
    have := List.all_eq_true.1 nums g (by simp [hg])
    exact isNum_eq this
  · cases h

theorem pureN {f : FuncId} (h : Nat.beq f 25 = false) (xs : List PV) : EN.pure f xs = none := by
  show pureT f xs = none
  unfold pureT
  rw [h]
  rfl

theorem TAll_ok : TOk EN TAll (runA EN 1000009 100) := by
  have hCat : TOk EN TCat (runA EN 1000009 (0 + (5 + 1))) := Tadd_ok T0_ok (pureN rfl) (fun xs v h => runCat (by decide) xs v h)
  have hEnt : TOk EN TEnt (runA EN 1000009 (0 + (5 + 1) + (0 + (5 + 1) + (5 + 1)))) := TaddT_ok2 hCat hCat (pureN rfl) (fun xs t v h hv => runEnt xs t v h hv)
  have hSame : TOk EN TSame (runA EN 1000009 (0 + (5 + 1))) := Tadd_ok T0_ok (pureN rfl) (fun xs v h => run13 xs v h)
  have hLong := Tadd_ok2 (K' := 0) hSame T0_ok (pureN rfl) (fun xs v h => run7 (N := 1000009) (by decide) xs v h)
  have hLong' : TOk EN TLong (runA EN 1000009 20) := hLong.le (runA_le' _ (by decide))
  have hNum : TOk EN TNum (runA EN 1000009 20) := Tadd_run hLong' (fun xs v h => runNum xs v h)
  have hOf := Tadd_ok2 (K' := 0) hNum T0_ok (pureN rfl) (fun xs v h => run10 (N := 1000009) (by decide) xs v h)
  have hDec := Tadd_ok2 (K' := 0) hOf T0_ok (pureN rfl) (fun xs v h => run11 (N := 1000009) (by decide) xs v h)
  have hRef := TaddT_ok2 (K' := 0) hDec T0_ok (pureN rfl) (fun xs t v h hv => run9 (N := 1000009) (by decide) xs t v h hv)
  have hEnc := TaddT_ok2 hRef hEnt (pureN rfl) (fun xs t v h hv => run8 (N := 1000009) (by decide) xs t v h hv)
  have hEnc' : TOk EN TEnc (runA EN 1000009 100) := hEnc.le (runA_le' _ (by decide))
  refine Tadd_run hEnc' fun xs v h => ?_
  unfold gYes at h
  split at h
  · cases h; exact apartA_le (runA_le' _ (by decide)) alive6
  · cases h

theorem law3 (l : List Act) : apartA EN (runA EN 1000009 106) 3 [.sl (l.flatMap Act.enc) 3 l.length none] = some (.bool true) :=
  apartS_ok (K := 100) (d := 5) TAll_ok (pureN rfl _) (holds3 1000009 (by decide) l)

end Go.Proofs.YtbnfofcbajaiiaaDoor.Am
