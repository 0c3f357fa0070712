/- TraceSame: its law at every two traces. -/
import Derived.Test.YtcjcinipfdameacGreatDoorTsTs4
set_option linter.unusedVariables false
set_option linter.unusedSimpArgs false
set_option maxRecDepth 100000
set_option maxHeartbeats 8000000
namespace Go.Proofs.YtcjcinipfdameacGreatDoor.Am

def isTrue : Option PV → Bool
  | some (.bool b) => b
  | _ => false

theorem isTrue_eq : ∀ {x : Option PV}, isTrue x = true → x = some (.bool true)
  | some (.bool true), _ => rfl

theorem aliveT : apartA EN (runA EN 1000009 60) 4 [] = some (.bool true) := isTrue_eq (by kernel_rfl)

theorem pureN {f : FuncId} (h1 : Nat.beq f 17 = false) (h2 : Nat.beq f 119 = false) (h3 : Nat.beq f 52 = false) (h4 : Nat.beq f 237 = false) (xs : List PV) : EN.pure f xs = none := by
  show pureT f xs = none
  unfold pureT pureJoin pureT1 pureSum pureT0
  rw [h1, h2, h3, h4]
  rfl

theorem joinT {rec : Rec} (xs : List PV) (v : PV) (h : gJn xs = some (true, v)) : apartA EN rec 17 xs = some v := by
  unfold gJn at h
  split at h
  · rename_i a n sep
    simp only [Option.some.injEq, Prod.mk.injEq, Bool.and_eq_true, decide_eq_true_eq] at h
    obtain ⟨⟨h1, h2, h3⟩, rfl⟩ := h
    have hp : EN.pure 17 [.sl a 1 n none, .str sep] = some (.str (Sp.joined sep (Sp.strs a))) := by
      show pureT _ _ = _
      unfold pureT pureJoin
      simp only [Nat.beq_refl, cond_true, texts_P h1]
      rw [show (decide (n ≤ 1000000) && decide ((Sp.joined sep (Sp.strs a)).length ≤ 140737488355328)) = true from by simp; omega]
      rfl
    unfold apartA
    rw [hp]
  · cases h

theorem TTs_ok : TOk EN TTs (runA EN 1000009 300) := by
  have hJ : ∀ {n K : Nat}, TOk EN TJn (runA EN n K) := fun {n K} => Tadd_of T0_ok fun xs v h => joinT xs v h
  have hE := Tadd_ok2 (K := 0) (K' := 0) hJ T0_ok (pureN rfl rfl rfl rfl) (fun xs v h => runEq (N := 1000009) (by decide) xs v h)
  have hE2 := Tadd_ok2 (K' := 0) hE T0_ok (pureN rfl rfl rfl rfl) (fun xs v h => runSm (N := 1000009) (by decide) xs v h)
  have hE3 : TOk EN TEq (runA EN 1000009 12) := hE2.le (runA_le' _ (by decide))
  have hS := Tadd_ok2 hE3 hE3 (pureN rfl rfl rfl rfl) (fun xs v h => (runSame (N := 1000009) xs v h).1)
  have hS2 := Tadd_ok2 hS hE3 (pureN rfl rfl rfl rfl) (fun xs v h => (runSame (N := 1000009) xs v h).2)
  have hL := Tadd_ok2 (K' := 0) hS2 hJ (pureN rfl rfl rfl rfl) (fun xs v h => runLine (N := 1000009) xs v h)
  have hL2 := Tadd_ok2 (K' := 0) hL T0_ok (pureN rfl rfl rfl rfl) (fun xs v h => runLineR (N := 1000009) (by decide) xs v h)
  have hN := Tadd_ok2 (K' := 0) hL2 T0_ok (pureN rfl rfl rfl rfl) (fun xs v h => runLng (N := 1000009) (by decide) xs v h)
  have hN2 := Tadd_ok2 (K' := 0) hN T0_ok (pureN rfl rfl rfl rfl) (fun xs v h => run22 (N := 1000009) (by decide) xs v h)
  have hN3 : TOk EN TLng (runA EN 1000009 300) := hN2.le (runA_le' _ (by decide))
  refine Tadd_run hN3 fun xs v h => ?_
  unfold gYes at h
  split at h
  · cases h; exact apartA_le (runA_le' _ (by decide)) aliveT
  · cases h

theorem law_true (r s : List PV) (wr : wk KT r = true) (ws : wk KT s = true) (or : oldL 0 r = true) (os : oldL 0 s = true) (tr : textsC (slLen (Sp.c r 0)) (slCells (Sp.c r 0)) = true) (ts : textsC (slLen (Sp.c s 0)) (slCells (Sp.c s 0)) = true) :
    apartA (EG rowG) (runA (EG rowG) 1000009 306) 3 [.agg r, .agg s] = some (.bool true) :=
  apartS_ok (E := EN) (K := 300) (d := 5) TTs_ok (pureN rfl rfl rfl rfl _) (holds r s wr ws or os tr ts)

end Go.Proofs.YtcjcinipfdameacGreatDoor.Am
