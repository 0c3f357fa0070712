/- ScriptDecodes: slices.Clone; the interpreter's base; the check's own example; all summaries joined. -/
import Derived.Test.YtbnfofcbajaiiaaScr9
import Derived.Test.YtbnfofcbajaiiaaClo
set_option linter.unusedVariables false
set_option maxRecDepth 100000
set_option maxHeartbeats 4000000
namespace Go.Proofs.Ytbnfofcbajaiiaa.Am

theorem clone74 : CloneRuns 74 1 where
  nil := fun σ fl => by kernel_rfl
  sln := fun σ fl => by kernel_rfl
  some := fun cells n xc σ fl hl hn hm hc => by
    obtain ⟨k, rfl⟩ : ∃ k, n = k + 1 := ⟨n - 1, by omega⟩
    rw [t74]
    have a1 : (cells.length == (k + 1) * 1) = true := by simp [hl]
    have a2 : (1 == 1 && (decide (0 < 0 + (k + 1)) && (decide (0 + (k + 1) ≤ 1048576) && ([] : List PV).all PV.oneCell))) = true := by simp; omega
    rw [a1, a2]
    simp only [ass_true, Nat.zero_add]
    rfl

theorem EN_ok : EN.Ok where
  plain := EN0_ok.plain
  ext := EN0_ok.ext
  mixed := EN0_ok.mixed
  glob := fun g cells h => by cases h
  pure := fun f xs r h => by cases h
  clone := fun f es h => by
    have h' : cloneT f = some es := h
    unfold cloneT at h'
    split at h'
    · cases h'; exact clone_ok clone74
    · cases h'

def isTrue : Option PV → Bool
  | some (.bool b) => b
  | _ => false

theorem isTrue_eq : ∀ {x : Option PV}, isTrue x = true → x = some (.bool true)
  | some (.bool true), _ => rfl

theorem alive7 : apartA EN (runA EN 1000009 13) 7 [] = some (.bool true) := isTrue_eq (by kernel_rfl)

theorem pureN (f : FuncId) (xs : List PV) : EN.pure f xs = none := rfl

theorem T7_ok : TOk EN T7 (runA EN 1000009 13) := by
  have h38 : TOk EN T38 (runA EN 1000009 (0 + (0 + 1))) := Tadd_ok T0_ok (pureN 38) (fun xs v h => run38 xs v h)
  have h39 : TOk EN T39 (runA EN 1000009 (0 + (0 + 1) + (0 + 1))) := Tadd_ok h38 (pureN 39) (fun xs v h => run39 xs v h)
  have h10 : TOk EN T10 (runA EN 1000009 (0 + (0 + 1) + (0 + 1) + (0 + (0 + 1)))) := Tadd_ok2 h39 T0_ok (pureN 10) (fun xs v h => run10 (by decide) xs v h)
  have h12 := Tadd_ok2 h10 h39 (pureN 12) (fun xs v h => run12 (N := 1000009) (by decide) xs v h)
  have h11 := Tadd_ok2 (K' := 0) h12 T0_ok (pureN 11) (fun xs v h => run11 (N := 1000009) (by decide) xs v h)
  have h9 := Tadd_ok2 (K' := 0) h11 T0_ok (pureN 9) (fun xs v h => run9 (N := 1000009) (by decide) xs v h)
  refine Tadd_run (K := 13) h9 fun xs v h => ?_
  unfold g7 at h
  split at h
  · cases h; exact alive7
  · cases h

theorem law3 (l : List UInt8) : apartA EN (runA EN 1000009 19) 3 [.sl (l.map bpv) 1 l.length none] = some (.bool true) := by
  obtain ⟨H, h⟩ := holds3 1000002 l
  exact apartS_ok (K := 13) (d := 5) T7_ok (pureN 3 _) h

end Go.Proofs.Ytbnfofcbajaiiaa.Am
