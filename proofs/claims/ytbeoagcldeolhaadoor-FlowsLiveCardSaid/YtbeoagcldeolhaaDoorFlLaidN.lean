/- From the interpreter's answer to the machine's, where no package variable is read. -/
import Derived.Test.YtbeoagcldeolhaaDoorFlEnvN
import Derived.Below
set_option linter.unusedVariables false
set_option linter.unusedSimpArgs false
namespace Go.Proofs.YtbeoagcldeolhaaDoor.Am

theorem errG_none (g : Nat) : errG g = none := rfl

theorem start_rel (W : World) : Rel EN 0 (fun b o => W.cell? ⟨b, o, none⟩) (fun _ => none) [] W := by
  refine ⟨fun b o v hv => hv, fun id l hl => (by cases hl), fun id l m hl => (by cases hl), fun i j li lj hi => (by cases hi), fun g cells hg => ?_, fun b hb => ?_, fun g g' t t' a e1 e2 e3 e4 => ?_⟩
  · rw [show EN.G g = none from errG_none g] at hg; cases hg
  · obtain ⟨g, t, a, e1, e2, rfl⟩ := hb
    rw [show EN.G g = none from errG_none g] at e1; cases e1
  · rw [show EN.G g = none from errG_none g] at e1; cases e1

theorem calls_of_apart {f : FuncId} {args : List PV} {vs : List Value} {p : PV} {w : World} {n k : Nat} (h : apartA EN (runA EN n k) f args = some p)
    (hr : Reps (fun b o => w.cell? ⟨b, o, none⟩) (fun _ => none) args vs) :
    Calls Tryd.prog f vs.toArray w fun e w' => ∃ r Γ ρ, e = .returned r ∧ Rep Γ ρ p r ∧ Go.RowKit.Below w.heap.size w w' := by
  obtain ⟨σ2, _, key⟩ := apartA_ok (EG_ok errG_ok) (runA_ok (EG_ok errG_ok) n k) h
  refine Calls.mono (key _ w vs (start_rel w) hr) fun e w' he => ?_
  obtain ⟨r, e1, Γ, ρ, h1, h2, h3⟩ := he
  exact ⟨r, Γ, ρ, e1, h1, h3.os, h3.tape, h3.output, h3.size, fun b hb => h3.frame b hb fun id l hl => by cases hl⟩

end Go.Proofs.YtbeoagcldeolhaaDoor.Am
