/- From the interpreter's answer to the machine's, where the package variables that are read hold plain data. -/
import Derived.Test.YtcjcinipfdameaaGreatDoorDlEnvN
import Derived.Below
set_option linter.unusedVariables false
namespace Go.Proofs.YtcjcinipfdameaaGreatDoor.Am

/-- What other variables hold (texts, numbers). -/
def PlainAt (G : Nat → Option (List PV)) (W : World) : Prop := ∀ g cells, G g = some cells → ∃ vs : Nat → Value, ∀ (j : Nat) (x : PV), cells[j]? = some x → W.cell? ⟨g, j, none⟩ = some (vs j) ∧ x.oneCell = true ∧ Rep (fun b o => W.cell? ⟨b, o, none⟩) (fun _ => none) x (vs j) ∧ ∀ k t, x ≠ .iface t (.gptr k)

theorem start_rel {E : Env} {G : Nat → Option (List PV)} (hE : E.G = G) {W : World} (hp : PlainAt G W) : Rel E 0 (fun b o => W.cell? ⟨b, o, none⟩) (fun _ => none) [] W := by
  have hno : ∀ (g : Nat) (t : TypeId), G g = some [.iface t (.gptr g)] → False := fun g t h => by
    obtain ⟨vs, hv⟩ := hp g _ h
    exact (hv 0 _ rfl).2.2.2 g t rfl
  refine ⟨fun b o v hv => hv, fun id l hl => (by cases hl), fun id l m hl => (by cases hl), fun i j li lj hi => (by cases hi), fun g cells hg => ?_, fun b hb => ?_, fun g g' t t' a e1 e2 e3 e4 => ?_⟩
  · rw [hE] at hg
    obtain ⟨vs, hv⟩ := hp g cells hg
    exact ⟨vs, fun j x hx => ⟨(hv j x hx).1, (hv j x hx).2.1, (hv j x hx).2.2.1⟩⟩
  · obtain ⟨g, t, a, e1, e2, rfl⟩ := hb
    rw [hE] at e1; exact (hno g t e1).elim
  · rw [hE] at e1; exact (hno g t e1).elim

theorem calls_of_apart {G : Nat → Option (List PV)} (hG : GOk G) {f : FuncId} {args : List PV} {vs : List Value} {p : PV} {w : World} {n k : Nat} (hpl : PlainAt G w) (h : apartA (EG G) (runA (EG G) n k) f args = some p)
    (hr : Reps (fun b o => w.cell? ⟨b, o, none⟩) (fun _ => none) args vs) :
    Calls Tryz.prog f vs.toArray w fun e w' => ∃ r Γ ρ, e = .returned r ∧ Rep Γ ρ p r ∧ Go.RowKit.Below w.heap.size w w' := by
  obtain ⟨σ2, _, key⟩ := apartA_ok (EG_ok hG) (runA_ok (EG_ok hG) n k) h
  refine Calls.mono (key _ w vs (start_rel (E := EG G) rfl hpl) hr) fun e w' he => ?_
  obtain ⟨r, e1, Γ, ρ, h1, h2, h3⟩ := he
  exact ⟨r, Γ, ρ, e1, h1, h3.os, h3.tape, h3.output, h3.size, fun b hb => h3.frame b hb fun id l hl => by cases hl⟩

end Go.Proofs.YtcjcinipfdameaaGreatDoor.Am
