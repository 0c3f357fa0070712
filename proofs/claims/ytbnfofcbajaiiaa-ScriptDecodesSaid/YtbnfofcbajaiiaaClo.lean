/- slices.Clone: what the machine answers. -/
import Derived.Test.YtbnfofcbajaiiaaKin
import Derived.Test.YtbnfofcbajaiiaaRun3
set_option linter.unusedVariables false
set_option linter.unusedSimpArgs false
set_option maxRecDepth 100000
namespace Go.Proofs.Ytbnfofcbajaiiaa.Am

theorem EN0_ok : EN0.Ok where
  plain := by
    intro t ht
    have : t ∈ [35, 37, 39, 41, 43, 46, 47] := by simpa [EN0] using ht
    simp only [List.mem_cons, List.not_mem_nil, or_false] at this
    rcases this with rfl | rfl | rfl | rfl | rfl | rfl | rfl <;> exact ⟨by kernel_rfl, by kernel_rfl⟩
  ext := by
    intro f hf
    have : f = 108 := by
      by_cases h : f = 108
      · exact h
      · simp [EN0, h] at hf
    subst this
    exact ⟨Try.f108, Try.func108, by kernel_rfl, by kernel_rfl, by kernel_rfl, by kernel_rfl⟩
  mixed := by kernel_rfl
  glob := fun g cells h => by cases h
  pure := fun f xs r h => by cases h
  clone := fun f es h => by cases h

/-- What makes a function a copy: at no element, nil or not; at some. -/
structure CloneRuns (f es : Nat) : Prop where
  nil : ∀ (σ : Store) (fl : Nat), recS EN0 T0 H0 50 3 f [.nils] σ fl (fun v σ => some (v, σ)) = some (.nils, σ)
  sln : ∀ (σ : Store) (fl : Nat), recS EN0 T0 H0 50 3 f [.sln es] σ fl (fun v σ => some (v, σ)) = some (.sl [] es 0 (some 0), σ)
  some : ∀ (cells : List PV) (n : Nat) (xc : Option Nat) (σ : Store) (fl : Nat), cells.length = n * es → n ≠ 0 → n ≤ 1048576 → cells.all PV.oneCell = true →
    recS EN0 T0 H0 50 3 f [.sl cells es n xc] σ fl (fun v σ => some (v, σ)) = some (.osl σ.length n 0 es n none, σ ++ [.mem ⟨cells, es, n, false, false, false⟩])

theorem Rel.cast {E E' : Env} (h : E.G = E'.G) {fl : Nat} {Γ : Sealed} {ρ : Ren} {σ : Store} {w : World} (r : Rel E fl Γ ρ σ w) : Rel E' fl Γ ρ σ w :=
  ⟨r.fix, r.mem, r.apart, r.inj, fun g cells hg => r.glob g cells (by rw [h]; exact hg)⟩

theorem clone_ok {f es : Nat} (h : CloneRuns f es) (cells : List PV) (n : Nat) (xc : Option Nat) (fl : Nat) (Γ : Sealed) (ρ : Ren) (σ : Store) (w : World) (v : Value) (hR : Rel EN fl Γ ρ σ w) (hfl : fl ≤ σ.length)
    (hv : Rep Γ ρ (.sl cells es n xc) v) (hn : n ≤ 1048576) (h1 : cells.all PV.oneCell = true) :
    Calls EN.P f #[v] w fun e w' => ∃ r, e = .returned r ∧ Moves EN fl Γ ρ σ w (cloneR cells es n σ).1 (cloneR cells es n σ).2 r w' := by
  have hR0 : Rel EN0 fl Γ ρ σ w := Rel.cast (E := EN) (E' := EN0) rfl hR
  have key : ∀ (x y : PV) (σ1 : Store), recS EN0 T0 H0 50 3 f [x] σ fl (fun v σ => Option.some (v, σ)) = Option.some (y, σ1) → Rep Γ ρ x v →
      Calls EN.P f #[v] w fun e w' => ∃ r, e = .returned r ∧ Moves EN0 fl Γ ρ σ w y σ1 r w' := by
    intro x y σ1 hr hx
    obtain ⟨u, σ2, k1, k2⟩ := recS_ok (K := 0) (n := 50) (E := EN0) T0_ok 3 _ _ _ _ _ _ hr
    cases k2
    exact runA_ok EN0_ok 50 (0 + 3) f [x] σ fl y σ1 k1 hfl Γ ρ w [v] hR0 (.cons hx .nil)
  have back : ∀ {y : PV} {σ1 : Store} {r : Value} {w' : World}, Moves EN0 fl Γ ρ σ w y σ1 r w' → Moves EN fl Γ ρ σ w y σ1 r w' := fun ⟨Γ', ρ', m1, m2, m3⟩ => ⟨Γ', ρ', m1, Rel.cast (E := EN0) (E' := EN) rfl m2, m3⟩
  by_cases hn0 : n = 0
  · subst hn0
    have hc : cloneR cells es 0 σ = (.sl [] es 0 (some 0), σ) := by simp [cloneR]
    rw [hc]
    cases hv with
    | slNil hx =>
      refine (key .nils _ _ (h.nil σ fl) .nils).mono fun e w' he => ?_
      obtain ⟨r, e1, Γ', ρ', m1, m2, m3⟩ := he
      cases m1
      exact ⟨_, e1, Γ', ρ', .slNil (fun c hc => by cases hc; rfl), Rel.cast (E := EN0) (E' := EN) rfl m2, m3⟩
    | sl a cap vs hn hcap hx hh hr =>
      exact (key (.sln es) _ _ (h.sln σ fl) (.sln a cap)).mono fun e w' ⟨r, e1, hm⟩ => ⟨r, e1, back hm⟩
  · have hc : cloneR cells es n σ = (.osl σ.length n 0 es n none, σ ++ [.mem ⟨cells, es, n, false, false, false⟩]) := by simp [cloneR, hn0]
    rw [hc]
    have hlen : cells.length = n * es := by
      cases hv with
      | slNil hx => exact absurd rfl hn0
      | sl a cap vs hn hcap hx hh hr => exact hn
    exact (key _ _ _ (h.some cells n xc σ fl hlen hn0 hn h1) hv).mono fun e w' ⟨r, e1, hm⟩ => ⟨r, e1, back hm⟩

end Go.Proofs.Ytbnfofcbajaiiaa.Am
