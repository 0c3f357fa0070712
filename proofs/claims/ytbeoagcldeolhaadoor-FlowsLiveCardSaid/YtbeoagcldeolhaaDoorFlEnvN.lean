/- The environment of one row: no package variable is read. -/
import Derived.Test.YtbeoagcldeolhaaDoorKin
import Derived.Test.YtbeoagcldeolhaaDoorRun3
import Derived.Test.YtbeoagcldeolhaaDoorIx
set_option linter.unusedVariables false
set_option linter.unusedSimpArgs false
set_option maxRecDepth 100000
namespace Go.Proofs.YtbeoagcldeolhaaDoor.Am

/-- Who is called with a store of its own. -/
def apartT (f : Nat) : Bool := match f with
  | 112 => true
  | 67 => true
  | 68 => true
  | 49 => true
  | 13 => true
  | 37 => true
  | 26 => true
  | 31 => true
  | 25 => true
  | 30 => true
  | 5 => true
  | 7 => true
  | 8 => true
  | 9 => true
  | 10 => true
  | 11 => true
  | 12 => true
  | 35 => true
  | 36 => true
  | 55 => true
  | 56 => true
  | 54 => true
  | 34 => true
  | 33 => true
  | 87 => true
  | 88 => true
  | 47 => true
  | 52 => true
  | _ => false

/-- slices.Clone, by its elements' cells. -/
def cloneT (f : Nat) : Option Nat := match f with
  | 38 => some 2
  | _ => none

/-- Whose arguments are sealed ahead of the call. -/
def sealT (f : Nat) : Bool := match f with
  | _ => false

/-- The errors' variables. -/
def errGs : List Nat := []

/-- A byte's first place in a text. -/
def pureT (f : Nat) (xs : List PV) : Option PV := bif Nat.beq f 112 then (match xs with
  | [.str s, .int .u8 c] => some (.int .i64 (Lib.indexByte s c.toNat.toUInt8))
  | _ => none) else none

/-- What the errors' variables hold. -/
def errG (g : Nat) : Option (List PV) := bif memN g errGs then some [.iface 143 (.gptr g)] else none

/-- Struct types that may be compared. -/
def plainL : List Nat := [
  28,
  24,
  26,
  30,
  36,
  76,
  ]

noncomputable def EG0 (G : Nat → Option (List PV)) : Env := ⟨Tryd.prog, fun f => if f = 98 then some .compare else none, G,
  plainL, fun _ => false, apartT, kindsT, true, pureT, fun _ => none, fun _ => false⟩

noncomputable def EG (G : Nat → Option (List PV)) : Env := { EG0 G with seals := fun f => (cloneT f).isSome || sealT f, clone := cloneT }

noncomputable def EN : Env := EG errG

/-- What is asked of a list of package variables. -/
structure GOk (G : Nat → Option (List PV)) : Prop where
  err : ∀ g, memN g errGs = true → G g = errG g
  old : ∀ g cells, G g = some cells → oldL 0 cells = true

theorem errG_at {g : Nat} (h : memN g errGs = true) : errG g = some [.iface 143 (.gptr g)] := by
  unfold errG
  rw [h]; rfl

theorem errG_ok : GOk errG := ⟨fun _ _ => rfl, fun g cells h => by
  unfold errG at h
  cases hb : memN g errGs <;> rw [hb] at h <;> simp at h
  subst h; rfl⟩

/-- A pointer of an error's variable, and where it leads. -/
theorem gptr_at {E : Env} {Γ : Sealed} {ρ : Ren} {σ : Store} {w : World} {fl : Nat} {g : Nat} {t : TypeId} {v : Value} (hE : E.G g = some [.iface 143 (.gptr g)]) (hR : Rel E fl Γ ρ σ w) (h : Rep Γ ρ (.iface t (.gptr g)) v) :
    ∃ a : Addr, v = .iface t (.pointer (some a)) ∧ Γ g 0 = some (.iface 143 (.pointer (some a))) ∧ ∃ (C : Array Value) (T : TypeId), w.heap[a.block]? = some (.cells C T (0, 0)) := by
  cases h with
  | iface _ h =>
    cases h with
    | gptr u a h =>
      obtain ⟨vs, hv⟩ := hR.glob g _ hE
      obtain ⟨h1, _, h2⟩ := hv 0 _ rfl
      rw [h] at h1
      have e := Option.some.inj h1
      rw [← e] at h2
      cases h2
      exact ⟨a, rfl, h, (hR.rock.stay a.block ⟨g, _, a, hE, h, rfl⟩).1⟩

/-- A byte's first place. -/
theorem pure_ok {G : Nat → Option (List PV)} (hG : GOk G) {E : Env} (hEG : E.G = G) (hP : E.P = Tryd.prog) (f : FuncId) (args : List PV) (r : PV) (h : pureT f args = some r) : oldV 0 r = true ∧ ∀ (Γ : Sealed) (w : World) (vs : List Value), Rel E 0 Γ (fun _ => none) [] w → Reps Γ (fun _ => none) args vs →
    Calls E.P f vs.toArray w fun e w' => ∃ v, e = .returned v ∧ Moves E 0 Γ (fun _ => none) [] w r [] v w' := by
  unfold pureT at h
  cases hf : Nat.beq f 112 with
  | false => rw [hf] at h; cases h
  | true =>
    rw [hf] at h
    have hf := Nat.eq_of_beq_eq_true hf
    subst hf
    simp only [cond_true] at h
    split at h
    · rename_i s c
      cases h
      refine ⟨rfl, fun Γ w vs hR hr => ?_⟩
      obtain ⟨v, ws, rfl, hv, hr⟩ := hr.inv_cons
      obtain ⟨u, ws, rfl, hu, hr⟩ := hr.inv_cons
      have := hr.inv_nil
      subst this
      cases hv
      cases hu
      rw [hP]
      refine (ix_byte ⟨⟨s⟩⟩ c w).mono fun e w' he => ?_
      obtain ⟨rfl, rfl⟩ := he
      exact ⟨_, rfl, Γ, _, .int _ _, hR, Post.refl _ _ _ _ _⟩
    · cases h

theorem EG0_ok {G : Nat → Option (List PV)} (hG : GOk G) : (EG0 G).Ok where
  plain := by
    intro t ht
    have hall : (plainL.all fun t => !Tryd.prog.stoodInHeld t && !Tryd.prog.eqGuardType Tryd.prog.depth t) = true := by kernel_rfl
    have hm : t ∈ plainL := by simpa [EG0] using ht
    have := List.all_eq_true.1 hall t hm
    simp only [Bool.and_eq_true, Bool.not_eq_true'] at this
    exact this
  ext := by
    intro f hf
    have : f = 98 := by
      by_cases h : f = 98
      · exact h
      · simp [EG0, h] at hf
    subst this
    exact ⟨Tryd.f98, Tryd.func98, by kernel_rfl, by kernel_rfl, by kernel_rfl, by kernel_rfl⟩
  mixed := by kernel_rfl
  glob := fun g cells h => hG.old g cells h
  pure := fun f xs r h => pure_ok hG rfl rfl f xs r h
  clone := fun f es h => by cases h

/-- What makes a function a copy: at no element, nil or not; at some. -/
structure CloneRuns (f es : Nat) : Prop where
  nil : ∀ (G : Nat → Option (List PV)) (σ : Store) (fl : Nat), recS (EG0 G) T0 H0 50 3 f [.nils] σ fl (fun v σ => some (v, σ)) = some (.nils, σ)
  sln : ∀ (G : Nat → Option (List PV)) (σ : Store) (fl : Nat), recS (EG0 G) T0 H0 50 3 f [.sln es] σ fl (fun v σ => some (v, σ)) = some (.sl [] es 0 (some 0), σ)
  some : ∀ (G : Nat → Option (List PV)) (cells : List PV) (n : Nat) (xc : Option Nat) (σ : Store) (fl : Nat), cells.length = n * es → n ≠ 0 → n ≤ 1048576 → cells.all PV.oneCell = true →
    recS (EG0 G) T0 H0 50 3 f [.sl cells es n xc] σ fl (fun v σ => some (v, σ)) = some (.osl σ.length n 0 es n none, σ ++ [.mem ⟨cells, es, n, false, false, false⟩])

theorem Rel.cast {E E' : Env} (h : E.G = E'.G) {fl : Nat} {Γ : Sealed} {ρ : Ren} {σ : Store} {w : World} (r : Rel E fl Γ ρ σ w) : Rel E' fl Γ ρ σ w :=
  ⟨r.fix, r.mem, r.apart, r.inj, fun g cells hg => r.glob g cells (by rw [h]; exact hg), ⟨fun b hb => r.rock.stay b (by unfold Rock at *; rw [h]; exact hb), fun g g' t t' a h1 h2 => r.rock.uniq g g' t t' a (by rw [h]; exact h1) (by rw [h]; exact h2)⟩⟩

theorem clone_ok {G : Nat → Option (List PV)} (hG : GOk G) {f es : Nat} (h : CloneRuns f es) (cells : List PV) (n : Nat) (xc : Option Nat) (fl : Nat) (Γ : Sealed) (ρ : Ren) (σ : Store) (w : World) (v : Value) (hR : Rel (EG G) fl Γ ρ σ w) (hfl : fl ≤ σ.length)
    (hv : Rep Γ ρ (.sl cells es n xc) v) (hn : n ≤ 1048576) (h1 : cells.all PV.oneCell = true) :
    Calls (EG G).P f #[v] w fun e w' => ∃ r, e = .returned r ∧ Moves (EG G) fl Γ ρ σ w (cloneR cells es n σ).1 (cloneR cells es n σ).2 r w' := by
  have hR0 : Rel (EG0 G) fl Γ ρ σ w := Rel.cast (E := EG G) (E' := EG0 G) rfl hR
  have key : ∀ (x y : PV) (σ1 : Store), recS (EG0 G) T0 H0 50 3 f [x] σ fl (fun v σ => Option.some (v, σ)) = Option.some (y, σ1) → Rep Γ ρ x v →
      Calls (EG G).P f #[v] w fun e w' => ∃ r, e = .returned r ∧ Moves (EG0 G) fl Γ ρ σ w y σ1 r w' := by
    intro x y σ1 hr hx
    obtain ⟨u, σ2, k1, k2⟩ := recS_ok (K := 0) (n := 50) (E := EG0 G) T0_ok 3 _ _ _ _ _ _ hr
    cases k2
    exact runA_ok (EG0_ok hG) 50 (0 + 3) f [x] σ fl y σ1 k1 hfl Γ ρ w [v] hR0 (.cons hx .nil)
  have back : ∀ {y : PV} {σ1 : Store} {r : Value} {w' : World}, Moves (EG0 G) fl Γ ρ σ w y σ1 r w' → Moves (EG G) fl Γ ρ σ w y σ1 r w' := fun ⟨Γ', ρ', m1, m2, m3⟩ => ⟨Γ', ρ', m1, Rel.cast (E := EG0 G) (E' := EG G) rfl m2, m3⟩
  by_cases hn0 : n = 0
  · subst hn0
    have hc : cloneR cells es 0 σ = (.sl [] es 0 (some 0), σ) := by simp [cloneR]
    rw [hc]
    cases hv with
    | slNil hx =>
      refine (key .nils _ _ (h.nil G σ fl) .nils).mono fun e w' he => ?_
      obtain ⟨r, e1, Γ', ρ', m1, m2, m3⟩ := he
      cases m1
      exact ⟨_, e1, Γ', ρ', .slNil (fun c hc => by cases hc; rfl), Rel.cast (E := EG0 G) (E' := EG G) rfl m2, m3⟩
    | sl a cap vs hn hcap hx hh hr =>
      exact (key (.sln es) _ _ (h.sln G σ fl) (.sln a cap)).mono fun e w' ⟨r, e1, hm⟩ => ⟨r, e1, back hm⟩
  · have hc : cloneR cells es n σ = (.osl σ.length n 0 es n none, σ ++ [.mem ⟨cells, es, n, false, false, false⟩]) := by simp [cloneR, hn0]
    rw [hc]
    have hlen : cells.length = n * es := by
      cases hv with
      | slNil hx => exact absurd rfl hn0
      | sl a cap vs hn hcap hx hh hr => exact hn
    exact (key _ _ _ (h.some G cells n xc σ fl hlen hn0 hn h1) hv).mono fun e w' ⟨r, e1, hm⟩ => ⟨r, e1, back hm⟩








theorem tCloneKeys (G : Nat → Option (List PV)) (cells : List PV) (n : Nat) (xc : Option Nat) (σ : Store) (fl : Nat) : recS (EG0 G) T0 H0 50 3 38 [PV.sl cells 2 (n + 1) xc] σ fl (fun (v : PV) (σ : Store) => some (v, σ)) =
  (ass (cells.length == (n + 1) * 2) <|
  ass (2 == 2 && (decide (0 < 0 + (n + 1)) && (decide (0 + (n + 1) ≤ 1048576) && [].all PV.oneCell))) <|
    some ((PV.osl (List.length σ) (0 + (n + 1)) 0 2 (0 + (n + 1)) none, List.append σ [Ob.mem { cells := [].append cells, size := 2, len := 0 + (n + 1), exact := false, ice := false, box := false }]))) := by kernel_rfl
theorem cloneKeys : CloneRuns 38 2 where
  nil := fun G σ fl => by kernel_rfl
  sln := fun G σ fl => by kernel_rfl
  some := fun G cells n xc σ fl hl hn hm hc => by
    obtain ⟨k, rfl⟩ : ∃ k, n = k + 1 := ⟨n - 1, by omega⟩
    rw [tCloneKeys]
    have a1 : (cells.length == (k + 1) * 2) = true := by simp [hl]
    have a2 : (2 == 2 && (decide (0 < 0 + (k + 1)) && (decide (0 + (k + 1) ≤ 1048576) && ([] : List PV).all PV.oneCell))) = true := by simp; omega
    rw [a1, a2]
    simp only [ass_true, Nat.zero_add]
    rfl

theorem EG_ok {G : Nat → Option (List PV)} (hG : GOk G) : (EG G).Ok where
  plain := (EG0_ok hG).plain
  ext := (EG0_ok hG).ext
  mixed := (EG0_ok hG).mixed
  glob := fun g cells h => hG.old g cells h
  pure := fun f xs r h => pure_ok hG rfl rfl f xs r h
  clone := fun f es h => by
    have h' : cloneT f = some es := h
    unfold cloneT at h'
    split at h'
    · cases h'; exact clone_ok hG cloneKeys
    · cases h'

end Go.Proofs.YtbeoagcldeolhaaDoor.Am
