/- The environment of one row: no package variable is read. -/
import Derived.Test.YtcjcinipfdameaaGreatDoorKin
import Derived.Test.YtcjcinipfdameaaGreatDoorRun3
import Derived.Test.YtcjcinipfdameaaGreatDoorIx
set_option linter.unusedVariables false
set_option linter.unusedSimpArgs false
set_option maxRecDepth 100000
namespace Go.Proofs.YtcjcinipfdameaaGreatDoor.Am

/-- Who is called with a store of its own. -/
def apartT (f : Nat) : Bool := match f with
  | 138 => true
  | 111 => true
  | 112 => true
  | 93 => true
  | 70 => true
  | 44 => true
  | 42 => true
  | 18 => true
  | 13 => true
  | 4 => true
  | 100 => true
  | 118 => true
  | 102 => true
  | 79 => true
  | 77 => true
  | 19 => true
  | 12 => true
  | 15 => true
  | 14 => true
  | 17 => true
  | 10 => true
  | 5 => true
  | 6 => true
  | 7 => true
  | 9 => true
  | _ => false

/-- slices.Clone, by its elements' cells. -/
def cloneT (f : Nat) : Option Nat := match f with
  | 71 => some 26
  | 72 => some 8
  | 73 => some 3
  | 75 => some 18
  | 96 => some 18
  | 97 => some 1
  | _ => none

/-- Whose arguments are sealed ahead of the call. -/
def sealT (f : Nat) : Bool := match f with
  | 45 => true
  | _ => false

/-- The errors' variables. -/
def errGs : List Nat := []

/-- A byte's first place in a text. -/
def pureT (f : Nat) (xs : List PV) : Option PV := bif Nat.beq f 138 then (match xs with
  | [.str s, .int .u8 c] => some (.int .i64 (Lib.indexByte s c.toNat.toUInt8))
  | _ => none) else none

def errTy : Nat := 0

/-- What the errors' variables hold. -/
def errG (g : Nat) : Option (List PV) := bif memN g errGs then some [.iface errTy (.gptr g)] else none

/-- The kinds' names, the verdicts' names. -/
def txnWordsC : List (List UInt8) := [[], [112, 117, 116, 45, 102, 114, 111, 110, 116], [100, 114, 111, 112, 45, 102, 114, 111, 110, 116], [112, 117, 116, 45, 103, 114, 111, 117, 112], [100, 114, 111, 112, 45, 103, 114, 111, 117, 112], [112, 117, 116, 45, 102, 105, 108, 116, 101, 114], [100, 114, 111, 112, 45, 102, 105, 108, 116, 101, 114]]
def fwdWordsC : List (List UInt8) := [[112, 97, 115, 115], [109, 97, 108, 102, 111, 114, 109, 101, 100], [102, 111, 114, 119, 97, 114, 100], [114, 101, 112, 108, 121], [102, 105, 108, 116, 101, 114, 101, 100], [114, 101, 106, 101, 99, 116, 101, 100], [102, 117, 108, 108]]

/-- The row's package variables. -/
def rowG (g : Nat) : Option (List PV) := bif Nat.beq g 0 then some (txnWordsC.map PV.str) else errG g

/-- Struct types that may be compared. -/
def plainL : List Nat := [
  38,
  34,
  36,
  55,
  62,
  117,
  40,
  42,
  91,
  ]

noncomputable def EG0 (G : Nat → Option (List PV)) : Env := ⟨Tryz.prog, fun f => if f = 133 then some .compare else none, G,
  plainL, fun _ => false, apartT, kindsT, true, pureT, fun _ => none, fun _ => false, fun _ _ _ _ => none⟩

noncomputable def EG (G : Nat → Option (List PV)) : Env := { EG0 G with seals := fun f => (cloneT f).isSome || sealT f, clone := cloneT }

noncomputable def EN : Env := EG rowG

/-- What is asked of a list of package variables. -/
structure GOk (G : Nat → Option (List PV)) : Prop where
  err : ∀ g, memN g errGs = true → G g = errG g
  old : ∀ g cells, G g = some cells → oldL 0 cells = true

theorem errG_at {g : Nat} (h : memN g errGs = true) : errG g = some [.iface errTy (.gptr g)] := by
  unfold errG
  rw [h]; rfl

theorem errG_ok : GOk errG := ⟨fun _ _ => rfl, fun g cells h => by
  unfold errG at h
  cases hb : memN g errGs <;> rw [hb] at h <;> simp at h
  subst h; rfl⟩

theorem rowG_ok : GOk rowG where
  err := fun g h => by
    unfold rowG
    have e0 : Nat.beq g 0 = false := by
      cases hb : Nat.beq g 0 with
      | false => rfl
      | true =>
        have := Nat.eq_of_beq_eq_true hb
        subst this
        have k : memN 0 errGs = false := by kernel_rfl
        rw [k] at h; cases h
    simp only [e0, cond_false]
  old := fun g cells h => by
    unfold rowG at h
    cases hb : Nat.beq g 0 with
    | true => rw [hb] at h; cases h; rfl
    | false =>
    rw [hb] at h
    simp only [cond_false] at h
    exact errG_ok.old g cells h

/-- A byte's first place. -/
theorem pure_ok {G : Nat → Option (List PV)} (hG : GOk G) {E : Env} (hEG : E.G = G) (hP : E.P = Tryz.prog) (f : FuncId) (args : List PV) (r : PV) (h : pureT f args = some r) : oldV 0 r = true ∧ ∀ (Γ : Sealed) (w : World) (vs : List Value), Rel E 0 Γ (fun _ => none) [] w → Reps Γ (fun _ => none) args vs →
    Calls E.P f vs.toArray w fun e w' => ∃ v, e = .returned v ∧ Moves E 0 Γ (fun _ => none) [] w r [] v w' := by
  unfold pureT at h
  cases hf : Nat.beq f 138 with
  | false => rw [hf] at h; cases h
  | true =>
    rw [hf] at h
    have hf := Nat.eq_of_beq_eq_true hf
    subst hf
    simp only [cond_true] at h
    split at h
    · rename_i s c
      cases h
      refine ⟨rfl, fun Γ w vs hR hr => ?_⟩
      obtain ⟨v, ws, rfl, hv, hr⟩ := hr.inv_cons
      obtain ⟨u, ws, rfl, hu, hr⟩ := hr.inv_cons
      have := hr.inv_nil
      subst this
      cases hv
      cases hu
      rw [hP]
      refine (ix_byte ⟨⟨s⟩⟩ c w).mono fun e w' he => ?_
      obtain ⟨rfl, rfl⟩ := he
      exact ⟨_, rfl, Γ, _, .int _ _, hR, Post.refl _ _ _ _ _⟩
    · cases h

theorem EG0_ok {G : Nat → Option (List PV)} (hG : GOk G) : (EG0 G).Ok where
  plain := by
    intro t ht
    have hall : (plainL.all fun t => !Tryz.prog.stoodInHeld t && !Tryz.prog.eqGuardType Tryz.prog.depth t) = true := by kernel_rfl
    have hm : t ∈ plainL := by simpa [EG0] using ht
    have := List.all_eq_true.1 hall t hm
    simp only [Bool.and_eq_true, Bool.not_eq_true'] at this
    exact this
  ext := by
    intro f hf
    have : f = 133 := by
      by_cases h : f = 133
      · exact h
      · simp [EG0, h] at hf
    subst this
    exact ⟨Tryz.f133, Tryz.func133, by kernel_rfl, by kernel_rfl, by kernel_rfl, by kernel_rfl⟩
  mixed := by kernel_rfl
  glob := fun g cells h => hG.old g cells h
  pure := fun f xs r h => pure_ok hG rfl rfl f xs r h
  clone := fun f es h => by cases h
  prim := fun f args σ fl p σ' h => by cases h

/-- What makes a function a copy: at no element, nil or not; at some. -/
structure CloneRuns (f es : Nat) : Prop where
  nil : ∀ (G : Nat → Option (List PV)) (σ : Store) (fl : Nat), recS (EG0 G) T0 H0 50 3 f [.nils] σ fl (fun v σ => some (v, σ)) = some (.nils, σ)
  sln : ∀ (G : Nat → Option (List PV)) (σ : Store) (fl : Nat), recS (EG0 G) T0 H0 50 3 f [.sln es] σ fl (fun v σ => some (v, σ)) = some (.sl [] es 0 (some 0), σ)
  some : ∀ (G : Nat → Option (List PV)) (cells : List PV) (n : Nat) (xc : Option Nat) (σ : Store) (fl : Nat), cells.length = n * es → n ≠ 0 → n ≤ 1048576 → cells.all PV.oneCell = true →
    recS (EG0 G) T0 H0 50 3 f [.sl cells es n xc] σ fl (fun v σ => some (v, σ)) = some (.osl σ.length n 0 es n none, σ ++ [.mem ⟨cells, es, n, false, false, false⟩])

theorem Rel.cast {E E' : Env} (h : E.G = E'.G) {fl : Nat} {Γ : Sealed} {ρ : Ren} {σ : Store} {w : World} (r : Rel E fl Γ ρ σ w) : Rel E' fl Γ ρ σ w :=
  ⟨r.fix, r.mem, r.apart, r.inj, fun g cells hg => r.glob g cells (by rw [h]; exact hg), ⟨fun b hb => r.rock.stay b (by unfold Rock at *; rw [h]; exact hb), fun g g' t t' a h1 h2 => r.rock.uniq g g' t t' a (by rw [h]; exact h1) (by rw [h]; exact h2)⟩⟩

theorem clone_ok {G : Nat → Option (List PV)} (hG : GOk G) {f es : Nat} (h : CloneRuns f es) (cells : List PV) (n : Nat) (xc : Option Nat) (fl : Nat) (Γ : Sealed) (ρ : Ren) (σ : Store) (w : World) (v : Value) (hR : Rel (EG G) fl Γ ρ σ w) (hfl : fl ≤ σ.length)
    (hv : Rep Γ ρ (.sl cells es n xc) v) (hn : n ≤ 1048576) (h1 : cells.all PV.oneCell = true) :
    Calls (EG G).P f #[v] w fun e w' => ∃ r, e = .returned r ∧ Moves (EG G) fl Γ ρ σ w (cloneR cells es n σ).1 (cloneR cells es n σ).2 r w' := by
  have hR0 : Rel (EG0 G) fl Γ ρ σ w := Rel.cast (E := EG G) (E' := EG0 G) rfl hR
  have key : ∀ (x y : PV) (σ1 : Store), recS (EG0 G) T0 H0 50 3 f [x] σ fl (fun v σ => Option.some (v, σ)) = Option.some (y, σ1) → Rep Γ ρ x v →
      Calls (EG G).P f #[v] w fun e w' => ∃ r, e = .returned r ∧ Moves (EG0 G) fl Γ ρ σ w y σ1 r w' := by
    intro x y σ1 hr hx
    obtain ⟨u, σ2, k1, k2⟩ := recS_ok (K := 0) (n := 50) (E := EG0 G) T0_ok 3 _ _ _ _ _ _ hr
    cases k2
    exact runA_ok (EG0_ok hG) 50 (0 + 3) f [x] σ fl y σ1 k1 hfl Γ ρ w [v] hR0 (.cons hx .nil)
  have back : ∀ {y : PV} {σ1 : Store} {r : Value} {w' : World}, Moves (EG0 G) fl Γ ρ σ w y σ1 r w' → Moves (EG G) fl Γ ρ σ w y σ1 r w' := fun ⟨Γ', ρ', m1, m2, m3⟩ => ⟨Γ', ρ', m1, Rel.cast (E := EG0 G) (E' := EG G) rfl m2, m3⟩
  by_cases hn0 : n = 0
  · subst hn0
    have hc : cloneR cells es 0 σ = (.sl [] es 0 (some 0), σ) := by simp [cloneR]
    rw [hc]
    cases hv with
    | slNil hx =>
      refine (key .nils _ _ (h.nil G σ fl) .nils).mono fun e w' he => ?_
      obtain ⟨r, e1, Γ', ρ', m1, m2, m3⟩ := he
      cases m1
      exact ⟨_, e1, Γ', ρ', .slNil (fun c hc => by cases hc; rfl), Rel.cast (E := EG0 G) (E' := EG G) rfl m2, m3⟩
    | sl a cap vs hn hcap hx hh hr =>
      exact (key (.sln es) _ _ (h.sln G σ fl) (.sln a cap)).mono fun e w' ⟨r, e1, hm⟩ => ⟨r, e1, back hm⟩
  · have hc : cloneR cells es n σ = (.osl σ.length n 0 es n none, σ ++ [.mem ⟨cells, es, n, false, false, false⟩]) := by simp [cloneR, hn0]
    rw [hc]
    have hlen : cells.length = n * es := by
      cases hv with
      | slNil hx => exact absurd rfl hn0
      | sl a cap vs hn hcap hx hh hr => exact hn
    exact (key _ _ _ (h.some G cells n xc σ fl hlen hn0 hn h1) hv).mono fun e w' ⟨r, e1, hm⟩ => ⟨r, e1, back hm⟩


theorem tCloneFronts (G : Nat → Option (List PV)) (cells : List PV) (n : Nat) (xc : Option Nat) (σ : Store) (fl : Nat) : recS (EG0 G) T0 H0 50 3 71 [PV.sl cells 26 (n + 1) xc] σ fl (fun (v : PV) (σ : Store) => some (v, σ)) =
  (ass (cells.length == (n + 1) * 26) <|
  ass (26 == 26 && (decide (0 < 0 + (n + 1)) && (decide (0 + (n + 1) ≤ 1048576) && [].all PV.oneCell))) <|
    some ((PV.osl (List.length σ) (0 + (n + 1)) 0 26 (0 + (n + 1)) none, List.append σ [Ob.mem { cells := [].append cells, size := 26, len := 0 + (n + 1), exact := false, ice := false, box := false }]))) := by kernel_rfl
theorem cloneFronts : CloneRuns 71 26 where
  nil := fun G σ fl => by kernel_rfl
  sln := fun G σ fl => by kernel_rfl
  some := fun G cells n xc σ fl hl hn hm hc => by
    obtain ⟨k, rfl⟩ : ∃ k, n = k + 1 := ⟨n - 1, by omega⟩
    rw [tCloneFronts]
    have a1 : (cells.length == (k + 1) * 26) = true := by simp [hl]
    have a2 : (26 == 26 && (decide (0 < 0 + (k + 1)) && (decide (0 + (k + 1) ≤ 1048576) && ([] : List PV).all PV.oneCell))) = true := by simp; omega
    rw [a1, a2]
    simp only [ass_true, Nat.zero_add]
    rfl

theorem tCloneGroups (G : Nat → Option (List PV)) (cells : List PV) (n : Nat) (xc : Option Nat) (σ : Store) (fl : Nat) : recS (EG0 G) T0 H0 50 3 72 [PV.sl cells 8 (n + 1) xc] σ fl (fun (v : PV) (σ : Store) => some (v, σ)) =
  (ass (cells.length == (n + 1) * 8) <|
  ass (8 == 8 && (decide (0 < 0 + (n + 1)) && (decide (0 + (n + 1) ≤ 1048576) && [].all PV.oneCell))) <|
    some ((PV.osl (List.length σ) (0 + (n + 1)) 0 8 (0 + (n + 1)) none, List.append σ [Ob.mem { cells := [].append cells, size := 8, len := 0 + (n + 1), exact := false, ice := false, box := false }]))) := by kernel_rfl
theorem cloneGroups : CloneRuns 72 8 where
  nil := fun G σ fl => by kernel_rfl
  sln := fun G σ fl => by kernel_rfl
  some := fun G cells n xc σ fl hl hn hm hc => by
    obtain ⟨k, rfl⟩ : ∃ k, n = k + 1 := ⟨n - 1, by omega⟩
    rw [tCloneGroups]
    have a1 : (cells.length == (k + 1) * 8) = true := by simp [hl]
    have a2 : (8 == 8 && (decide (0 < 0 + (k + 1)) && (decide (0 + (k + 1) ≤ 1048576) && ([] : List PV).all PV.oneCell))) = true := by simp; omega
    rw [a1, a2]
    simp only [ass_true, Nat.zero_add]
    rfl

theorem tCloneFilters (G : Nat → Option (List PV)) (cells : List PV) (n : Nat) (xc : Option Nat) (σ : Store) (fl : Nat) : recS (EG0 G) T0 H0 50 3 73 [PV.sl cells 3 (n + 1) xc] σ fl (fun (v : PV) (σ : Store) => some (v, σ)) =
  (ass (cells.length == (n + 1) * 3) <|
  ass (3 == 3 && (decide (0 < 0 + (n + 1)) && (decide (0 + (n + 1) ≤ 1048576) && [].all PV.oneCell))) <|
    some ((PV.osl (List.length σ) (0 + (n + 1)) 0 3 (0 + (n + 1)) none, List.append σ [Ob.mem { cells := [].append cells, size := 3, len := 0 + (n + 1), exact := false, ice := false, box := false }]))) := by kernel_rfl
theorem cloneFilters : CloneRuns 73 3 where
  nil := fun G σ fl => by kernel_rfl
  sln := fun G σ fl => by kernel_rfl
  some := fun G cells n xc σ fl hl hn hm hc => by
    obtain ⟨k, rfl⟩ : ∃ k, n = k + 1 := ⟨n - 1, by omega⟩
    rw [tCloneFilters]
    have a1 : (cells.length == (k + 1) * 3) = true := by simp [hl]
    have a2 : (3 == 3 && (decide (0 < 0 + (k + 1)) && (decide (0 + (k + 1) ≤ 1048576) && ([] : List PV).all PV.oneCell))) = true := by simp; omega
    rw [a1, a2]
    simp only [ass_true, Nat.zero_add]
    rfl

theorem tCloneCidrs (G : Nat → Option (List PV)) (cells : List PV) (n : Nat) (xc : Option Nat) (σ : Store) (fl : Nat) : recS (EG0 G) T0 H0 50 3 75 [PV.sl cells 18 (n + 1) xc] σ fl (fun (v : PV) (σ : Store) => some (v, σ)) =
  (ass (cells.length == (n + 1) * 18) <|
  ass (18 == 18 && (decide (0 < 0 + (n + 1)) && (decide (0 + (n + 1) ≤ 1048576) && [].all PV.oneCell))) <|
    some ((PV.osl (List.length σ) (0 + (n + 1)) 0 18 (0 + (n + 1)) none, List.append σ [Ob.mem { cells := [].append cells, size := 18, len := 0 + (n + 1), exact := false, ice := false, box := false }]))) := by kernel_rfl
theorem cloneCidrs : CloneRuns 75 18 where
  nil := fun G σ fl => by kernel_rfl
  sln := fun G σ fl => by kernel_rfl
  some := fun G cells n xc σ fl hl hn hm hc => by
    obtain ⟨k, rfl⟩ : ∃ k, n = k + 1 := ⟨n - 1, by omega⟩
    rw [tCloneCidrs]
    have a1 : (cells.length == (k + 1) * 18) = true := by simp [hl]
    have a2 : (18 == 18 && (decide (0 < 0 + (k + 1)) && (decide (0 + (k + 1) ≤ 1048576) && ([] : List PV).all PV.oneCell))) = true := by simp; omega
    rw [a1, a2]
    simp only [ass_true, Nat.zero_add]
    rfl

theorem tClonePoints (G : Nat → Option (List PV)) (cells : List PV) (n : Nat) (xc : Option Nat) (σ : Store) (fl : Nat) : recS (EG0 G) T0 H0 50 3 96 [PV.sl cells 18 (n + 1) xc] σ fl (fun (v : PV) (σ : Store) => some (v, σ)) =
  (ass (cells.length == (n + 1) * 18) <|
  ass (18 == 18 && (decide (0 < 0 + (n + 1)) && (decide (0 + (n + 1) ≤ 1048576) && [].all PV.oneCell))) <|
    some ((PV.osl (List.length σ) (0 + (n + 1)) 0 18 (0 + (n + 1)) none, List.append σ [Ob.mem { cells := [].append cells, size := 18, len := 0 + (n + 1), exact := false, ice := false, box := false }]))) := by kernel_rfl
theorem clonePoints : CloneRuns 96 18 where
  nil := fun G σ fl => by kernel_rfl
  sln := fun G σ fl => by kernel_rfl
  some := fun G cells n xc σ fl hl hn hm hc => by
    obtain ⟨k, rfl⟩ : ∃ k, n = k + 1 := ⟨n - 1, by omega⟩
    rw [tClonePoints]
    have a1 : (cells.length == (k + 1) * 18) = true := by simp [hl]
    have a2 : (18 == 18 && (decide (0 < 0 + (k + 1)) && (decide (0 + (k + 1) ≤ 1048576) && ([] : List PV).all PV.oneCell))) = true := by simp; omega
    rw [a1, a2]
    simp only [ass_true, Nat.zero_add]
    rfl

theorem tCloneInts (G : Nat → Option (List PV)) (cells : List PV) (n : Nat) (xc : Option Nat) (σ : Store) (fl : Nat) : recS (EG0 G) T0 H0 50 3 97 [PV.sl cells 1 (n + 1) xc] σ fl (fun (v : PV) (σ : Store) => some (v, σ)) =
  (ass (cells.length == (n + 1) * 1) <|
  ass (1 == 1 && (decide (0 < 0 + (n + 1)) && (decide (0 + (n + 1) ≤ 1048576) && [].all PV.oneCell))) <|
    some ((PV.osl (List.length σ) (0 + (n + 1)) 0 1 (0 + (n + 1)) none, List.append σ [Ob.mem { cells := [].append cells, size := 1, len := 0 + (n + 1), exact := false, ice := false, box := false }]))) := by kernel_rfl
theorem cloneInts : CloneRuns 97 1 where
  nil := fun G σ fl => by kernel_rfl
  sln := fun G σ fl => by kernel_rfl
  some := fun G cells n xc σ fl hl hn hm hc => by
    obtain ⟨k, rfl⟩ : ∃ k, n = k + 1 := ⟨n - 1, by omega⟩
    rw [tCloneInts]
    have a1 : (cells.length == (k + 1) * 1) = true := by simp [hl]
    have a2 : (1 == 1 && (decide (0 < 0 + (k + 1)) && (decide (0 + (k + 1) ≤ 1048576) && ([] : List PV).all PV.oneCell))) = true := by simp; omega
    rw [a1, a2]
    simp only [ass_true, Nat.zero_add]
    rfl


theorem EG_ok {G : Nat → Option (List PV)} (hG : GOk G) : (EG G).Ok where
  plain := (EG0_ok hG).plain
  ext := (EG0_ok hG).ext
  mixed := (EG0_ok hG).mixed
  glob := fun g cells h => hG.old g cells h
  pure := fun f xs r h => pure_ok hG rfl rfl f xs r h
  prim := fun f args σ fl p σ' h => by cases h
  clone := fun f es h => by
    have h' : cloneT f = some es := h
    unfold cloneT at h'
    split at h'
    · cases h'; exact clone_ok hG cloneFronts
    · cases h'; exact clone_ok hG cloneGroups
    · cases h'; exact clone_ok hG cloneFilters
    · cases h'; exact clone_ok hG cloneCidrs
    · cases h'; exact clone_ok hG clonePoints
    · cases h'; exact clone_ok hG cloneInts
    · cases h'

end Go.Proofs.YtcjcinipfdameaaGreatDoor.Am
