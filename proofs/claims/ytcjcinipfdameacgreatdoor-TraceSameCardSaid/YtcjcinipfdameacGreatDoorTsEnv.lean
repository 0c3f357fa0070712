/- The environment of one row: errors by package variables, errors.Is by contract. -/
import Derived.Test.YtcjcinipfdameacGreatDoorKin
import Derived.Test.YtcjcinipfdameacGreatDoorRun3
import Derived.Test.YtcjcinipfdameacGreatDoorIs
import Derived.Test.YtcjcinipfdameacGreatDoorIx
import Derived.Test.YtcjcinipfdameacGreatDoorSumP
import Derived.Test.YtcjcinipfdameacGreatDoorJn
set_option linter.unusedVariables false
set_option linter.unusedSimpArgs false
set_option maxRecDepth 100000
namespace Go.Proofs.YtcjcinipfdameacGreatDoor.Am

/-- Who is called with a store of its own. -/
def apartT (f : Nat) : Bool := match f with
  | 52 => true
  | 237 => true
  | 138 => true
  | 139 => true
  | 108 => true
  | 119 => true
  | 68 => true
  | 80 => true
  | 4 => true
  | 45 => true
  | 95 => true
  | 63 => true
  | 98 => true
  | 73 => true
  | 115 => true
  | 76 => true
  | 72 => true
  | 189 => true
  | 190 => true
  | 116 => true
  | 17 => true
  | 6 => true
  | 14 => true
  | 15 => true
  | 5 => true
  | 71 => true
  | 112 => true
  | 10 => true
  | 11 => true
  | 7 => true
  | 8 => true
  | _ => false

/-- slices.Clone, by its elements' cells. -/
def cloneT (f : Nat) : Option Nat := match f with
  | 156 => some 18
  | _ => none

/-- Whose arguments are sealed ahead of the call. -/
def sealT (f : Nat) : Bool := match f with
  | 119 => true
  | _ => false

/-- The errors' variables. -/
def errGs : List Nat := [7, 8, 9, 4, 10, 6, 0, 2, 3, 5]

/-- errors.Is at package variables' errors; a byte's first place in a text. -/
def pureT0 (f : Nat) (xs : List PV) : Option PV := bif Nat.beq f 52 then (match xs with
  | [.iface t (.gptr a), .iface u (.gptr b)] => bif Nat.beq t 371 && (Nat.beq u 371 && (memN a errGs && memN b errGs)) then some (.bool (Nat.beq a b)) else none
  | [.nilif, .iface u (.gptr b)] => bif Nat.beq u 371 && memN b errGs then some (.bool false) else none
  | _ => none) else bif Nat.beq f 237 then (match xs with
  | [.str s, .int .u8 c] => some (.int .i64 (Lib.indexByte s c.toNat.toUInt8))
  | _ => none) else none

/-- .. and sums of bytes. -/
def pureT1 (f : Nat) (xs : List PV) : Option PV := match pureSum f xs with | some r => some r | none => pureT0 f xs

/-- .. and joined texts. -/
def pureT (f : Nat) (xs : List PV) : Option PV := match pureJoin f xs with | some r => some r | none => pureT1 f xs

/-- What is known of calls, whatever they do with the store. -/
def primT (f : Nat) (xs : List PV) (σ : Store) (fl : Nat) : Option (Bool × PV × Store) := none

/-- What the errors' variables hold. -/
def errG (g : Nat) : Option (List PV) := bif memN g errGs then some [.iface 371 (.gptr g)] else none

/-- The kinds' names, the verdicts' names. -/
def txnWordsC : List (List UInt8) := [[], [112, 117, 116, 45, 102, 114, 111, 110, 116], [100, 114, 111, 112, 45, 102, 114, 111, 110, 116], [112, 117, 116, 45, 103, 114, 111, 117, 112], [100, 114, 111, 112, 45, 103, 114, 111, 117, 112], [112, 117, 116, 45, 102, 105, 108, 116, 101, 114], [100, 114, 111, 112, 45, 102, 105, 108, 116, 101, 114]]
def fwdWordsC : List (List UInt8) := [[112, 97, 115, 115], [109, 97, 108, 102, 111, 114, 109, 101, 100], [102, 111, 114, 119, 97, 114, 100], [114, 101, 112, 108, 121], [102, 105, 108, 116, 101, 114, 101, 100], [114, 101, 106, 101, 99, 116, 101, 100], [102, 117, 108, 108]]

/-- The row's package variables. -/
def rowG (g : Nat) : Option (List PV) := bif Nat.beq g 1 then some (fwdWordsC.map PV.str) else errG g

/-- Struct types that may be compared. -/
def plainL : List Nat := [
  29,
  25,
  27,
  31,
  57,
  290,
  44,
  128,
  153,
  124,
  164,
  ]

noncomputable def EG0 (G : Nat → Option (List PV)) : Env := ⟨Tryz.prog, fun f => if f = 148 then some .compare else none, G,
  plainL, fun _ => false, apartT, kindsT, true, pureT, fun _ => none, fun _ => false, fun _ _ _ _ => none⟩

noncomputable def EG (G : Nat → Option (List PV)) : Env := { EG0 G with seals := fun f => (cloneT f).isSome || sealT f, clone := cloneT, prim := primT }

noncomputable def EN : Env := EG rowG

/-- What is asked of a list of package variables. -/
structure GOk (G : Nat → Option (List PV)) : Prop where
  err : ∀ g, memN g errGs = true → G g = errG g
  old : ∀ g cells, G g = some cells → oldL 0 cells = true

theorem errG_at {g : Nat} (h : memN g errGs = true) : errG g = some [.iface 371 (.gptr g)] := by
  unfold errG
  rw [h]; rfl

theorem errG_ok : GOk errG := ⟨fun _ _ => rfl, fun g cells h => by
  unfold errG at h
  cases hb : memN g errGs <;> rw [hb] at h <;> simp at h
  subst h; rfl⟩

theorem rowG_ok : GOk rowG where
  err := fun g h => by
    unfold rowG
    have e0 : Nat.beq g 1 = false := by
      cases hb : Nat.beq g 1 with
      | false => rfl
      | true =>
        have := Nat.eq_of_beq_eq_true hb
        subst this
        have k : memN 1 errGs = false := by kernel_rfl
        rw [k] at h; cases h
    simp only [e0, cond_false]
  old := fun g cells h => by
    unfold rowG at h
    cases hb : Nat.beq g 1 with
    | true => rw [hb] at h; cases h; rfl
    | false =>
    rw [hb] at h
    simp only [cond_false] at h
    exact errG_ok.old g cells h

/-- A pointer of an error's variable, and where it leads. -/
theorem gptr_at {E : Env} {Γ : Sealed} {ρ : Ren} {σ : Store} {w : World} {fl : Nat} {g : Nat} {t : TypeId} {v : Value} (hE : E.G g = some [.iface 371 (.gptr g)]) (hR : Rel E fl Γ ρ σ w) (h : Rep Γ ρ (.iface t (.gptr g)) v) :
    ∃ a : Addr, v = .iface t (.pointer (some a)) ∧ Γ g 0 = some (.iface 371 (.pointer (some a))) ∧ ∃ (C : Array Value) (T : TypeId), w.heap[a.block]? = some (.cells C T (0, 0)) := by
  cases h with
  | iface _ h =>
    cases h with
    | gptr u a h =>
      obtain ⟨vs, hv⟩ := hR.glob g _ hE
      obtain ⟨h1, _, h2⟩ := hv 0 _ rfl
      rw [h] at h1
      have e := Option.some.inj h1
      rw [← e] at h2
      cases h2
      exact ⟨a, rfl, h, (hR.rock.stay a.block ⟨g, _, a, hE, h, rfl⟩).1⟩

/-- errors.Is at two of those. -/
theorem pure_ok0 {G : Nat → Option (List PV)} (hG : GOk G) {E : Env} (hEG : E.G = G) (hP : E.P = Tryz.prog) (f : FuncId) (args : List PV) (r : PV) (h : pureT0 f args = some r) : oldV 0 r = true ∧ ∀ (Γ : Sealed) (w : World) (vs : List Value), Rel E 0 Γ (fun _ => none) [] w → Reps Γ (fun _ => none) args vs →
    Calls E.P f vs.toArray w fun e w' => ∃ v, e = .returned v ∧ Moves E 0 Γ (fun _ => none) [] w r [] v w' := by
  unfold pureT0 at h
  cases hf : Nat.beq f 52 with
  | false =>
    rw [hf] at h
    simp only [cond_false] at h
    cases hf : Nat.beq f 237 with
    | false => rw [hf] at h; cases h
    | true =>
      rw [hf] at h
      have hf := Nat.eq_of_beq_eq_true hf
      subst hf
      simp only [cond_true] at h
      split at h
      · rename_i s c
        cases h
        refine ⟨rfl, fun Γ w vs hR hr => ?_⟩
        obtain ⟨v, ws, rfl, hv, hr⟩ := hr.inv_cons
        obtain ⟨u, ws, rfl, hu, hr⟩ := hr.inv_cons
        have := hr.inv_nil
        subst this
        cases hv
        cases hu
        rw [hP]
        refine (ix_byte ⟨⟨s⟩⟩ c w).mono fun e w' he => ?_
        obtain ⟨rfl, rfl⟩ := he
        exact ⟨_, rfl, Γ, _, .int _ _, hR, Post.refl _ _ _ _ _⟩
      · cases h
  | true =>
    rw [hf] at h
    have hf := Nat.eq_of_beq_eq_true hf
    subst hf
    simp only [cond_true] at h
    split at h
    · rename_i t a u b
      cases hc : (Nat.beq t 371 && (Nat.beq u 371 && (memN a errGs && memN b errGs))) with
      | false => rw [hc] at h; cases h
      | true =>
        rw [hc] at h
        simp only [cond_true, Option.some.injEq] at h
        subst h
        simp only [Bool.and_eq_true] at hc
        obtain ⟨h1, h2, h3, h4⟩ := hc
        have h1 := Nat.eq_of_beq_eq_true h1
        have h2 := Nat.eq_of_beq_eq_true h2
        subst h1 h2
        refine ⟨rfl, fun Γ w vs hR hr => ?_⟩
        obtain ⟨v, ws, rfl, hv, hr⟩ := hr.inv_cons
        obtain ⟨u, ws, rfl, hu, hr⟩ := hr.inv_cons
        have := hr.inv_nil
        subst this
        have ga : E.G a = some [.iface 371 (.gptr a)] := by rw [hEG, hG.err a h3, errG_at h3]
        have gb : E.G b = some [.iface 371 (.gptr b)] := by rw [hEG, hG.err b h4, errG_at h4]
        obtain ⟨x, rfl, hx, C, T, hbx⟩ := gptr_at ga hR hv
        obtain ⟨y, rfl, hy, C', T', hby⟩ := gptr_at gb hR hu
        by_cases hab : a = b
        · subst hab
          rw [hx] at hy
          cases hy
          rw [hP]
          refine (is_same x w).mono fun e w' he => ?_
          obtain ⟨rfl, rfl⟩ := he
          refine ⟨_, rfl, Γ, _, ?_, hR, Post.refl _ _ _ _ _⟩
          have : Nat.beq a a = true := Nat.beq_refl a
          rw [this]
          exact .bool true
        · have hne : x ≠ y := fun e => by
            subst e
            exact hab (hR.rock.uniq a b _ _ x ga gb hx hy)
          rw [hP]
          refine (is_other x y C C' T T' w hne hbx hby).mono fun e w' he => ?_
          obtain ⟨rfl, rfl⟩ := he
          refine ⟨_, rfl, Γ, _, ?_, hR, Post.refl _ _ _ _ _⟩
          have : Nat.beq a b = false := by
            cases hq : Nat.beq a b with
            | false => rfl
            | true => exact absurd (Nat.eq_of_beq_eq_true hq) hab
          rw [this]
          exact .bool false
    · rename_i u b
      cases hc : (Nat.beq u 371 && memN b errGs) with
      | false => rw [hc] at h; cases h
      | true =>
        rw [hc] at h
        simp only [cond_true, Option.some.injEq] at h
        subst h
        simp only [Bool.and_eq_true] at hc
        obtain ⟨h2, h4⟩ := hc
        have h2 := Nat.eq_of_beq_eq_true h2
        subst h2
        refine ⟨rfl, fun Γ w vs hR hr => ?_⟩
        obtain ⟨v, ws, rfl, hv, hr⟩ := hr.inv_cons
        obtain ⟨u, ws, rfl, hu, hr⟩ := hr.inv_cons
        have := hr.inv_nil
        subst this
        cases hv
        have gb : E.G b = some [.iface 371 (.gptr b)] := by rw [hEG, hG.err b h4, errG_at h4]
        obtain ⟨y, rfl, hy, C', T', hby⟩ := gptr_at gb hR hu
        rw [hP]
        refine (is_nil y w).mono fun e w' he => ?_
        obtain ⟨rfl, rfl⟩ := he
        exact ⟨_, rfl, Γ, _, .bool false, hR, Post.refl _ _ _ _ _⟩
    · cases h

theorem pure_ok1 {G : Nat → Option (List PV)} (hG : GOk G) {E : Env} (hEG : E.G = G) (hP : E.P = Tryz.prog) (f : FuncId) (args : List PV) (r : PV) (h : pureT1 f args = some r) : oldV 0 r = true ∧ ∀ (Γ : Sealed) (w : World) (vs : List Value), Rel E 0 Γ (fun _ => none) [] w → Reps Γ (fun _ => none) args vs →
    Calls E.P f vs.toArray w fun e w' => ∃ v, e = .returned v ∧ Moves E 0 Γ (fun _ => none) [] w r [] v w' := by
  unfold pureT1 at h
  split at h
  · rename_i q hq
    cases h
    exact pureSum_ok hP f args _ hq
  · exact pure_ok0 hG hEG hP f args r h

theorem pure_ok {G : Nat → Option (List PV)} (hG : GOk G) {E : Env} (hEG : E.G = G) (hP : E.P = Tryz.prog) (f : FuncId) (args : List PV) (r : PV) (h : pureT f args = some r) : oldV 0 r = true ∧ ∀ (Γ : Sealed) (w : World) (vs : List Value), Rel E 0 Γ (fun _ => none) [] w → Reps Γ (fun _ => none) args vs →
    Calls E.P f vs.toArray w fun e w' => ∃ v, e = .returned v ∧ Moves E 0 Γ (fun _ => none) [] w r [] v w' := by
  unfold pureT at h
  split at h
  · rename_i q hq
    cases h
    exact pureJoin_ok hP f args _ hq
  · exact pure_ok1 hG hEG hP f args r h

theorem EG0_ok {G : Nat → Option (List PV)} (hG : GOk G) : (EG0 G).Ok where
  plain := by
    intro t ht
    have hall : (plainL.all fun t => !Tryz.prog.stoodInHeld t && !Tryz.prog.eqGuardType Tryz.prog.depth t) = true := by kernel_rfl
    have hm : t ∈ plainL := by simpa [EG0] using ht
    have := List.all_eq_true.1 hall t hm
    simp only [Bool.and_eq_true, Bool.not_eq_true'] at this
    exact this
  ext := by
    intro f hf
    have : f = 148 := by
      by_cases h : f = 148
      · exact h
      · simp [EG0, h] at hf
    subst this
    exact ⟨Tryz.f148, Tryz.func148, by kernel_rfl, by kernel_rfl, by kernel_rfl, by kernel_rfl⟩
  mixed := by kernel_rfl
  glob := fun g cells h => hG.old g cells h
  pure := fun f xs r h => pure_ok hG rfl rfl f xs r h
  clone := fun f es h => by cases h
  prim := fun f args σ fl p σ' h => by cases h

/-- What makes a function a copy: at no element, nil or not; at some. -/
structure CloneRuns (f es : Nat) : Prop where
  nil : ∀ (G : Nat → Option (List PV)) (σ : Store) (fl : Nat), recS (EG0 G) T0 H0 50 3 f [.nils] σ fl (fun v σ => some (v, σ)) = some (.nils, σ)
  sln : ∀ (G : Nat → Option (List PV)) (σ : Store) (fl : Nat), recS (EG0 G) T0 H0 50 3 f [.sln es] σ fl (fun v σ => some (v, σ)) = some (.sl [] es 0 (some 0), σ)
  some : ∀ (G : Nat → Option (List PV)) (cells : List PV) (n : Nat) (xc : Option Nat) (σ : Store) (fl : Nat), cells.length = n * es → n ≠ 0 → n ≤ 1048576 → cells.all PV.oneCell = true →
    recS (EG0 G) T0 H0 50 3 f [.sl cells es n xc] σ fl (fun v σ => some (v, σ)) = some (.osl σ.length n 0 es n none, σ ++ [.mem ⟨cells, es, n, false, false, false⟩])

theorem Rel.cast {E E' : Env} (h : E.G = E'.G) {fl : Nat} {Γ : Sealed} {ρ : Ren} {σ : Store} {w : World} (r : Rel E fl Γ ρ σ w) : Rel E' fl Γ ρ σ w :=
  ⟨r.fix, r.mem, r.apart, r.inj, fun g cells hg => r.glob g cells (by rw [h]; exact hg), ⟨fun b hb => r.rock.stay b (by unfold Rock at *; rw [h]; exact hb), fun g g' t t' a h1 h2 => r.rock.uniq g g' t t' a (by rw [h]; exact h1) (by rw [h]; exact h2)⟩⟩

theorem clone_ok {G : Nat → Option (List PV)} (hG : GOk G) {f es : Nat} (h : CloneRuns f es) (cells : List PV) (n : Nat) (xc : Option Nat) (fl : Nat) (Γ : Sealed) (ρ : Ren) (σ : Store) (w : World) (v : Value) (hR : Rel (EG G) fl Γ ρ σ w) (hfl : fl ≤ σ.length)
    (hv : Rep Γ ρ (.sl cells es n xc) v) (hn : n ≤ 1048576) (h1 : cells.all PV.oneCell = true) :
    Calls (EG G).P f #[v] w fun e w' => ∃ r, e = .returned r ∧ Moves (EG G) fl Γ ρ σ w (cloneR cells es n σ).1 (cloneR cells es n σ).2 r w' := by
  have hR0 : Rel (EG0 G) fl Γ ρ σ w := Rel.cast (E := EG G) (E' := EG0 G) rfl hR
  have key : ∀ (x y : PV) (σ1 : Store), recS (EG0 G) T0 H0 50 3 f [x] σ fl (fun v σ => Option.some (v, σ)) = Option.some (y, σ1) → Rep Γ ρ x v →
      Calls (EG G).P f #[v] w fun e w' => ∃ r, e = .returned r ∧ Moves (EG0 G) fl Γ ρ σ w y σ1 r w' := by
    intro x y σ1 hr hx
    obtain ⟨u, σ2, k1, k2⟩ := recS_ok (K := 0) (n := 50) (E := EG0 G) T0_ok 3 _ _ _ _ _ _ hr
    cases k2
    exact runA_ok (EG0_ok hG) 50 (0 + 3) f [x] σ fl y σ1 k1 hfl Γ ρ w [v] hR0 (.cons hx .nil)
  have back : ∀ {y : PV} {σ1 : Store} {r : Value} {w' : World}, Moves (EG0 G) fl Γ ρ σ w y σ1 r w' → Moves (EG G) fl Γ ρ σ w y σ1 r w' := fun ⟨Γ', ρ', m1, m2, m3⟩ => ⟨Γ', ρ', m1, Rel.cast (E := EG0 G) (E' := EG G) rfl m2, m3⟩
  by_cases hn0 : n = 0
  · subst hn0
    have hc : cloneR cells es 0 σ = (.sl [] es 0 (some 0), σ) := by simp [cloneR]
    rw [hc]
    cases hv with
    | slNil hx =>
      refine (key .nils _ _ (h.nil G σ fl) .nils).mono fun e w' he => ?_
      obtain ⟨r, e1, Γ', ρ', m1, m2, m3⟩ := he
      cases m1
      exact ⟨_, e1, Γ', ρ', .slNil (fun c hc => by cases hc; rfl), Rel.cast (E := EG0 G) (E' := EG G) rfl m2, m3⟩
    | sl a cap vs hn hcap hx hh hr =>
      exact (key (.sln es) _ _ (h.sln G σ fl) (.sln a cap)).mono fun e w' ⟨r, e1, hm⟩ => ⟨r, e1, back hm⟩
  · have hc : cloneR cells es n σ = (.osl σ.length n 0 es n none, σ ++ [.mem ⟨cells, es, n, false, false, false⟩]) := by simp [cloneR, hn0]
    rw [hc]
    have hlen : cells.length = n * es := by
      cases hv with
      | slNil hx => exact absurd rfl hn0
      | sl a cap vs hn hcap hx hh hr => exact hn
    exact (key _ _ _ (h.some G cells n xc σ fl hlen hn0 hn h1) hv).mono fun e w' ⟨r, e1, hm⟩ => ⟨r, e1, back hm⟩





theorem tCloneCidrs (G : Nat → Option (List PV)) (cells : List PV) (n : Nat) (xc : Option Nat) (σ : Store) (fl : Nat) : recS (EG0 G) T0 H0 50 3 156 [PV.sl cells 18 (n + 1) xc] σ fl (fun (v : PV) (σ : Store) => some (v, σ)) =
  (ass (cells.length == (n + 1) * 18) <|
  ass (18 == 18 && (decide (0 < 0 + (n + 1)) && (decide (0 + (n + 1) ≤ 1048576) && [].all PV.oneCell))) <|
    some ((PV.osl (List.length σ) (0 + (n + 1)) 0 18 (0 + (n + 1)) none, List.append σ [Ob.mem { cells := [].append cells, size := 18, len := 0 + (n + 1), exact := false, ice := false, box := false }]))) := by kernel_rfl
theorem cloneCidrs : CloneRuns 156 18 where
  nil := fun G σ fl => by kernel_rfl
  sln := fun G σ fl => by kernel_rfl
  some := fun G cells n xc σ fl hl hn hm hc => by
    obtain ⟨k, rfl⟩ : ∃ k, n = k + 1 := ⟨n - 1, by omega⟩
    rw [tCloneCidrs]
    have a1 : (cells.length == (k + 1) * 18) = true := by simp [hl]
    have a2 : (18 == 18 && (decide (0 < 0 + (k + 1)) && (decide (0 + (k + 1) ≤ 1048576) && ([] : List PV).all PV.oneCell))) = true := by simp; omega
    rw [a1, a2]
    simp only [ass_true, Nat.zero_add]
    rfl




theorem EG_ok {G : Nat → Option (List PV)} (hG : GOk G) : (EG G).Ok where
  plain := (EG0_ok hG).plain
  ext := (EG0_ok hG).ext
  mixed := (EG0_ok hG).mixed
  glob := fun g cells h => hG.old g cells h
  pure := fun f xs r h => pure_ok hG rfl rfl f xs r h
  prim := fun f args σ fl p σ' h => by
    cases h
  clone := fun f es h => by
    have h' : cloneT f = some es := h
    unfold cloneT at h'
    split at h'
    · cases h'; exact clone_ok hG cloneCidrs
    · cases h'

end Go.Proofs.YtcjcinipfdameacGreatDoor.Am
