import Derived.Test.YtfpjlkkeelgffaaDoorKin
import Derived.Test.YtfpjlkkeelgffaaDoorRun3
import Derived.Test.YtfpjlkkeelgffaaDoorIx
import Derived.Test.YtfpjlkkeelgffaaDoorMgB
import Derived.Test.YtfpjlkkeelgffaaDoorSoLay
import Derived.Test.YtfpjlkkeelgffaaDoorSymRun
import Derived.Below

/- The environment of one row: no package variable is read. -/
section
set_option linter.unusedVariables false
set_option linter.unusedSimpArgs false
set_option maxRecDepth 100000
namespace Go.Proofs.YtfpjlkkeelgffaaDoor.Am

/-- Who is called with a store of its own. -/
def apartT (f : Nat) : Bool := match f with
  | 41 => true
  | 48 => true
  | 49 => true
  | 33 => true
  | 4 => true
  | 9 => true
  | 21 => true
  | 16 => true
  | 13 => true
  | 7 => true
  | 8 => true
  | 19 => true
  | 14 => true
  | 6 => true
  | 5 => true
  | _ => false

/-- slices.Clone, by its elements' cells. -/
def cloneT (f : Nat) : Option Nat := match f with
  | 10 => some 2
  | _ => none

/-- Whose arguments are sealed ahead of the call. -/
def sealT (f : Nat) : Bool := match f with
  | _ => false

/-- Who is called with the objects that its arguments reach, and no others: the parts of the stable sorts. -/
def footK (f : Nat) : Bool := match f with
  | 11 => true
  | 12 => true
  | _ => false

/-- The errors' variables. -/
def errGs : List Nat := []

/-- A byte's first place in a text. -/
def pureT (f : Nat) (xs : List PV) : Option PV := bif Nat.beq f 41 then (match xs with
  | [.str s, .int .u8 c] => some (.int .i64 (Lib.indexByte s c.toNat.toUInt8))
  | _ => none) else none

def errTy : Nat := 88

/-- What the errors' variables hold. -/
def errG (g : Nat) : Option (List PV) := bif memN g errGs then some [.iface errTy (.gptr g)] else none

/-- The kinds' names, the verdicts' names. -/
def txnWordsC : List (List UInt8) := [[], [112, 117, 116, 45, 102, 114, 111, 110, 116], [100, 114, 111, 112, 45, 102, 114, 111, 110, 116], [112, 117, 116, 45, 103, 114, 111, 117, 112], [100, 114, 111, 112, 45, 103, 114, 111, 117, 112], [112, 117, 116, 45, 102, 105, 108, 116, 101, 114], [100, 114, 111, 112, 45, 102, 105, 108, 116, 101, 114]]
def fwdWordsC : List (List UInt8) := [[112, 97, 115, 115], [109, 97, 108, 102, 111, 114, 109, 101, 100], [102, 111, 114, 119, 97, 114, 100], [114, 101, 112, 108, 121], [102, 105, 108, 116, 101, 114, 101, 100], [114, 101, 106, 101, 99, 116, 101, 100], [102, 117, 108, 108]]

/-- The row's package variables. -/
def rowG (g : Nat) : Option (List PV) := errG g

/-- Struct types that may be compared. -/
def plainL : List Nat := [
  25,
  ]

/-- Copies whose result is sealed: what a row's cell holds of a copy turns no more. -/
def sealK (f : Nat) : Option Nat := match f with
  | _ => none

def pureC (f : Nat) (xs : List PV) : Option PV := match sealK f with
  | some es => match xs with
    | [.sl c es' n none] => if es = es' ∧ n ≤ 1048576 ∧ c.length = n * es ∧ 0 < es ∧ c.all PV.oneCell = true ∧ c.all PV.calm = true ∧ oldL 0 c = true then some (.sl c es n none) else none
    | _ => none
  | none => pureT f xs

noncomputable def EG0 (G : Nat → Option (List PV)) : Env := ⟨Tryd.prog, fun f => none, G,
  plainL, fun _ => false, apartT, kindsT, true, pureT, fun _ => none, fun _ => false, fun _ _ _ _ => none⟩

noncomputable def EG (G : Nat → Option (List PV)) : Env := { EG0 G with seals := fun f => (cloneT f).isSome || sealT f, clone := cloneT, foot := footK, pure := pureC }


/-- What is asked of a list of package variables. -/
structure GOk (G : Nat → Option (List PV)) : Prop where
  err : ∀ g, memN g errGs = true → G g = errG g
  old : ∀ g cells, G g = some cells → oldL 0 cells = true

theorem errG_at {g : Nat} (h : memN g errGs = true) : errG g = some [.iface errTy (.gptr g)] := by
  unfold errG
  rw [h]; rfl

theorem errG_ok : GOk errG := ⟨fun _ _ => rfl, fun g cells h => by
  unfold errG at h
  cases hb : memN g errGs <;> rw [hb] at h <;> simp at h
  subst h; rfl⟩

theorem rowG_ok : GOk rowG where
  err := fun g h => by
    unfold rowG
    rfl
  old := fun g cells h => by
    unfold rowG at h
    exact errG_ok.old g cells h

/-- A byte's first place. -/
theorem pure_ok {G : Nat → Option (List PV)} (hG : GOk G) {E : Env} (hEG : E.G = G) (hP : E.P = Tryd.prog) (f : FuncId) (args : List PV) (r : PV) (h : pureT f args = some r) : oldV 0 r = true ∧ ∀ (Γ : Sealed) (w : World) (vs : List Value), Rel E 0 Γ (fun _ => none) [] w → Reps Γ (fun _ => none) args vs →
    Calls E.P f vs.toArray w fun e w' => ∃ v, e = .returned v ∧ Moves E 0 Γ (fun _ => none) [] w r [] v w' := by
  unfold pureT at h
  cases hf : Nat.beq f 41 with
  | false => rw [hf] at h; cases h
  | true =>
    rw [hf] at h
    have hf := Nat.eq_of_beq_eq_true hf
    subst hf
    simp only [cond_true] at h
    split at h
    · rename_i s c
      cases h
      refine ⟨rfl, fun Γ w vs hR hr => ?_⟩
      obtain ⟨v, ws, rfl, hv, hr⟩ := hr.inv_cons
      obtain ⟨u, ws, rfl, hu, hr⟩ := hr.inv_cons
      have := hr.inv_nil
      subst this
      cases hv
      cases hu
      rw [hP]
      refine (ix_byte ⟨⟨s⟩⟩ c w).mono fun e w' he => ?_
      obtain ⟨rfl, rfl⟩ := he
      exact ⟨_, rfl, Γ, _, .int _ _, hR, Post.refl _ _ _ _ _⟩
    · cases h

theorem EG0_ok {G : Nat → Option (List PV)} (hG : GOk G) : (EG0 G).Ok where
  plain := by
    intro t ht
    have hall : (plainL.all fun t => !Tryd.prog.stoodInHeld t && !Tryd.prog.eqGuardType Tryd.prog.depth t) = true := by kernel_rfl
    have hm : t ∈ plainL := by simpa [EG0] using ht
    have := List.all_eq_true.1 hall t hm
    simp only [Bool.and_eq_true, Bool.not_eq_true'] at this
    exact this
  ext := fun f hf => by cases hf
  mixed := by kernel_rfl
  glob := fun g cells h => hG.old g cells h
  pure := fun f xs r h => pure_ok hG rfl rfl f xs r h
  clone := fun f es h => by cases h
  prim := fun f args σ fl p σ' h => by cases h

/-- What makes a function a copy: at no element, nil or not; at some. -/
structure CloneRuns (f es : Nat) : Prop where
  nil : ∀ (G : Nat → Option (List PV)) (σ : Store) (fl : Nat), recS (EG0 G) T0 H0 50 3 f [.nils] σ fl (fun v σ => some (v, σ)) = some (.nils, σ)
  sln : ∀ (G : Nat → Option (List PV)) (σ : Store) (fl : Nat), recS (EG0 G) T0 H0 50 3 f [.sln es] σ fl (fun v σ => some (v, σ)) = some (.sl [] es 0 (some 0), σ)
  some : ∀ (G : Nat → Option (List PV)) (cells : List PV) (n : Nat) (xc : Option Nat) (σ : Store) (fl : Nat), cells.length = n * es → n ≠ 0 → n ≤ 1048576 → cells.all PV.oneCell = true →
    recS (EG0 G) T0 H0 50 3 f [.sl cells es n xc] σ fl (fun v σ => some (v, σ)) = some (.osl σ.length n 0 es n none, σ ++ [.mem ⟨cells, es, n, false, false, false⟩])

theorem Rel.cast {E E' : Env} (h : E.G = E'.G) {fl : Nat} {Γ : Sealed} {ρ : Ren} {σ : Store} {w : World} (r : Rel E fl Γ ρ σ w) : Rel E' fl Γ ρ σ w :=
  ⟨r.fix, r.mem, r.apart, r.inj, fun g cells hg => r.glob g cells (by rw [h]; exact hg), ⟨fun b hb => r.rock.stay b (by unfold Rock at *; rw [h]; exact hb), fun g g' t t' a h1 h2 => r.rock.uniq g g' t t' a (by rw [h]; exact h1) (by rw [h]; exact h2)⟩⟩

theorem clone_ok {G : Nat → Option (List PV)} (hG : GOk G) {f es : Nat} (h : CloneRuns f es) (cells : List PV) (n : Nat) (xc : Option Nat) (fl : Nat) (Γ : Sealed) (ρ : Ren) (σ : Store) (w : World) (v : Value) (hR : Rel (EG G) fl Γ ρ σ w) (hfl : fl ≤ σ.length)
    (hv : Rep Γ ρ (.sl cells es n xc) v) (hn : n ≤ 1048576) (h1 : cells.all PV.oneCell = true) :
    Calls (EG G).P f #[v] w fun e w' => ∃ r, e = .returned r ∧ Moves (EG G) fl Γ ρ σ w (cloneR cells es n σ).1 (cloneR cells es n σ).2 r w' := by
  have hR0 : Rel (EG0 G) fl Γ ρ σ w := Rel.cast (E := EG G) (E' := EG0 G) rfl hR
  have key : ∀ (x y : PV) (σ1 : Store), recS (EG0 G) T0 H0 50 3 f [x] σ fl (fun v σ => Option.some (v, σ)) = Option.some (y, σ1) → Rep Γ ρ x v →
      Calls (EG G).P f #[v] w fun e w' => ∃ r, e = .returned r ∧ Moves (EG0 G) fl Γ ρ σ w y σ1 r w' := by
    intro x y σ1 hr hx
    obtain ⟨u, σ2, k1, k2⟩ := recS_ok (K := 0) (n := 50) (E := EG0 G) T0_ok 3 _ _ _ _ _ _ hr
    cases k2
    exact runA_ok (EG0_ok hG) 50 (0 + 3) f [x] σ fl y σ1 k1 hfl Γ ρ w [v] hR0 (.cons hx .nil)
  have back : ∀ {y : PV} {σ1 : Store} {r : Value} {w' : World}, Moves (EG0 G) fl Γ ρ σ w y σ1 r w' → Moves (EG G) fl Γ ρ σ w y σ1 r w' := fun ⟨Γ', ρ', m1, m2, m3⟩ => ⟨Γ', ρ', m1, Rel.cast (E := EG0 G) (E' := EG G) rfl m2, m3⟩
  by_cases hn0 : n = 0
  · subst hn0
    have hc : cloneR cells es 0 σ = (.sl [] es 0 (some 0), σ) := by simp [cloneR]
    rw [hc]
    cases hv with
    | slNil hx =>
      refine (key .nils _ _ (h.nil G σ fl) .nils).mono fun e w' he => ?_
      obtain ⟨r, e1, Γ', ρ', m1, m2, m3⟩ := he
      cases m1
      exact ⟨_, e1, Γ', ρ', .slNil (fun c hc => by cases hc; rfl), Rel.cast (E := EG0 G) (E' := EG G) rfl m2, m3⟩
    | sl a cap vs hn hcap hx hh hr =>
      exact (key (.sln es) _ _ (h.sln G σ fl) (.sln a cap)).mono fun e w' ⟨r, e1, hm⟩ => ⟨r, e1, back hm⟩
  · have hc : cloneR cells es n σ = (.osl σ.length n 0 es n none, σ ++ [.mem ⟨cells, es, n, false, false, false⟩]) := by simp [cloneR, hn0]
    rw [hc]
    have hlen : cells.length = n * es := by
      cases hv with
      | slNil hx => exact absurd rfl hn0
      | sl a cap vs hn hcap hx hh hr => exact hn
    exact (key _ _ _ (h.some G cells n xc σ fl hlen hn0 hn h1) hv).mono fun e w' ⟨r, e1, hm⟩ => ⟨r, e1, back hm⟩








theorem tCloneKeys (G : Nat → Option (List PV)) (cells : List PV) (n : Nat) (xc : Option Nat) (σ : Store) (fl : Nat) : recS (EG0 G) T0 H0 50 3 10 [PV.sl cells 2 (n + 1) xc] σ fl (fun (v : PV) (σ : Store) => some (v, σ)) =
  (ass (cells.length == (n + 1) * 2) <|
  ass (2 == 2 && (decide (0 < 0 + (n + 1)) && (decide (0 + (n + 1) ≤ 1048576) && [].all PV.oneCell))) <|
    some ((PV.osl (List.length σ) (0 + (n + 1)) 0 2 (0 + (n + 1)) none, List.append σ [Ob.mem { cells := [].append cells, size := 2, len := 0 + (n + 1), exact := false, ice := false, box := false }]))) := by kernel_rfl
theorem cloneKeys : CloneRuns 10 2 where
  nil := fun G σ fl => by kernel_rfl
  sln := fun G σ fl => by kernel_rfl
  some := fun G cells n xc σ fl hl hn hm hc => by
    obtain ⟨k, rfl⟩ : ∃ k, n = k + 1 := ⟨n - 1, by omega⟩
    rw [tCloneKeys]
    have a1 : (cells.length == (k + 1) * 2) = true := by simp [hl]
    have a2 : (2 == 2 && (decide (0 < 0 + (k + 1)) && (decide (0 + (k + 1) ≤ 1048576) && ([] : List PV).all PV.oneCell))) = true := by simp; omega
    rw [a1, a2]
    simp only [ass_true, Nat.zero_add]
    rfl

theorem pureC_ok {G : Nat → Option (List PV)} (hG : GOk G) (f : FuncId) (args : List PV) (r : PV) (h : pureC f args = some r) : oldV 0 r = true ∧ ∀ (Γ : Sealed) (w : World) (vs : List Value), Rel (EG G) 0 Γ (fun _ => none) [] w → Reps Γ (fun _ => none) args vs →
    Calls (EG G).P f vs.toArray w fun e w' => ∃ v, e = .returned v ∧ Moves (EG G) 0 Γ (fun _ => none) [] w r [] v w' := by
  unfold pureC at h
  split at h
  · rename_i es hk
    split at h
    · rename_i c es' n
      split at h
      · rename_i hc
        obtain ⟨rfl, hn, hl, he, h1, h2, h3⟩ := hc
        cases h
        refine ⟨by simpa only [oldV] using h3, fun Γ w vs hR hr => ?_⟩
        obtain ⟨v, ws, rfl, hv, hr⟩ := hr.inv_cons
        have := hr.inv_nil
        subst this
        have hrun : CloneRuns f es := by
          unfold sealK at hk
          split at hk
          · cases hk
        refine (clone_ok hG hrun c n none 0 Γ (fun _ => none) [] w v hR (Nat.le_refl _) hv hn h1).mono fun e w' he' => ?_
        obtain ⟨u, e1, hm⟩ := he'
        refine ⟨u, e1, ?_⟩
        obtain ⟨Γ1, ρ1, m1, m2, m3⟩ := hm
        by_cases h0 : n = 0
        · subst h0
          have hc0 : c = [] := List.eq_nil_of_length_eq_zero (by omega)
          subst hc0
          simp only [cloneR, if_true] at m1 m2 m3
          exact ⟨Γ1, ρ1, m1.weakC, m2, m3⟩
        · simp only [cloneR, if_neg h0, List.length_nil, List.nil_append] at m1 m2 m3
          have hs : sealV [Ob.mem ⟨c, es, n, false, false, false⟩] (PV.osl 0 n 0 es n none) = some (.sl c es n none, [Ob.mem ⟨c, es, n, false, true, false⟩]) := by
            have e1 : sealCells 4000 (freezeId [Ob.mem ⟨c, es, n, false, false, false⟩] 0) c = some (c, [Ob.mem ⟨c, es, n, false, true, false⟩]) := sealCells_calm 3999 _ _ h2
            have e2 : (c.drop 0).take (n * es) = c := by rw [List.drop_zero, ← hl, List.take_length]
            have e3 : sealCells 4001 [Ob.mem ⟨c, es, n, false, false, false⟩] [PV.osl 0 n 0 es n none] = some ([.sl c es n none], [Ob.mem ⟨c, es, n, false, true, false⟩]) := by
              rw [show (4001 : Nat) = 4000 + 1 from rfl, sealCells]
              rw [if_neg (by simp [PV.calm])]
              simp only [getMem, List.getElem?_cons_zero]
              rw [if_pos (by refine ⟨trivial, ?_, he⟩; omega), e2, e1]
              rfl
            simp only [sealV, sealList]
            rw [if_neg (by simp [PV.calm])]
            rw [show ([PV.osl 0 n 0 es n none] : List PV).length + 4000 = 4001 from rfl, e3]
          obtain ⟨Γ2, k1, k2, k3⟩ := sealV_ok m2 hs m1
          exact bare_ok hR ⟨Γ2, ρ1, k1, k2, m3.trans k3⟩ (by simpa only [oldV] using h3)
      · cases h
    · cases h
  · exact pure_ok hG rfl rfl f args r h

theorem EG_ok {G : Nat → Option (List PV)} (hG : GOk G) : (EG G).Ok where
  plain := (EG0_ok hG).plain
  ext := (EG0_ok hG).ext
  mixed := (EG0_ok hG).mixed
  glob := fun g cells h => hG.old g cells h
  pure := fun f xs r h => pureC_ok hG f xs r h
  prim := fun f args σ fl p σ' h => by cases h
  clone := fun f es h => by
    have h' : cloneT f = some es := h
    unfold cloneT at h'
    split at h'
    · cases h'; exact clone_ok hG cloneKeys
    · cases h'


end Go.Proofs.YtfpjlkkeelgffaaDoor.Am
end

/- The environment with slices.SortFunc at keys, by the kit's contract. -/
section
set_option linter.unusedVariables false
set_option linter.unusedSimpArgs false
set_option maxRecDepth 100000
set_option maxHeartbeats 4000000
namespace Go.Proofs.YtfpjlkkeelgffaaDoor.Am
open St Go.Sort

/-! ### keys held against each other, ahead of the sort -/

noncomputable def TK1 : Table := Tadd T0 19 gNaNs
noncomputable def TK2 : Table := Tadd TK1 14 gCmpS
noncomputable def TK3 : Table := Tadd TK2 13 gOr2
where gOr2 (xs : List PV) : Option (Bool × PV) := match xs with
  | [.sl [.int .i64 a, .int .i64 b] 1 2 _] => some (true, vi (orr [a, b]))
  | _ => none

theorem kNaNs (G : Nat → Option (List PV)) (N : Nat) (s : List UInt8) : apartS (EG G) T0 H0 N 5 19 [.str s] = some (.bool !(s == s)) := by kernel_rfl
theorem kCmpS (G : Nat → Option (List PV)) (N : Nat) (s t : List UInt8) : apartS (EG G) TK1 H0 N 5 14 [.str s, .str t] = (bif Op.bytesLess s t then some (vi (-1)) else bif !(Op.bytesLess s t || s == t) then some (vi 1) else some (vi 0)) := by kernel_rfl
theorem kOr2 (G : Nat → Option (List PV)) (N : Nat) (a b : Int) (xc : Option Nat) : apartS (EG G) TK2 H0 (N + 9) 5 13 [.sl [.int .i64 a, .int .i64 b] 1 2 xc] = (bif a != 0 then some (vi a) else bif b != 0 then some (vi b) else some (vi 0)) := by kernel_rfl
theorem kKyC (G : Nat → Option (List PV)) (N : Nat) (a b : Ky) : apartS (EG G) TK3 H0 N 5 7 [.agg a.cs, .agg b.cs] = some (vi (kyC a b)) := by kernel_rfl

theorem keys_cmp (G : Nat → Option (List PV)) {x y : List PV} (hx : wk KKy x = true) (hy : wk KKy y = true) : ∃ N k, apartA (EG G) (runA (EG G) N k) 7 [.agg x, .agg y] = some (.int .i64 (cKy x y)) := by
  have h0 : TOk (EG G) T0 (runA (EG G) 1000009 0) := T0_ok
  have h1 : TOk (EG G) TK1 _ := Tadd_ok2 (f0 := 19) (g := gNaNs) (d := 5) h0 h0 (fun _ => rfl) (fun xs v h => ⟨H0, by
    unfold gNaNs at h
    split at h
    · rename_i s
      simp only [Option.some.injEq, Prod.mk.injEq, true_and] at h
      subst h
      exact (kNaNs G 1000009 s).trans (by simp)
    · cases h⟩)
  have h2 : TOk (EG G) TK2 _ := Tadd_ok2 (f0 := 14) (g := gCmpS) (d := 5) h1 h1 (fun _ => rfl) (fun xs v h => ⟨H0, by
    unfold gCmpS at h
    split at h
    · rename_i s t
      simp only [Option.some.injEq, Prod.mk.injEq, true_and] at h
      subst h
      exact (kCmpS G 1000009 s t).trans (cmpS_some s t)
    · cases h⟩)
  have h3 : TOk (EG G) TK3 _ := Tadd_ok2 (f0 := 13) (g := TK3.gOr2) (d := 5) h2 h2 (fun _ => rfl) (fun xs v h => ⟨H0, by
    unfold TK3.gOr2 at h
    split at h
    · rename_i a b xc
      simp only [Option.some.injEq, Prod.mk.injEq, true_and] at h
      subst h
      exact (kOr2 G 1000000 a b xc).trans (or2_some a b)
    · cases h⟩)
  have h4 := apartS_ok h3 (f := 7) («as» := [.agg (kyAt x 0).cs, .agg (kyAt y 0).cs]) rfl (kKyC G 1000009 (kyAt x 0) (kyAt y 0))
  rw [← ky_of hx, ← ky_of hy] at h4
  exact ⟨_, _, h4⟩

theorem ky_one (x y : List PV) (hx : wk KKy x = true) (hy : wk KKy y = true) (h : cKy x y = 0) : x = y := by
  have h1 := kyC_zero (a := kyAt x 0) (b := kyAt y 0) h
  rw [ky_of hx, ky_of hy]
  unfold Ky.cs
  rw [h1.1, h1.2]

/-! ### with the sort -/

theorem sorts_keys : SortsAt Tryd.prog 11 7 KKy := fun enc hk h1 cf hO blk off cap d w hcmp hH hblk hsz =>
  Tryd.slices_SortFunc 2 Tryd.isAgg25 Tryd.sizeOf25 enc hk h1 cf hO 7 #[] blk off cap d w (enters_of Tryd.func7 (by kernel_rfl) rfl) hcmp hH hblk hsz

noncomputable def ES (G : Nat → Option (List PV)) : Env := { EG G with prim := fun f args σ fl => match primSort 11 7 KKy cKy f args σ fl with
  | some r => some r
  | none => (EG G).prim f args σ fl }
noncomputable def EN : Env := ES rowG

theorem Moves.cast {E E' : Env} (h : E.G = E'.G) {fl : Nat} {Γ : Sealed} {ρ : Ren} {σ σ' : Store} {w w' : World} {p : PV} {r : Value} (m : Moves E fl Γ ρ σ w p σ' r w') : Moves E' fl Γ ρ σ w p σ' r w' := by
  obtain ⟨Γ', ρ', h1, h2, h3⟩ := m
  exact ⟨Γ', ρ', h1, h2.cast h, h3⟩

theorem ES_ok {G : Nat → Option (List PV)} (hG : GOk G) : (ES G).Ok where
  plain := (EG_ok hG).plain
  ext := (EG_ok hG).ext
  mixed := (EG_ok hG).mixed
  glob := (EG_ok hG).glob
  pure := fun f args r h => by
    obtain ⟨h1, h2⟩ := (EG_ok hG).pure f args r h
    refine ⟨h1, fun Γ w vs hR hr => (h2 Γ w vs (Rel.cast (E := ES G) (E' := EG G) rfl hR) hr).mono fun e w' he => ?_⟩
    obtain ⟨v, e1, hm⟩ := he
    exact ⟨v, e1, Moves.cast (E := EG G) (E' := ES G) rfl hm⟩
  clone := fun f es h cells n xc fl Γ ρ σ w v hR hfl hr hn h1 => by
    refine ((EG_ok hG).clone f es h cells n xc fl Γ ρ σ w v (Rel.cast (E := ES G) (E' := EG G) rfl hR) hfl hr hn h1).mono fun e w' he => ?_
    obtain ⟨v, e1, hm⟩ := he
    exact ⟨v, e1, Moves.cast (E := EG G) (E' := ES G) rfl hm⟩
  prim := fun f args σ fl p σ' h hfl Γ ρ w vs hR hr => by
    have h' : (match primSort 11 7 KKy cKy f args σ fl with
      | some r => some r
      | none => (EG G).prim f args σ fl) = some (true, p, σ') := h
    split at h'
    · rename_i q hq
      cases h'
      exact primSort_ok (E := ES G) (E0 := EG G) (EG_ok hG) rfl rfl (fun a b => cKy_co.anti a b) (fun a b c => cKy_co.trans a b c)
        (fun x y hx hy h0 => ky_one x y (by unfold goodR at hx; simp only [Bool.and_eq_true] at hx; exact hx.1) (by unfold goodR at hy; simp only [Bool.and_eq_true] at hy; exact hy.1) h0)
        (fun x y hx hy => keys_cmp G (by unfold goodR at hx; simp only [Bool.and_eq_true] at hx; exact hx.1) (by unfold goodR at hy; simp only [Bool.and_eq_true] at hy; exact hy.1))
        (by decide) (by decide) (by rfl) sorts_keys hq hR hr
    · refine ((EG_ok hG).prim f args σ fl p σ' h' hfl Γ ρ w vs (Rel.cast (E := ES G) (E' := EG G) rfl hR) hr).mono fun e w' he => ?_
      obtain ⟨v, e1, hm⟩ := he
      exact ⟨v, e1, Moves.cast (E := EG G) (E' := ES G) rfl hm⟩

theorem EN_ok : EN.Ok := ES_ok rowG_ok

end Go.Proofs.YtfpjlkkeelgffaaDoor.Am
end

/- What walks over rows of cells use: loops, rows that grow, what is asked for; tables that are right. -/
section
set_option linter.unusedVariables false
set_option linter.unusedSimpArgs false
set_option maxRecDepth 100000
set_option maxHeartbeats 8000000
namespace Go.Proofs.YtfpjlkkeelgffaaDoor.Am
open St

def gAd2 (k : Ad → Ad → Int) (xs : List PV) : Option (Bool × PV) := (two asAd xs).map fun p => (true, vi (k p.1 p.2))

def gPt2 (k : Pt → Pt → Int) (xs : List PV) : Option (Bool × PV) := (two asPt xs).map fun p => (true, vi (k p.1 p.2))

def gKy2 (k : Ky → Ky → Int) (xs : List PV) : Option (Bool × PV) := (two asKy xs).map fun p => (true, vi (k p.1 p.2))

def gRow2 (K : List Kd) (f : List PV → List PV → Int) (xs : List PV) : Option (Bool × PV) := match xs with
  | [.agg x, .agg y] => some (wk K x && wk K y, vi (f x y))
  | _ => none

/-! ### the document's trees -/

def kyT (a b c d : List UInt8) : Option PV := bif Op.bytesLess a c then some (vi (-1)) else bif a == c then (bif Op.bytesLess b d then some (vi (-1)) else bif (a == c) && ((b == d) && true) then some (vi 0) else some (vi 1)) else bif (a == c) && ((b == d) && true) then some (vi 0) else some (vi 1)

def loopT (a b : Nat → Int) : List Nat → Option PV
  | [] => some (vi 0)
  | i :: r => bif decide (a i < b i) then some (vi (-1)) else bif decide (a i > b i) then some (vi 1) else loopT a b r

/-- A table that is right at some depth. -/
def TR (T : Table) : Prop := ∃ K, TOk EN T (runA EN 1000009 K)

theorem TR0 : TR T0 := ⟨0, T0_ok⟩

theorem TR.add {T T' : Table} {f0 : Nat} {g : List PV → Option (Bool × PV)} (hT : TR T) (hT' : TR T') (h : ∀ xs v, g xs = some (true, v) → ∃ H, apartS EN T' H 1000009 5 f0 xs = some v) (hft : footK f0 = false := by rfl) (hp : ∀ xs, EN.pure f0 xs = none := by intro xs; rfl) : TR (Tadd T f0 g) := by
  obtain ⟨k, hT⟩ := hT
  obtain ⟨k', hT'⟩ := hT'
  exact ⟨_, Tadd_ok2 hT hT' hp h hft⟩

theorem TR.addT {T T' : Table} {f0 : Nat} {g : List PV → Option Tr} (hT : TR T) (hT' : TR T') (h : ∀ xs t v, g xs = some t → t.val = some v → ∃ H, apartS EN T' H 1000009 5 f0 xs = some v) (hft : footK f0 = false := by rfl) (hp : ∀ xs, EN.pure f0 xs = none := by intro xs; rfl) : TR (TaddT T f0 g) := by
  obtain ⟨k, hT⟩ := hT
  obtain ⟨k', hT'⟩ := hT'
  exact ⟨_, TaddT_ok2 hT hT' hp h hft⟩

theorem TR.addF {T T' : Table} {f0 : Nat} {g : List PV → Option Tr} (hT : TR T) (hT' : TR T') (h : ∀ xs t v, g xs = some t → t.val = some v → ∃ H, footSR EN T' H 1000009 5 f0 xs = some v) (hap : apartT f0 = false := by rfl) : TR (TaddT T f0 g) := by
  obtain ⟨k, hT⟩ := hT
  obtain ⟨k', hT'⟩ := hT'
  exact ⟨_, TaddF_ok2 hT hT' h hap⟩

theorem two_some {A B : Type} {f : PV → Option A} {g : A × A → B} {xs : List PV} {v : B} (h : (two f xs).map g = some v) : ∃ x y a b, xs = [x, y] ∧ f x = some a ∧ f y = some b ∧ v = g (a, b) := by
  simp only [Option.map_eq_some_iff] at h
  obtain ⟨⟨a, b⟩, h, rfl⟩ := h
  unfold two at h
  split at h
  · rename_i x y
    split at h
    · rename_i a' b' h1 h2
      cases h
      exact ⟨x, y, a, b, rfl, h1, h2, rfl⟩
    · cases h
  · cases h

theorem row2_some {K : List Kd} {f : List PV → List PV → Int} {xs : List PV} {v : PV} (h : gRow2 K f xs = some (true, v)) : ∃ x y, xs = [.agg x, .agg y] ∧ wk K x = true ∧ wk K y = true ∧ v = vi (f x y) := by
  unfold gRow2 at h
  split at h
  · rename_i x y
    simp only [Option.some.injEq, Prod.mk.injEq, Bool.and_eq_true] at h
    exact ⟨x, y, rfl, h.1.1, h.1.2, h.2.symm⟩
  · cases h

theorem or4_some (a b c d : Int) : (bif a != 0 then some (vi a) else bif b != 0 then some (vi b) else bif c != 0 then some (vi c) else bif d != 0 then some (vi d) else some (vi 0)) = some (vi (orr [a, b, c, d])) := by
  unfold orr orr orr orr orr
  cases a != 0 <;> cases b != 0 <;> cases c != 0 <;> cases d != 0 <;> rfl

theorem or5_some (a b c d e : Int) : (bif a != 0 then some (vi a) else bif b != 0 then some (vi b) else bif c != 0 then some (vi c) else bif d != 0 then some (vi d) else bif e != 0 then some (vi e) else some (vi 0)) = some (vi (orr [a, b, c, d, e])) := by
  unfold orr orr orr orr orr orr
  cases a != 0 <;> cases b != 0 <;> cases c != 0 <;> cases d != 0 <;> cases e != 0 <;> rfl

theorem runOr {f : Nat} {T : Table} (h2 : ∀ (a b : Int) (xc : Option Nat), apartS EN T H0 1000009 5 f [.sl [.int .i64 a, .int .i64 b] 1 2 xc] = (bif a != 0 then some (vi a) else bif b != 0 then some (vi b) else some (vi 0))) (h4 : ∀ (a b c d : Int) (xc : Option Nat), apartS EN T H0 1000009 5 f [.sl [.int .i64 a, .int .i64 b, .int .i64 c, .int .i64 d] 1 4 xc] = (bif a != 0 then some (vi a) else bif b != 0 then some (vi b) else bif c != 0 then some (vi c) else bif d != 0 then some (vi d) else some (vi 0)))
    (h5 : ∀ (a b c d e : Int) (xc : Option Nat), apartS EN T H0 1000009 5 f [.sl [.int .i64 a, .int .i64 b, .int .i64 c, .int .i64 d, .int .i64 e] 1 5 xc] = (bif a != 0 then some (vi a) else bif b != 0 then some (vi b) else bif c != 0 then some (vi c) else bif d != 0 then some (vi d) else bif e != 0 then some (vi e) else some (vi 0))) (xs : List PV) (v : PV) (h : gOr xs = some (true, v)) : ∃ H, apartS EN T H 1000009 5 f xs = some v := by
  unfold gOr at h
  split at h
  · simp only [Option.some.injEq, Prod.mk.injEq, true_and] at h
    subst h
    exact ⟨H0, (h2 _ _ _).trans (or2_some _ _)⟩
  · simp only [Option.some.injEq, Prod.mk.injEq, true_and] at h
    subst h
    exact ⟨H0, (h4 _ _ _ _ _).trans (or4_some _ _ _ _)⟩
  · simp only [Option.some.injEq, Prod.mk.injEq, true_and] at h
    subst h
    exact ⟨H0, (h5 _ _ _ _ _ _).trans (or5_some _ _ _ _ _)⟩
  · cases h

theorem loopT_some (a b : Nat → Int) : ∀ l, loopT a b l = some (vi (loopI a b l))
  | [] => rfl
  | i :: l => by
    have ih := loopT_some a b l
    unfold loopT loopI
    rw [ih]
    cases decide (a i < b i) <;> cases decide (a i > b i) <;> rfl

theorem runAd {f : Nat} {T : Table} {k : Ad → Ad → Int} (ht : ∀ a b : Ad, apartS EN T H0 1000009 5 f [.agg a.cs, .agg b.cs] = some (vi (k a b))) (xs : List PV) (v : PV) (h : gAd2 k xs = some (true, v)) : ∃ H, apartS EN T H 1000009 5 f xs = some v := by
  obtain ⟨x, y, a, b, rfl, h1, h2, h3⟩ := two_some h
  cases h3
  rw [asAd_ok h1, asAd_ok h2]
  exact ⟨H0, ht a b⟩

theorem runPt {f : Nat} {T : Table} {k : Pt → Pt → Int} (ht : ∀ a b : Pt, apartS EN T H0 1000009 5 f [.agg a.cs, .agg b.cs] = some (vi (k a b))) (xs : List PV) (v : PV) (h : gPt2 k xs = some (true, v)) : ∃ H, apartS EN T H 1000009 5 f xs = some v := by
  obtain ⟨x, y, a, b, rfl, h1, h2, h3⟩ := two_some h
  cases h3
  rw [asPt_ok h1, asPt_ok h2]
  exact ⟨H0, ht a b⟩

theorem runKy {f : Nat} {T : Table} {k : Ky → Ky → Int} (ht : ∀ a b : Ky, apartS EN T H0 1000009 5 f [.agg a.cs, .agg b.cs] = some (vi (k a b))) (xs : List PV) (v : PV) (h : gKy2 k xs = some (true, v)) : ∃ H, apartS EN T H 1000009 5 f xs = some v := by
  obtain ⟨x, y, a, b, rfl, h1, h2, h3⟩ := two_some h
  cases h3
  rw [asKy_ok h1, asKy_ok h2]
  exact ⟨H0, ht a b⟩

theorem runCmp {f : Nat} {T : Table} (ht : ∀ a b : Int, apartS EN T H0 1000009 5 f [.int .i64 a, .int .i64 b] = (bif decide (a < b) then some (vi (-1)) else bif decide (a > b) then some (vi 1) else some (vi 0))) (xs : List PV) (v : PV) (h : gCmp xs = some (true, v)) : ∃ H, apartS EN T H 1000009 5 f xs = some v := by
  unfold gCmp at h
  split at h
  · rename_i a b
    simp only [Option.some.injEq, Prod.mk.injEq, true_and] at h
    subst h
    exact ⟨H0, (ht a b).trans (cmpI_some a b)⟩
  · cases h

theorem runCmpS {f : Nat} {T : Table} (ht : ∀ s t : List UInt8, apartS EN T H0 1000009 5 f [.str s, .str t] = (bif Op.bytesLess s t then some (vi (-1)) else bif !(Op.bytesLess s t || s == t) then some (vi 1) else some (vi 0))) (xs : List PV) (v : PV) (h : gCmpS xs = some (true, v)) : ∃ H, apartS EN T H 1000009 5 f xs = some v := by
  unfold gCmpS at h
  split at h
  · rename_i a b
    simp only [Option.some.injEq, Prod.mk.injEq, true_and] at h
    subst h
    exact ⟨H0, (ht a b).trans (cmpS_some a b)⟩
  · cases h

theorem adC_some (a b : Ad) : (bif a.six == b.six then some (vi (cmpBytes (bytes16 a.b) (bytes16 b.b))) else bif a.six then some (vi 1) else some (vi (-1))) = some (vi (adC a b)) := by
  unfold adC
  cases a.six <;> cases b.six <;> rfl

theorem adR_some (a b : Ad) : (bif !(a.six == b.six) then (bif a.six then some (vi 1) else some (vi (-1))) else loopT a.b b.b [0, 1, 2, 3, 4, 5, 6, 7, 8, 9, 10, 11, 12, 13, 14, 15]) = some (vi (adR a b)) := by
  unfold adR
  rw [loopT_some]
  cases a.six <;> cases b.six <;> rfl

theorem ptR_some (a b : Pt) : (bif adR a.ad b.ad != 0 then some (vi (adR a.ad b.ad)) else bif decide (a.port < b.port) then some (vi (-1)) else bif decide (a.port > b.port) then some (vi 1) else some (vi 0)) = some (vi (ptR a b)) := by
  unfold ptR cmpI
  cases adR a.ad b.ad != 0 <;> cases decide (a.port < b.port) <;> cases decide (a.port > b.port) <;> rfl

theorem kyT_some (a b : Ky) : kyT a.space a.name b.space b.name = some (vi (kyR a b)) := by
  unfold kyT kyR
  cases Op.bytesLess a.space b.space <;> cases a.space == b.space <;> cases Op.bytesLess a.name b.name <;> cases a.name == b.name <;> rfl

/-! ### the sorts -/

theorem leafRow {K : List Kd} {c : List PV → List PV → Int} {xs : List PV} {t : Tr} {v : PV} (hg : (match xs with
  | [.agg x, .agg y] => some (Tr.leaf (wk K x && wk K y) (.int .i64 (c x y)))
  | _ => none) = some t) (hv : t.val = some v) : ∃ x y, xs = [.agg x, .agg y] ∧ wk K x = true ∧ wk K y = true ∧ v = vi (c x y) := by
  split at hg
  · rename_i x y
    cases hg
    obtain ⟨hc, rfl⟩ := leaf_val hv
    simp only [Bool.and_eq_true] at hc
    exact ⟨x, y, rfl, hc.1, hc.2, rfl⟩
  · cases hg

/-! ### which are the same, by their parts -/

inductive Et where
  | c (k : Kd)
  | st (l : List Et)

def Kd.eqc (k : Kd) (x y : PV) : Bool := match k with
  | .int _ => asI x == asI y
  | .bool => asB x == asB y
  | .str => asS x == asS y
  | _ => true

mutual
def Et.n : Et → Nat
  | .c _ => 1
  | .st l => Et.nL l
def Et.nL : List Et → Nat
  | [] => 0
  | e :: l => e.n + Et.nL l
end

mutual
def Et.eq (x y : List PV) : Et → Nat → Bool
  | .c k, i => k.eqc (x.getD i .nilp) (y.getD i .nilp)
  | .st l, i => Et.eqL x y l i
def Et.eqL (x y : List PV) : List Et → Nat → Bool
  | [], _ => true
  | e :: l, i => Et.eq x y e i && Et.eqL x y l (i + e.n)
end

theorem Kd.eqc_refl (k : Kd) (x : PV) : k.eqc x x = true := by cases k <;> simp [Kd.eqc]

mutual
theorem Et.eq_refl (x : List PV) : ∀ (e : Et) (i : Nat), Et.eq x x e i = true
  | .c k, i => by simp only [Et.eq, Kd.eqc_refl]
  | .st l, i => by simp only [Et.eq]; exact Et.eqL_refl x l i
theorem Et.eqL_refl (x : List PV) : ∀ (l : List Et) (i : Nat), Et.eqL x x l i = true
  | [], i => rfl
  | e :: l, i => by simp only [Et.eqL, Et.eq_refl x e i, Et.eqL_refl x l, Bool.and_self]
end

def etAd : Et := .st [.c .bool, .st [.c (.int .u8), .c (.int .u8), .c (.int .u8), .c (.int .u8), .c (.int .u8), .c (.int .u8), .c (.int .u8), .c (.int .u8), .c (.int .u8), .c (.int .u8), .c (.int .u8), .c (.int .u8), .c (.int .u8), .c (.int .u8), .c (.int .u8), .c (.int .u8)]]

def etPt : Et := .st [etAd, .c (.int .i64)]

def etKy : Et := .st [.c .str, .c .str]

def KPt : List Kd := [.bool, .int .u8, .int .u8, .int .u8, .int .u8, .int .u8, .int .u8, .int .u8, .int .u8, .int .u8, .int .u8, .int .u8, .int .u8, .int .u8, .int .u8, .int .u8, .int .u8, .int .i64]

def KIn : List Kd := [.int .i64]

def eqPt (x y : List PV) : Bool := Et.eq x y etPt 0

def eqKy (x y : List PV) : Bool := Et.eq x y etKy 0

def eqIn (x y : List PV) : Bool := asI (x.getD 0 .nilp) == asI (y.getD 0 .nilp)

/-- Rows, one by one. -/
def eqRows (eq : List PV → List PV → Bool) : List (List PV) → List (List PV) → Bool
  | x :: R, y :: S => eq x y && eqRows eq R S
  | _, _ => true

theorem eqRows_refl {eq : List PV → List PV → Bool} : ∀ (R : List (List PV)), (∀ r ∈ R, eq r r = true) → eqRows eq R R = true
  | [], _ => rfl
  | r :: R, h => by rw [eqRows, h r List.mem_cons_self, eqRows_refl R fun x hx => h x (List.mem_cons_of_mem _ hx)]; rfl

theorem eqRows_drop {eq : List PV → List PV → Bool} {R S : List (List PV)} {i : Nat} (h1 : i < R.length) (h2 : i < S.length) : eqRows eq (R.drop i) (S.drop i) = (eq R[i] S[i] && eqRows eq (R.drop (i + 1)) (S.drop (i + 1))) := by
  rw [List.drop_eq_getElem_cons h1, List.drop_eq_getElem_cons h2, eqRows]

theorem rows_at0 {K : List Kd} {R : List (List PV)} (h : rowsOk K R = true) {j : Nat} (hj : j < R.length) : okAt K R.flatten (j * K.length) = true ∧ shapeAt K R.flatten (j * K.length) = R[j] := by
  have := rows_at h hj
  rwa [Nat.zero_add] at this

/-! ### a loop over two rows -/

def rndE (K : List Kd) (es : Nat) (eq : List PV → List PV → Bool) (n m : Nat) (c d : List PV) (i : Int) (L : Int → Option PV) : Option PV :=
  bif decide (i < (n : Int)) then
    (ass (decide (0 ≤ i) && decide (i < (n : Int))) <|
    ass (okAt K c (i.toNat * es)) <|
    ass (decide (0 ≤ i) && decide (i < (m : Int))) <|
    ass (okAt K d (i.toNat * es)) <|
    bif !(eq (shapeAt K c (i.toNat * es)) (shapeAt K d (i.toNat * es))) then some (.bool false)
    else
      (ass (oldL 0 c) <|
      ass (oldL 0 d) <|
      ass (oldL 0 c) <|
      ass (oldL 0 d) <|
      ass (oldL 0 c) <|
      L (IntKind.i64.wrap (i + 1))))
  else some (.bool true)

theorem eqE_loop {K : List Kd} {eq : List PV → List PV → Bool} {n : Nat} {R S : List (List PV)} (hR : rowsOk K R = true) (hS : rowsOk K S = true) (h1 : R.length = n) (h2 : S.length = n) (hn : n ≤ 1000000) (L : Nat → Int → Option PV) (ht : ∀ q i, L (q + 1) i = rndE K K.length eq n n R.flatten S.flatten i (L q)) :
    ∀ (k i q : Nat), i + k = n → L (q + k + 1) (i : Int) = some (.bool (eqRows eq (R.drop i) (S.drop i)))
  | 0, i, q, h => by
    rw [ht]
    unfold rndE
    rw [cond_f (show decide ((i : Int) < (n : Int)) = false from by simp; omega), List.drop_of_length_le (by omega), List.drop_of_length_le (by omega)]
    rfl
  | k + 1, i, q, h => by
    have hi : i < R.length := by omega
    have hj : i < S.length := by omega
    rw [show q + (k + 1) + 1 = (q + k + 1) + 1 from by omega, ht]
    unfold rndE
    rw [cond_t (show decide ((i : Int) < (n : Int)) = true from by simp; omega)]
    simp only [Int.toNat_natCast]
    rw [(rows_at0 hR hi).2, (rows_at0 hS hj).2, ass_of (inside (by omega)), ass_of (rows_at0 hR hi).1, ass_of (inside (by omega)), ass_of (rows_at0 hS hj).1, eqRows_drop hi hj]
    cases he : eq R[i] S[i] with
    | false => rfl
    | true =>
      rw [Bool.not_true, cond_false, ass_of (rows_old hR), ass_of (rows_old hS), ass_of (rows_old hR), ass_of (rows_old hS), ass_of (rows_old hR), wrap_succ (by omega : i < 9223372036854775807), eqE_loop hR hS h1 h2 hn L ht k (i + 1) q (by omega)]
      rfl

/-- Two rows among the arguments. -/
def gEq (K : List Kd) (es : Nat) (eq : List PV → List PV → Bool) (xs : List PV) : Option (Bool × PV) := match xs with
  | [.sl c e1 n none, .sl d e2 m none] => some (Nat.beq e1 es && (Nat.beq e2 es && (rowsC K n c && rowsC K m d)), .bool (Nat.beq n m && eqRows eq (chunks es n c) (chunks es m d)))
  | _ => none

noncomputable def LEq (f : Nat) (fn : Func) (es N q : Nat) (c d : List PV) (n m : Nat) (i : Int) : Option PV := loopS EN T0 H0 N 5 f fn [1, 1, 0, 1, 0] (patOf (sparse 26 0 [(0, .nils), (1, .nils), (4, .nils), (6, .nils), (7, .nils), (8, .nils), (9, .nils), (10, .nils), (11, .nils), (12, .nils), (13, .nils)])) 0 q
  (sparse 26 0 [(0, .sl c es n none), (1, .sl d es m none), (4, .bool false), (6, .sl c es n none), (7, vI n), (8, .sl d es m none), (9, vI m), (10, .bool false), (11, .sl c es n none), (12, vI n), (13, vI i)]) []

theorem runEq {K : List Kd} {es : Nat} (hk : es = K.length) {eq : List PV → List PV → Bool} {f : Nat} {fn : Func}
    (t0 : ∀ (N : Nat) (c d : List PV) (n m : Nat), apartS EN T0 H0 N 5 f [.sl c es n none, .sl d es m none] = (bif (n : Int) != (m : Int) then some (.bool false) else LEq f fn es N N c d n m 0))
    (t1 : ∀ (N q : Nat) (c d : List PV) (n m : Nat) (i : Int), LEq f fn es N (q + 1) c d n m i = rndE K es eq n m c d i (LEq f fn es N q c d n m))
    (xs : List PV) (v : PV) (h : gEq K es eq xs = some (true, v)) : ∃ H, apartS EN T0 H 1000009 5 f xs = some v := by
  unfold gEq at h
  split at h
  · rename_i c e1 n d e2 m
    simp only [Option.some.injEq, Prod.mk.injEq, Bool.and_eq_true] at h
    obtain ⟨⟨a1, a2, a3, a4⟩, rfl⟩ := h
    have a1 := Nat.eq_of_beq_eq_true a1
    have a2 := Nat.eq_of_beq_eq_true a2
    rw [a1, a2]
    obtain ⟨r1, r2, r3, r4⟩ := rowsC_ok a3
    obtain ⟨s1, s2, s3, s4⟩ := rowsC_ok a4
    refine ⟨H0, (t0 1000009 c d n m).trans ?_⟩
    by_cases hnm : n = m
    · subst hnm
      rw [cond_f (show ((n : Int) != (n : Int)) = false from by simp), Nat.beq_refl, Bool.true_and]
      have := eqE_loop r2 s2 r4 s4 r1 (fun q => LEq f fn es 1000009 q c d n n) (fun q i => by rw [t1, hk, r3, s3]) n 0 (1000008 - n) (by omega)
      rw [show 1000008 - n + n + 1 = 1000009 from by omega, List.drop_zero, List.drop_zero, ← hk] at this
      exact this
    · have hb : Nat.beq n m = false := by
        cases hb : Nat.beq n m with
        | false => rfl
        | true => exact absurd (Nat.eq_of_beq_eq_true hb) hnm
      rw [cond_t (show ((n : Int) != (m : Int)) = true from by simp; omega), hb]
      rfl
  · cases h

def okSl (K : List Kd) (x : PV) : Bool := rowsC K (slLen x) (slCells x)

def sameSl (es : Nat) (eq : List PV → List PV → Bool) (x y : PV) : Bool := Nat.beq (slLen x) (slLen y) && eqRows eq (chunks es (slLen x) (slCells x)) (chunks es (slLen y) (slCells y))

theorem okSl_rows {K : List Kd} {x : PV} (h : okSl K x = true) : rowsOk K (chunks K.length (slLen x) (slCells x)) = true ∧ (chunks K.length (slLen x) (slCells x)).flatten = slCells x ∧ (chunks K.length (slLen x) (slCells x)).length = slLen x := by
  obtain ⟨r1, r2, r3, r4⟩ := rowsC_ok h
  exact ⟨r2, r3, r4⟩

theorem okSl_old {K : List Kd} {x : PV} (h : okSl K x = true) : oldL 0 (slCells x) = true := by
  obtain ⟨r1, r2, r3⟩ := okSl_rows h
  have := rows_old r1
  rwa [r2] at this

theorem eqPt_refl (x : List PV) : eqPt x x = true := Et.eq_refl x _ _

theorem eqKy_refl (x : List PV) : eqKy x x = true := Et.eq_refl x _ _

theorem eqIn_refl (x : List PV) : eqIn x x = true := by simp [eqIn]

/-- Several things are asked for. -/
def asks {R : Type} : List Bool → Option R → Option R
  | [], k => k
  | c :: cs, k => ass c (asks cs k)

theorem asks_of {R : Type} {l : List Bool} {k : Option R} (h : l.all id = true) : asks l k = k := by
  induction l with
  | nil => rfl
  | cons c cs ih =>
    simp only [List.all_cons, Bool.and_eq_true, id] at h
    unfold asks
    rw [ass_of h.1, ih h.2]

theorem bif_or {R : Type} (a b : Bool) (x y : R) : (bif a then x else bif b then x else y) = bif (a || b) then x else y := by cases a <;> rfl

def anyFrom (C : Int → Bool) (i : Nat) : Nat → Bool
  | 0 => false
  | k + 1 => C (i : Int) || anyFrom C (i + 1) k

/-- A loop that ends where something is so. -/
theorem any_loop {n : Nat} (hn : n ≤ 1000000) {L : Nat → Int → Option PV} {e : Int → Option PV} {P Q : Int → List Bool} {C : Int → Bool} {x : Option PV}
    (ht : ∀ q i, L (q + 1) i = bif decide (i < (n : Int)) then asks (P i) (bif C i then x else asks (Q i) (L q (IntKind.i64.wrap (i + 1)))) else e i)
    (hP : ∀ i : Nat, i < n → (P (i : Int)).all id = true) (hQ : ∀ i : Nat, i < n → (Q (i : Int)).all id = true) :
    ∀ (k i q : Nat), i + k = n → L (q + k + 1) (i : Int) = bif anyFrom C i k then x else e (n : Int)
  | 0, i, q, h => by
    have : i = n := by omega
    subst this
    rw [ht, cond_f (show decide ((i : Int) < (i : Int)) = false from by simp)]
    rfl
  | k + 1, i, q, h => by
    rw [show q + (k + 1) + 1 = (q + k + 1) + 1 from by omega, ht, cond_t (show decide ((i : Int) < (n : Int)) = true from by simp; omega), asks_of (hP i (by omega)), asks_of (hQ i (by omega)), wrap_succ (by omega : i < 9223372036854775807), any_loop hn ht hP hQ k (i + 1) q (by omega), anyFrom]
    cases C (i : Int) <;> rfl

theorem any_rows {C : Int → Bool} {c : List PV → Bool} {R : List (List PV)} (h : ∀ (j : Nat) (hj : j < R.length), C (j : Int) = c R[j]) : ∀ (k i : Nat), i + k = R.length → anyFrom C i k = (R.drop i).any c
  | 0, i, hk => by rw [List.drop_of_length_le (by omega)]; rfl
  | k + 1, i, hk => by
    rw [anyFrom, h i (by omega), any_rows h k (i + 1) (by omega), List.drop_eq_getElem_cons (by omega : i < R.length)]
    rfl

theorem any_rows2 {C : Int → Bool} {eq : List PV → List PV → Bool} {R S : List (List PV)} (hl : S.length = R.length) (h : ∀ (j : Nat) (hj : j < R.length), C (j : Int) = !eq R[j] (S[j]'(by omega))) : ∀ (k i : Nat), i + k = R.length → anyFrom C i k = !eqRows eq (R.drop i) (S.drop i)
  | 0, i, hk => by rw [List.drop_of_length_le (by omega), List.drop_of_length_le (by omega)]; rfl
  | k + 1, i, hk => by
    rw [anyFrom, h i (by omega), any_rows2 hl h k (i + 1) (by omega), eqRows_drop (by omega : i < R.length) (by omega)]
    cases eq R[i] S[i] <;> rfl

theorem rows_oldn {K : List Kd} {R : List (List PV)} (h : rowsOk K R = true) (n : Nat) : oldL n R.flatten = true := oldL_le (Nat.zero_le n) _ (rows_old h)

theorem cell_old {x : List PV} (h : oldL 0 x = true) (n k : Nat) : oldL n (slCells (x.getD k .nilp)) = true := by
  have : ∀ (x : List PV) (k : Nat), oldL 0 x = true → oldV 0 (x.getD k .nilp) = true := by
    intro x
    induction x with
    | nil => intro k _; simp [oldV]
    | cons a x ih =>
      intro k hx
      simp only [oldL, Bool.and_eq_true] at hx
      cases k with
      | zero => exact hx.1
      | succ k => simpa using ih k hx.2
  have h1 := this x k h
  refine oldL_le (Nat.zero_le n) _ ?_
  cases hc : x.getD k .nilp <;> first | rfl | (rw [hc] at h1; simp only [oldV] at h1; exact h1)

theorem row_cell {K : List Kd} {R : List (List PV)} (h : rowsOk K R = true) {j : Nat} (hj : j < R.length) (n k : Nat) : oldL n (slCells (R[j].getD k .nilp)) = true := cell_old (rowsOk_get h (List.getElem_mem hj)).2 n k

theorem beq_no {n m : Nat} (h : n ≠ m) : Nat.beq n m = false := by
  cases hb : Nat.beq n m with
  | false => rfl
  | true => exact absurd (Nat.eq_of_beq_eq_true hb) h

/-! ### rows of the tables -/

structure Rw where
  nf : Nat
  fc : List PV
  ng : Nat
  gc : List PV
  ni : Nat
  ic : List PV

/-! ### too long? -/

def gt (n : Nat) (k : Int) : Bool := decide ((n : Int) > k)

/-- A row of rows that grows from nothing. -/
def accP (b : Bool) (id es n : Nat) : PV := bif b then .osl id n 0 es n none else .nils

def accO (b : Bool) (cells : List PV) (es n : Nat) : Store := bif b then [.mem ⟨cells, es, n, false, false, false⟩] else []

def bx (cells : List PV) : Ob := .mem ⟨cells, 3, 1, true, false, true⟩

def nx (b : Bool) (n : Nat) : Nat := bif b then n + 1 else n

def grow (b : Bool) (ac : List PV) (k es : Nat) (row : List PV) (K : List PV → Nat → Option PV) : Option PV := match b with
  | true => asks [k == k && (decide (k ≤ 1048576) && (decide (1 ≤ 1048576) && decide (0 + k * es ≤ ac.length))), !decide (0 + k + 1 ≤ k)] (K (ac.take (k * es) ++ row) (k + 1))
  | false => K row 1

def nb (b : Bool) : Nat := bif b then 1 else 0

def ifb (b : Bool) (l : List Bool) : List Bool := bif b then l else []

def sealAsk (ac : List PV) (k es : Nat) : List Bool := [k == k && (decide (0 + k * es ≤ ac.length) && (decide (0 < es) && ((ac.drop 0).take (k * es)).all PV.calm))]

def sealC (b : Bool) (ac : List PV) (k es : Nat) : PV := bif b then .sl ((ac.drop 0).take (k * es)) es k none else .sl [] es 0 none

theorem take_flat {K : List Kd} {R : List (List PV)} (hR : rowsOk K R = true) {i : Nat} (hi : i < R.length) : (R.take (i + 1)).flatten = (R.take i).flatten ++ R[i] := by
  rw [List.take_succ_eq_append_getElem hi, List.flatten_append]
  simp

theorem grow_ok {K : List Kd} {R : List (List PV)} (hR : rowsOk K R = true) {i : Nat} (hi : i < R.length) (hn : R.length ≤ 1000000) (Kf : List PV → Nat → Option PV) :
    grow (!Nat.beq i 0) (R.take i).flatten i K.length R[i] Kf = Kf (R.take (i + 1)).flatten (i + 1) := by
  have hl : (R.take i).flatten.length = i * K.length := by rw [rows_len (rowsOk_take hR i), List.length_take, Nat.min_eq_left (by omega)]
  rw [take_flat hR hi]
  cases i with
  | zero => rfl
  | succ j =>
    have hb : (!Nat.beq (j + 1) 0) = true := rfl
    rw [hb]
    unfold grow
    rw [asks_of (by
      simp only [beq_self_eq_true, hl, List.all_cons, List.all_nil, id, Bool.and_true, Bool.true_and, Bool.and_eq_true, decide_eq_true_eq, Bool.not_eq_true', decide_eq_false_iff_not]
      omega), ← hl, List.take_length]

/-- A loop that lays rows behind one another. -/
theorem acc_loop {K : List Kd} {n es : Nat} (he : es = K.length) {R : List (List PV)} (hR : rowsOk K R = true) (hl : R.length = n) (hn : n ≤ 1000000) {L : Nat → Bool → Int → List PV → Nat → Option PV} {e : Bool → Int → List PV → Nat → Option PV} {row : Int → List PV} {P : Bool → Int → List Bool} {A B1 B2 : List Bool}
    (ht : ∀ q b i ac k, L (q + 1) b i ac k = bif decide (i < (n : Int)) then asks (P b i) (grow b ac k es (row i) fun ac' k' => asks A <| asks B1 <| asks B2 <| asks [oldL 0 ac'] <| L q true (IntKind.i64.wrap (i + 1)) ac' k') else e b i ac k)
    (hP : ∀ b (i : Nat), i < n → (P b (i : Int)).all id = true) (hrow : ∀ (i : Nat) (hi : i < R.length), row (i : Int) = R[i]) (hA : A.all id = true) (hB1 : B1.all id = true) (hB2 : B2.all id = true) :
    ∀ (k i q : Nat), i + k = n → L (q + k + 1) (!Nat.beq i 0) (i : Int) (R.take i).flatten i = e (!Nat.beq n 0) (n : Int) R.flatten n
  | 0, i, q, h => by
    have : i = n := by omega
    subst this
    rw [ht, cond_f (show decide ((i : Int) < (i : Int)) = false from by simp), ← hl, List.take_length]
  | k + 1, i, q, h => by
    have hi : i < R.length := by omega
    rw [show q + (k + 1) + 1 = (q + k + 1) + 1 from by omega, ht, cond_t (show decide ((i : Int) < (n : Int)) = true from by simp; omega), asks_of (hP _ i (by omega)), hrow i hi, he, grow_ok hR hi (by omega)]
    rw [asks_of hA, asks_of hB1, asks_of hB2, asks_of (by simp only [rows_old (rowsOk_take hR (i + 1)), List.all_cons, List.all_nil, id, Bool.and_self]), wrap_succ (by omega : i < 9223372036854775807)]
    have ih := acc_loop he hR hl hn ht hP hrow hA hB1 hB2 k (i + 1) q (by omega)
    exact ih

theorem acc_run {K : List Kd} {n es : Nat} (he : es = K.length) {R : List (List PV)} (hR : rowsOk K R = true) (hl : R.length = n) (hn : n ≤ 1000000) {L : Nat → Bool → Int → List PV → Nat → Option PV} {e : Bool → Int → List PV → Nat → Option PV} {row : Int → List PV} {P : Bool → Int → List Bool} {A B1 B2 : List Bool}
    (ht : ∀ q b i ac k, L (q + 1) b i ac k = bif decide (i < (n : Int)) then asks (P b i) (grow b ac k es (row i) fun ac' k' => asks A <| asks B1 <| asks B2 <| asks [oldL 0 ac'] <| L q true (IntKind.i64.wrap (i + 1)) ac' k') else e b i ac k)
    (hP : ∀ b (i : Nat), i < n → (P b (i : Int)).all id = true) (hrow : ∀ (i : Nat) (hi : i < R.length), row (i : Int) = R[i]) (hA : A.all id = true) (hB1 : B1.all id = true) (hB2 : B2.all id = true) :
    L 1000009 false 0 [] 0 = e (!Nat.beq n 0) (n : Int) R.flatten n := by
  have := acc_loop he hR hl hn ht hP hrow hA hB1 hB2 n 0 (1000008 - n) (by omega)
  rw [show 1000008 - n + n + 1 = 1000009 from by omega] at this
  exact this

theorem calm_old : ∀ {xs : List PV}, oldL 0 xs = true → xs.all PV.calm = true
  | [], _ => rfl
  | x :: xs, h => by
    simp only [oldL, Bool.and_eq_true] at h
    rw [List.all_cons, calm_old h.2, Bool.and_true]
    cases x <;> first | rfl | (simp [oldV] at h)

theorem take_all (c : List PV) {n es : Nat} (h : c.length = n * es) : (c.drop 0).take (n * es) = c := by rw [List.drop_zero, ← h, List.take_length]

/-- What is sealed at the end. -/
theorem seal_ok {K : List Kd} {R : List (List PV)} (hR : rowsOk K R = true) (hk : 0 < K.length) :
    (ifb (!Nat.beq R.length 0) (sealAsk R.flatten R.length K.length)).all id = true ∧ (ifb (!Nat.beq R.length 0) [oldL 0 ((R.flatten.drop 0).take (R.length * K.length))]).all id = true ∧ sealC (!Nat.beq R.length 0) R.flatten R.length K.length = .sl R.flatten K.length R.length none := by
  have hl := rows_len hR
  have ho := rows_old hR
  unfold sealC sealAsk ifb
  rw [take_all _ hl]
  cases hb : Nat.beq R.length 0 with
  | true =>
    have := Nat.eq_of_beq_eq_true hb
    have := List.eq_nil_of_length_eq_zero this
    subst this
    exact ⟨rfl, rfl, rfl⟩
  | false =>
    refine ⟨?_, ?_, rfl⟩
    · simp only [Bool.not_false, cond_true, beq_self_eq_true, Bool.true_and, List.all_cons, List.all_nil, id, Bool.and_true, Bool.and_eq_true, decide_eq_true_eq]
      exact ⟨by omega, hk, calm_old ho⟩
    · simp only [Bool.not_false, cond_true, List.all_cons, List.all_nil, id, ho, Bool.and_true]

def clB (n : Nat) (k : Bool → Option PV) : Option PV := bif decide (n = 0) then k false else k true

theorem wk_drop : ∀ (p : Nat) {K : List Kd} {r : List PV}, wk K r = true → wk (K.drop p) (r.drop p) = true
  | 0, K, r, h => h
  | p + 1, [], [], h => rfl
  | p + 1, [], _ :: _, h => by cases h
  | p + 1, _ :: _, [], h => by cases h
  | p + 1, k :: K, x :: r, h => by
    simp only [wk, Bool.and_eq_true] at h
    exact wk_drop p h.2

/-- A part of a row, from a place on. -/
theorem part_at {K : List Kd} {R : List (List PV)} (hR : rowsOk K R = true) {j : Nat} (hj : j < R.length) (p : Nat) (hp : p ≤ K.length) :
    okAt (K.drop p) R.flatten (0 + j * K.length + p) = true ∧ shapeAt (K.drop p) R.flatten (0 + j * K.length + p) = R[j].drop p ∧ splice R.flatten (0 + j * K.length + p) (R[j].drop p) = R.flatten := by
  obtain ⟨h1, h2⟩ := rows_split hR hj
  have hw := (rowsOk_get hR (List.getElem_mem hj)).1
  have hl := wk_len hw
  have hq := wk_at ((R.take j).flatten ++ R[j].take p) (R.drop (j + 1)).flatten (wk_drop p hw)
  have e1 : ((R.take j).flatten ++ R[j].take p).length = 0 + j * K.length + p := by rw [List.length_append, h2, List.length_take]; omega
  have e2 : ((R.take j).flatten ++ R[j].take p) ++ (R[j].drop p ++ (R.drop (j + 1)).flatten) = R.flatten := by
    rw [h1, List.append_assoc, ← List.append_assoc (R[j].take p), List.take_append_drop]
  rw [e1, e2] at hq
  refine ⟨hq.1, hq.2, ?_⟩
  unfold splice
  rw [← e1]
  generalize (R.take j).flatten ++ R[j].take p = A at e2 ⊢
  have e3 : (A ++ (R[j].drop p ++ (R.drop (j + 1)).flatten)).drop (A.length + (R[j].drop p).length) = (R.drop (j + 1)).flatten := by
    rw [← List.append_assoc, ← List.length_append, List.drop_left]
  rw [← e2, List.take_left, e3]

theorem flat_len {K : List Kd} {R : List (List PV)} (hR : rowsOk K R = true) {j : Nat} (hj : j < R.length) : 0 + j * K.length + K.length ≤ R.flatten.length := by
  rw [rows_len hR]
  have := Nat.mul_le_mul_right K.length (show j + 1 ≤ R.length from hj)
  rw [Nat.add_mul, Nat.one_mul] at this
  omega

theorem one_flat {K : List Kd} {R : List (List PV)} (hR : rowsOk K R = true) : R.flatten.all PV.oneCell = true := by
  rw [List.all_flatten, List.all_eq_true]
  intro r hr
  exact wk_one (rowsOk_get hR hr).1

theorem clB_of {n : Nat} (k : Bool → Option PV) : clB n k = k (!decide (n = 0)) := by
  unfold clB
  cases decide (n = 0) <;> rfl

theorem nob {n : Nat} : (!decide (n = 0)) = !Nat.beq n 0 := by cases n <;> rfl

def growN (b : Bool) (ac : List PV) (k es : Nat) (c : List PV) (n : Nat) (K : Bool → List PV → Nat → Option PV) : Option PV :=
  asks [c.length == n * es] <| bif decide (n = 0) then K b ac k else
    bif b then asks [k == k && (decide (k ≤ 1048576) && (decide (n ≤ 1048576) && decide (0 + k * es ≤ ac.length))), !decide (0 + k + n ≤ k)] (K true (ac.take (k * es) ++ c) (k + n))
    else asks [es == es && (decide (0 < 0 + n) && (decide (0 + n ≤ 1048576) && ([] : List PV).all PV.oneCell))] (K true ([] ++ c) (0 + n))

theorem rowsOk_flatMap {K : List Kd} {L : List Rw} {f : Rw → List (List PV)} (h : ∀ r ∈ L, rowsOk K (f r) = true) : rowsOk K (L.flatMap f) = true := by
  unfold rowsOk at h ⊢
  rw [List.all_eq_true]
  intro x hx
  obtain ⟨r, hr, hx⟩ := List.mem_flatMap.1 hx
  exact List.all_eq_true.1 (h r hr) x hx

theorem growN_ok {K : List Kd} {A R : List (List PV)} (hA : rowsOk K A = true) (hR : rowsOk K R = true) (hn : (A ++ R).length ≤ 1000000) (Kf : Bool → List PV → Nat → Option PV) :
    growN (!Nat.beq A.length 0) A.flatten A.length K.length R.flatten R.length Kf = Kf (!Nat.beq (A ++ R).length 0) (A ++ R).flatten (A ++ R).length := by
  have lA := rows_len hA
  have lR := rows_len hR
  rw [List.length_append] at hn
  unfold growN
  rw [asks_of (by simp [lR])]
  by_cases h0 : R.length = 0
  · have := List.eq_nil_of_length_eq_zero h0
    subst this
    rw [cond_t (by simp), List.append_nil]
  · rw [cond_f (by simpa using h0)]
    cases A with
    | nil =>
      have hb : (!Nat.beq ([] : List (List PV)).length 0) = false := rfl
      rw [hb, cond_false, asks_of (by simp; omega), Nat.zero_add, List.nil_append, List.nil_append]
      have : (!Nat.beq R.length 0) = true := by rw [beq_no h0]; rfl
      rw [this]
    | cons a A =>
      have hb : (!Nat.beq (a :: A).length 0) = true := rfl
      rw [hb, cond_true, asks_of (by
        simp only [beq_self_eq_true, lA, List.all_cons, List.all_nil, id, Bool.and_true, Bool.true_and, Bool.and_eq_true, decide_eq_true_eq, Bool.not_eq_true', decide_eq_false_iff_not]
        omega), ← lA, List.take_length, List.flatten_append, List.length_append]
      rw [show (!Nat.beq ((a :: A).length + R.length) 0) = true from by rw [beq_no (show (a :: A).length + R.length ≠ 0 from by simp)]; rfl]

theorem beqL (A : List (List PV)) : ifb (!Nat.beq A.length 0) [oldL 0 A.flatten] = [] ∨ ifb (!Nat.beq A.length 0) [oldL 0 A.flatten] = [oldL 0 A.flatten] := by
  unfold ifb
  cases Nat.beq A.length 0
  · exact Or.inr rfl
  · exact Or.inl rfl

theorem ifb_old {K : List Kd} {A : List (List PV)} (h : rowsOk K A = true) (b : Bool) : (ifb b [oldL 0 A.flatten]).all id = true := by
  unfold ifb
  cases b <;> simp [rows_old h]

/-- Where one goes. -/
def plc (lt : List PV → List PV → Bool) (x : List PV) (R : List (List PV)) : Nat → Nat
  | 0 => 0
  | k + 1 => if lt x (R.getD k []) = true then plc lt x R k else k + 1

theorem plc_le (lt : List PV → List PV → Bool) (x : List PV) (R : List (List PV)) : ∀ k, plc lt x R k ≤ k
  | 0 => Nat.le_refl _
  | k + 1 => by
    rw [plc]
    split
    · exact Nat.le_succ_of_le (plc_le lt x R k)
    · exact Nat.le_refl _

theorem plc_ins (lt : List PV → List PV → Bool) (x : List PV) (R : List (List PV)) : ∀ k, k ≤ R.length → R.take (plc lt x R k) ++ (x :: R.drop (plc lt x R k)) = ins lt x (R.take k) ++ R.drop k
  | 0, h => by simp [plc, ins]
  | k + 1, h => by
    have hk : k < R.length := h
    have e : R.take (k + 1) = R.take k ++ [R[k]] := by rw [List.take_succ_eq_append_getElem hk]
    rw [plc, e, ins_snoc, getD_at hk]
    split
    · rename_i h1
      rw [plc_ins lt x R k (by omega), List.append_assoc, List.singleton_append, ← List.drop_eq_getElem_cons hk]
    · rename_i h1
      rw [← e, List.append_assoc, List.singleton_append]

theorem plc_all (lt : List PV → List PV → Bool) (x : List PV) (R : List (List PV)) : R.take (plc lt x R R.length) ++ (x :: R.drop (plc lt x R R.length)) = ins lt x R := by
  rw [plc_ins lt x R R.length (Nat.le_refl _), List.take_length, List.drop_length, List.append_nil]

/-- Two orders that agree on all that is there. -/
theorem ins_congr {lt lt' : List PV → List PV → Bool} (x : List PV) : ∀ (R : List (List PV)), (∀ y ∈ R, lt x y = lt' x y) → ins lt x R = ins lt' x R
  | [], _ => rfl
  | y :: R, h => by
    rw [ins_cons, ins_cons, ins_congr x R fun z hz => h z (List.mem_cons_of_mem _ hz), h y List.mem_cons_self]
    have : R.all (lt x) = R.all (lt' x) := by
      rw [Bool.eq_iff_iff, List.all_eq_true, List.all_eq_true]
      exact ⟨fun k z hz => by rw [← h z (List.mem_cons_of_mem _ hz)]; exact k z hz, fun k z hz => by rw [h z (List.mem_cons_of_mem _ hz)]; exact k z hz⟩
    rw [this]

theorem insAll_congr {lt lt' : List PV → List PV → Bool} (R : List (List PV)) (h : ∀ x ∈ R, ∀ y ∈ R, lt x y = lt' x y) : insAll lt R = insAll lt' R := by
  have key : ∀ (S acc : List (List PV)), (∀ x ∈ S, x ∈ R) → (∀ x ∈ acc, x ∈ R) → S.foldl (fun acc x => ins lt x acc) acc = S.foldl (fun acc x => ins lt' x acc) acc := by
    intro S
    induction S with
    | nil => intro acc _ _; rfl
    | cons x S ih =>
      intro acc h1 h2
      rw [List.foldl_cons, List.foldl_cons, ins_congr x acc fun y hy => h x (h1 x List.mem_cons_self) y (h2 y hy)]
      refine ih _ (fun y hy => h1 y (List.mem_cons_of_mem _ hy)) fun y hy => ?_
      rcases (mem_ins lt' x y acc).1 hy with rfl | hy
      · exact h1 y List.mem_cons_self
      · exact h2 y hy
  exact key R [] (fun x hx => hx) (fun x hx => by cases hx)

def bxN (cells : List PV) (n : Nat) : Ob := .mem ⟨cells, n, 1, true, false, true⟩

/-- One laid in a row of rows: what is asked, and what comes of it. -/
def tailT (cc : List PV) (kk : Nat) (at' : Int) (es : Nat) (y : List PV) (ny : Nat) (K : List PV → Nat → Option PV) : Option PV :=
  asks [kk == kk && decide (0 + kk * es ≤ cc.length), decide (0 ≤ at') && decide (at' ≤ (kk : Int))] <|
  bif decide (at'.toNat = kk) && decide (0 < at'.toNat) then K y ny
  else
    (asks [kk == kk && decide (0 + at'.toNat * es + (kk - at'.toNat) * es ≤ cc.length), ((cc.drop (0 + at'.toNat * es)).take ((kk - at'.toNat) * es)).length == (kk - at'.toNat) * es] <|
    bif decide (kk - at'.toNat = 0) then K y ny
    else asks [ny == ny && (decide (ny ≤ 1048576) && (decide (kk - at'.toNat ≤ 1048576) && decide (0 + ny * es ≤ y.length))), !decide (0 + ny + (kk - at'.toNat) ≤ ny)] <|
      K (y.take (ny * es) ++ (cc.drop (0 + at'.toNat * es)).take ((kk - at'.toNat) * es)) (ny + (kk - at'.toNat)))

def insT (cc : List PV) (kk : Nat) (at' : Int) (es : Nat) (row : List PV) (K : List PV → Nat → Option PV) : Option PV :=
  asks [kk == kk && decide (0 + kk * es ≤ cc.length), decide (0 ≤ at') && decide (at' ≤ ((kk - 0 : Nat) : Int)), !(decide (0 = at'.toNat) && decide (0 < 0)), kk == kk && decide (0 + (at'.toNat - 0) * es ≤ cc.length), ((cc.drop 0).take ((at'.toNat - 0) * es)).length == (at'.toNat - 0) * es] <|
  bif decide (at'.toNat - 0 = 0) then tailT cc kk at' es row 1 K
  else
    asks [es == es && (decide (0 < 0 + (at'.toNat - 0)) && (decide (0 + (at'.toNat - 0) ≤ 1048576) && ([] : List PV).all PV.oneCell)), 0 + (at'.toNat - 0) == 0 + (at'.toNat - 0) && (decide (0 + (at'.toNat - 0) ≤ 1048576) && (decide (1 ≤ 1048576) && decide (0 + (0 + (at'.toNat - 0)) * es ≤ (([] : List PV) ++ (cc.drop 0).take ((at'.toNat - 0) * es)).length))), !decide (0 + (0 + (at'.toNat - 0)) + 1 ≤ 0 + (at'.toNat - 0))] <|
    tailT cc kk at' es ((([] : List PV) ++ (cc.drop 0).take ((at'.toNat - 0) * es)).take ((0 + (at'.toNat - 0)) * es) ++ row) (0 + (at'.toNat - 0) + 1) K

/-- One laid in a row of rows that hold slices. -/
def insT2 (cc : List PV) (kk : Nat) (at' : Int) (es : Nat) (row : List PV) (W0 W1 : List Bool) (K : List PV → Nat → Option PV) : Option PV :=
  asks [kk == kk && decide (0 + kk * es ≤ cc.length), decide (0 ≤ at') && decide (at' ≤ ((kk - 0 : Nat) : Int)), !(decide (0 = at'.toNat) && decide (0 < 0)), kk == kk && decide (0 + (at'.toNat - 0) * es ≤ cc.length), ((cc.drop 0).take ((at'.toNat - 0) * es)).length == (at'.toNat - 0) * es] <|
  bif decide (at'.toNat - 0 = 0) then asks W0 <| tailT cc kk at' es row 1 K
  else
    (asks [es == es && (decide (0 < 0 + (at'.toNat - 0)) && (decide (0 + (at'.toNat - 0) ≤ 1048576) && ([] : List PV).all PV.oneCell))] <| asks W1 <|
    asks [0 + (at'.toNat - 0) == 0 + (at'.toNat - 0) && (decide (0 + (at'.toNat - 0) ≤ 1048576) && (decide (1 ≤ 1048576) && decide (0 + (0 + (at'.toNat - 0)) * es ≤ (([] : List PV) ++ (cc.drop 0).take ((at'.toNat - 0) * es)).length))), !decide (0 + (0 + (at'.toNat - 0)) + 1 ≤ 0 + (at'.toNat - 0))] <|
    tailT cc kk at' es ((([] : List PV) ++ (cc.drop 0).take ((at'.toNat - 0) * es)).take ((0 + (at'.toNat - 0)) * es) ++ row) (0 + (at'.toNat - 0) + 1) K)

theorem flat_two (A : List (List PV)) (t : Nat) : A.flatten = (A.take t).flatten ++ (A.drop t).flatten := by
  rw [← List.flatten_append, List.take_append_drop]

theorem flat_tl {K : List Kd} {A : List (List PV)} (h : rowsOk K A = true) {t : Nat} (ht : t ≤ A.length) : (A.take t).flatten.length = t * K.length := by
  rw [rows_len (rowsOk_take h t), List.length_take, Nat.min_eq_left ht]

theorem rowsOk_drop {K : List Kd} {A : List (List PV)} (h : rowsOk K A = true) (t : Nat) : rowsOk K (A.drop t) = true := by
  unfold rowsOk at h ⊢
  rw [List.all_eq_true] at h ⊢
  exact fun x hx => h x (List.mem_of_mem_drop hx)

theorem flat_dl {K : List Kd} {A : List (List PV)} (h : rowsOk K A = true) (t : Nat) : (A.drop t).flatten.length = (A.length - t) * K.length := by
  rw [rows_len (rowsOk_drop h t), List.length_drop]

theorem flat_tk {K : List Kd} {A : List (List PV)} (h : rowsOk K A = true) {t : Nat} (ht : t ≤ A.length) : (A.flatten.drop 0).take (t * K.length) = (A.take t).flatten := by
  rw [List.drop_zero, flat_two A t, ← flat_tl h ht, List.take_left]

theorem flat_dr {K : List Kd} {A : List (List PV)} (h : rowsOk K A = true) {t : Nat} (ht : t ≤ A.length) : (A.flatten.drop (0 + t * K.length)).take ((A.length - t) * K.length) = (A.drop t).flatten := by
  rw [Nat.zero_add, flat_two A t, ← flat_tl h ht, List.drop_left, ← flat_dl h t, List.take_length]

theorem mul_split {n t e : Nat} (h : t ≤ n) : t * e + (n - t) * e = n * e := by
  rw [← Nat.add_mul, Nat.add_sub_cancel' h]

theorem tailT_ok {K : List Kd} {A : List (List PV)} {x : List PV} (hA : rowsOk K A = true) (hx : x.length = K.length) (hn : A.length + 1 ≤ 1000000) {t : Nat} (ht : t ≤ A.length) (h0 : 0 < A.length) (KK : List PV → Nat → Option PV) :
    tailT A.flatten A.length (t : Int) K.length ((A.take t).flatten ++ x) (t + 1) KK = KK (A.take t ++ x :: A.drop t).flatten (A.length + 1) := by
  have lA := rows_len hA
  have lT := flat_tl hA ht
  have lD := flat_dl hA t
  have e : (A.take t ++ x :: A.drop t).flatten = (A.take t).flatten ++ x ++ (A.drop t).flatten := by simp
  have eY : ((A.take t).flatten ++ x).length = (t + 1) * K.length := by rw [List.length_append, lT, hx, Nat.add_mul, Nat.one_mul]
  have ms := mul_split (e := K.length) ht
  unfold tailT
  rw [asks_of (by
    simp only [lA, Nat.zero_add, beq_self_eq_true, Bool.true_and, List.all_cons, List.all_nil, id, Bool.and_true, Bool.and_eq_true, decide_eq_true_eq]
    omega)]
  simp only [Int.toNat_natCast, flat_dr hA ht]
  by_cases h1 : t = A.length
  · rw [cond_t (by simp [h1, h0]), e, h1, List.drop_length]
    simp
  · rw [cond_f (by simp [h1]), asks_of (by
      simp only [lA, lD, Nat.zero_add, beq_self_eq_true, Bool.true_and, List.all_cons, List.all_nil, id, Bool.and_true, Bool.and_eq_true, decide_eq_true_eq]
      omega), cond_f (by simp; omega), asks_of (by
      simp only [eY, Nat.zero_add, beq_self_eq_true, Bool.true_and, List.all_cons, List.all_nil, id, Bool.and_true, Bool.and_eq_true, decide_eq_true_eq, Bool.not_eq_true', decide_eq_false_iff_not]
      omega), e, ← eY, List.take_length]
    exact congrArg (KK _) (by omega)

theorem insT2_ok {K : List Kd} {A : List (List PV)} {x : List PV} (hA : rowsOk K A = true) (hx : x.length = K.length) (hn : A.length + 1 ≤ 1000000) {t : Nat} (ht : t ≤ A.length) (h0 : 0 < A.length) {W0 W1 : List Bool} (w0 : W0.all id = true) (w1 : W1.all id = true) (KK : List PV → Nat → Option PV) :
    insT2 A.flatten A.length (t : Int) K.length x W0 W1 KK = KK (A.take t ++ x :: A.drop t).flatten (A.length + 1) := by
  have lA := rows_len hA
  have lT := flat_tl hA ht
  have ms := mul_split (e := K.length) ht
  unfold insT2
  simp only [Int.toNat_natCast, Nat.sub_zero, flat_tk hA ht]
  rw [asks_of (by
    simp only [lA, lT, Nat.zero_add, beq_self_eq_true, Bool.true_and, List.all_cons, List.all_nil, id, Bool.and_true, Bool.and_eq_true, decide_eq_true_eq]
    refine ⟨by omega, by omega, by simp, by omega⟩)]
  by_cases h1 : t = 0
  · subst h1
    rw [cond_t (by rfl), asks_of w0]
    exact tailT_ok (t := 0) hA hx hn ht h0 KK
  · rw [cond_f (by simpa using h1), asks_of (by simp; omega), asks_of w1]
    simp only [List.nil_append, Nat.zero_add]
    rw [asks_of (by simp [lT]; omega), ← lT, List.take_length]
    exact tailT_ok hA hx hn ht h0 KK

def foldI (lt : List PV → List PV → Bool) (A R : List (List PV)) : List (List PV) := R.foldl (fun acc x => ins lt x acc) A

theorem foldI_snoc (lt : List PV → List PV → Bool) (A R : List (List PV)) (x : List PV) : foldI lt A (R ++ [x]) = ins lt x (foldI lt A R) := by simp [foldI]

theorem foldI_len (lt : List PV → List PV → Bool) (A R : List (List PV)) : (foldI lt A R).length = A.length + R.length := foldl_ins_len lt R A

theorem foldI_mem (lt : List PV → List PV → Bool) : ∀ (R A : List (List PV)) (y : List PV), y ∈ foldI lt A R → y ∈ A ∨ y ∈ R
  | [], A, y, h => Or.inl h
  | x :: R, A, y, h => by
    rcases foldI_mem lt R (ins lt x A) y h with h | h
    · rcases (mem_ins lt x y A).1 h with rfl | h
      · exact Or.inr List.mem_cons_self
      · exact Or.inl h
    · exact Or.inr (List.mem_cons_of_mem _ h)

/-- From the end backwards to its place. -/
theorem at_loop {lt : List PV → List PV → Bool} {x : List PV} {A : List (List PV)} {L : Nat → Int → Option PV} {fin : Nat → Option PV} {v : Option PV}
    (hs : ∀ s t, t < A.length → L (s + 1) ((t + 1 : Nat) : Int) = bif lt x (A.getD t []) then L s (t : Int) else fin (t + 1))
    (h0 : ∀ s, L (s + 1) 0 = fin 0) (hf : fin (plc lt x A A.length) = v) (s : Nat) : L (s + A.length + 1) (A.length : Int) = v := by
  have key : ∀ t, t ≤ A.length → L (s + t + 1) (t : Int) = fin (plc lt x A t) := by
    intro t
    induction t with
    | zero => intro _; exact h0 s
    | succ t ih =>
      intro ht
      rw [show s + (t + 1) + 1 = (s + t + 1) + 1 from by omega, hs _ t (by omega), plc]
      cases hc : lt x (A.getD t [])
      · rfl
      · exact ih (by omega)
  rw [key _ (Nat.le_refl _), hf]

theorem wrap_pred {t : Nat} (h : t < 9223372036854775807) : IntKind.i64.wrap (((t + 1 : Nat) : Int) - 1) = (t : Int) := by
  rw [show ((t + 1 : Nat) : Int) - 1 = (t : Int) from by omega]
  exact wrap_nat (by omega)

/-- The state behind some rows. -/
def acA (lt : List PV → List PV → Bool) (A R : List (List PV)) (i : Nat) : List PV := bif Nat.beq i 0 then [] else (foldI lt A (R.take i)).flatten

def acK (lt : List PV → List PV → Bool) (A R : List (List PV)) (i : Nat) : Nat := bif Nat.beq i 0 then 0 else (foldI lt A (R.take i)).length

theorem mid_loop {n : Nat} {L : Nat → Nat → Option PV} {v : Option PV} (hs : ∀ q i, i < n → L (q + 1) i = L q (i + 1)) (he : ∀ q, L (q + 1) n = v) (q : Nat) : L (q + n + 1) 0 = v := by
  have key : ∀ k i, i + k = n → L (q + k + 1) i = v := by
    intro k
    induction k with
    | zero => intro i h; rw [show i = n from by omega]; exact he _
    | succ k ih => intro i h; rw [show q + (k + 1) + 1 = (q + k + 1) + 1 from by omega, hs _ i (by omega)]; exact ih (i + 1) (by omega)
  exact key n 0 (by omega)

theorem ask1 {b : Bool} (h : b = true) : ([b] : List Bool).all id = true := by rw [h]; rfl

theorem gt_false {n : Nat} {k : Nat} (h : gt n (k : Int) = false) : n ≤ k := by
  unfold gt at h
  simp only [decide_eq_false_iff_not] at h
  omega

theorem all_app {a b : List Bool} (ha : a.all id = true) (hb : b.all id = true) : (a ++ b).all id = true := by rw [List.all_append, ha, hb]; rfl

theorem cons_ok {b : Bool} {l : List Bool} (h : b = true) (k : l.all id = true) : (b :: l).all id = true := by rw [List.all_cons, h, k]; rfl

theorem beq_b (b : Bool) : (!(b == b)) = false := by cases b <;> rfl

theorem beqn {n : Nat} (h : n ≠ 0) : Nat.beq n 0 = false := by cases n <;> first | rfl | exact absurd rfl h

theorem growA {K : List Kd} {A : List (List PV)} (hA : rowsOk K A = true) (hn : A.length + 1 ≤ 1000000) (x : List PV) (Kf : List PV → Nat → Option PV) :
    grow (!Nat.beq A.length 0) A.flatten A.length K.length x Kf = Kf (A ++ [x]).flatten (A.length + 1) := by
  have hl := rows_len hA
  cases A with
  | nil =>
    show Kf x 1 = _
    simp
  | cons a A =>
    have hb : (!Nat.beq (a :: A).length 0) = true := rfl
    rw [hb]
    unfold grow
    rw [asks_of (by
      simp only [beq_self_eq_true, hl, List.all_cons, List.all_nil, id, Bool.and_true, Bool.true_and, Bool.and_eq_true, decide_eq_true_eq, Bool.not_eq_true', decide_eq_false_iff_not]
      omega), ← hl, List.take_length, List.flatten_append]
    simp

theorem rowsOk_append {K : List Kd} {A B : List (List PV)} (h : rowsOk K A = true) (k : rowsOk K B = true) : rowsOk K (A ++ B) = true := by
  unfold rowsOk at h k ⊢
  rw [List.all_append, h, k]
  rfl

theorem rowsOk_map {K : List Kd} {R : List (List PV)} {g : List PV → List PV} (hg : ∀ x ∈ R, wk K (g x) = true ∧ oldL 0 (g x) = true) : rowsOk K (R.map g) = true := by
  unfold rowsOk
  rw [List.all_eq_true]
  intro y hy
  obtain ⟨x, hx, rfl⟩ := List.mem_map.1 hy
  simp only [(hg x hx).1, (hg x hx).2, Bool.and_self]

theorem accG {K : List Kd} {es n : Nat} (he : es = K.length) {A R : List (List PV)} {g : List PV → List PV} (hA : rowsOk K A = true) (hg : ∀ x ∈ R, wk K (g x) = true ∧ oldL 0 (g x) = true) (hl : R.length = n) (hn : A.length + n ≤ 1000000)
    {L : Nat → Bool → Int → List PV → Nat → Option PV} {e : Bool → Int → List PV → Nat → Option PV} {row : Int → List PV} {P : Bool → Int → List Bool} {Q : List Bool}
    (ht : ∀ q b i ac k, (A = [] ∨ b = true) → L (q + 1) b i ac k = bif decide (i < (n : Int)) then asks (P b i) (grow b ac k es (row i) fun ac' k' => asks Q <| asks [oldL 0 ac'] <| L q true (IntKind.i64.wrap (i + 1)) ac' k') else e b i ac k)
    (hP : ∀ b (i : Nat), i < n → (P b (i : Int)).all id = true) (hrow : ∀ (i : Nat) (hi : i < R.length), row (i : Int) = g R[i]) (hQ : Q.all id = true) :
    ∀ (k i q : Nat), i + k = n → L (q + k + 1) (!Nat.beq (A.length + i) 0) (i : Int) (A ++ (R.take i).map g).flatten (A.length + i) = e (!Nat.beq (A.length + n) 0) (n : Int) (A ++ R.map g).flatten (A.length + n)
  | 0, i, q, h => by
    have hi : i = n := by omega
    subst hi
    have hb : A = [] ∨ (!Nat.beq (A.length + i) 0) = true := by
      cases A with
      | nil => exact Or.inl rfl
      | cons a A => exact Or.inr (by rw [beqn (by simp)]; rfl)
    rw [ht _ _ _ _ _ hb, cond_f (show decide ((i : Int) < (i : Int)) = false from by simp), ← hl, List.take_length]
  | k + 1, i, q, h => by
    have hi : i < R.length := by omega
    have hb : A = [] ∨ (!Nat.beq (A.length + i) 0) = true := by
      cases A with
      | nil => exact Or.inl rfl
      | cons a A => exact Or.inr (by rw [beqn (by simp)]; rfl)
    have hA' : rowsOk K (A ++ (R.take i).map g) = true := rowsOk_append hA (rowsOk_map fun x hx => hg x (List.mem_of_mem_take hx))
    have hlen : (A ++ (R.take i).map g).length = A.length + i := by rw [List.length_append, List.length_map, List.length_take, Nat.min_eq_left (by omega)]
    have hnx : A ++ (R.take i).map g ++ [g R[i]] = A ++ (R.take (i + 1)).map g := by rw [List.take_succ_eq_append_getElem hi, List.map_append, List.append_assoc]; rfl
    have hA2 : rowsOk K (A ++ (R.take (i + 1)).map g) = true := rowsOk_append hA (rowsOk_map fun x hx => hg x (List.mem_of_mem_take hx))
    have hgr := growA hA' (by rw [hlen]; omega) (g R[i])
    rw [hlen, hnx] at hgr
    rw [show q + (k + 1) + 1 = (q + k + 1) + 1 from by omega, ht _ _ _ _ _ hb, cond_t (show decide ((i : Int) < (n : Int)) = true from by simp; omega), asks_of (hP _ i (by omega)), hrow i hi, he, hgr]
    rw [asks_of hQ, asks_of (by simp only [rows_old hA2, List.all_cons, List.all_nil, id, Bool.and_self]), wrap_succ (by omega : i < 9223372036854775807)]
    have ih := accG he hA hg hl hn ht hP hrow hQ k (i + 1) q (by omega)
    rw [show (!Nat.beq (A.length + (i + 1)) 0) = true from by rw [beqn (by omega)]; rfl, show A.length + (i + 1) = A.length + i + 1 from rfl] at ih
    exact ih

theorem accG_run {K : List Kd} {es n : Nat} (he : es = K.length) {A R : List (List PV)} {g : List PV → List PV} (hA : rowsOk K A = true) (hg : ∀ x ∈ R, wk K (g x) = true ∧ oldL 0 (g x) = true) (hl : R.length = n) (hn : A.length + n ≤ 1000000)
    {L : Nat → Bool → Int → List PV → Nat → Option PV} {e : Bool → Int → List PV → Nat → Option PV} {row : Int → List PV} {P : Bool → Int → List Bool} {Q : List Bool}
    (ht : ∀ q b i ac k, (A = [] ∨ b = true) → L (q + 1) b i ac k = bif decide (i < (n : Int)) then asks (P b i) (grow b ac k es (row i) fun ac' k' => asks Q <| asks [oldL 0 ac'] <| L q true (IntKind.i64.wrap (i + 1)) ac' k') else e b i ac k)
    (hP : ∀ b (i : Nat), i < n → (P b (i : Int)).all id = true) (hrow : ∀ (i : Nat) (hi : i < R.length), row (i : Int) = g R[i]) (hQ : Q.all id = true) :
    L 1000009 (!Nat.beq A.length 0) 0 A.flatten A.length = e (!Nat.beq (A ++ R.map g).length 0) (n : Int) (A ++ R.map g).flatten (A ++ R.map g).length := by
  have := accG he hA hg hl hn ht hP hrow hQ n 0 (1000008 - n) (by omega)
  rw [show 1000008 - n + n + 1 = 1000009 from by omega] at this
  rw [show (A ++ R.map g).length = A.length + n from by rw [List.length_append, List.length_map, hl]]
  simpa using this

theorem insT_eq (cc : List PV) (kk : Nat) (at' : Int) (es : Nat) (row : List PV) (K : List PV → Nat → Option PV) : insT cc kk at' es row K = insT2 cc kk at' es row [] [] K := rfl

end Go.Proofs.YtfpjlkkeelgffaaDoor.Am
end

/- Keys held against each other, on both sides: what the functions answer. -/
section
set_option linter.unusedVariables false
set_option linter.unusedSimpArgs false
set_option maxRecDepth 100000
set_option maxHeartbeats 4000000
namespace Go.Proofs.YtfpjlkkeelgffaaDoor.Am

noncomputable def TKr : Table := Tadd T0 8 (gKy2 kyR)
theorem kRef (N : Nat) (a b : Ky) : apartS EN T0 H0 N 5 8 [.agg a.cs, .agg b.cs] = kyT a.space a.name b.space b.name := by kernel_rfl
theorem TKrok : TR TKr := TR0.add TR0 (runKy fun a b => (kRef 1000009 a b).trans (kyT_some a b))

noncomputable def TKp1 : Table := Tadd T0 19 gNaNs
noncomputable def TKp2 : Table := Tadd TKp1 14 gCmpS
noncomputable def TKp3 : Table := Tadd TKp2 13 gOrTwo
where gOrTwo (xs : List PV) : Option (Bool × PV) := match xs with
  | [.sl [.int .i64 a, .int .i64 b] 1 2 _] => some (true, vi (orr [a, b]))
  | _ => none
noncomputable def TKp : Table := Tadd T0 7 (gKy2 kyC)

theorem pNaNs (N : Nat) (s : List UInt8) : apartS EN T0 H0 N 5 19 [.str s] = some (.bool !(s == s)) := by kernel_rfl
theorem pCmpS (N : Nat) (s t : List UInt8) : apartS EN TKp1 H0 N 5 14 [.str s, .str t] = (bif Op.bytesLess s t then some (vi (-1)) else bif !(Op.bytesLess s t || s == t) then some (vi 1) else some (vi 0)) := by kernel_rfl
theorem pOr2 (N : Nat) (a b : Int) (xc : Option Nat) : apartS EN TKp2 H0 (N + 9) 5 13 [.sl [.int .i64 a, .int .i64 b] 1 2 xc] = (bif a != 0 then some (vi a) else bif b != 0 then some (vi b) else some (vi 0)) := by kernel_rfl
theorem pKyC (N : Nat) (a b : Ky) : apartS EN TKp3 H0 N 5 7 [.agg a.cs, .agg b.cs] = some (vi (kyC a b)) := by kernel_rfl

theorem TKp1ok : TR TKp1 := TR0.add TR0 (fun xs v h => by
  unfold gNaNs at h
  split at h
  · rename_i a
    simp only [Option.some.injEq, Prod.mk.injEq, true_and] at h
    subst h
    exact ⟨H0, (pNaNs 1000009 a).trans (by simp)⟩
  · cases h)
theorem TKp2ok : TR TKp2 := TKp1ok.add TKp1ok (runCmpS (pCmpS 1000009))
theorem TKp3ok : TR TKp3 := TKp2ok.add TKp2ok (fun xs v h => by
  unfold TKp3.gOrTwo at h
  split at h
  · rename_i a b xc
    simp only [Option.some.injEq, Prod.mk.injEq, true_and] at h
    subst h
    exact ⟨H0, (pOr2 1000000 a b xc).trans (or2_some a b)⟩
  · cases h)
theorem TKpok : TR TKp := TR0.add TKp3ok (runKy (pKyC 1000009))

end Go.Proofs.YtfpjlkkeelgffaaDoor.Am
end

/- The document's order of keys, each once: its walk. -/
section
set_option linter.unusedVariables false
set_option linter.unusedSimpArgs false
set_option maxRecDepth 100000
set_option maxHeartbeats 8000000
namespace Go.Proofs.YtfpjlkkeelgffaaDoor.Am
open St

def HKs : FuncId → Hint := fun f t => bif Nat.beq f 6 then (bif Nat.beq t 44 then [some false] else bif Nat.beq t 45 || (Nat.beq t 48 || Nat.beq t 52) then [none, some false] else []) else []

def curK (b : Bool) (k : Nat) : PV := bif b then .osl 0 k 0 2 k none else .sl [] 2 0 (some 0)
def slK (c : List PV) (n : Nat) (b : Bool) (k : Nat) (i : Int) : List (Nat × PV) := [(0, .sl c 2 n none), (2, .nils), (3, curK b k), (7, .sl [] 2 0 (some 0)), (8, .sl c 2 n none), (9, vI n), (10, vI i)]
def obK (b : Bool) (a : List PV) (k : Nat) : Store := accO b a 2 k
noncomputable def LK (N m : Nat) (c : List PV) (n : Nat) (b : Bool) (a : List PV) (k : Nat) (i : Int) : Option PV := loopS EN TKr HKs N 5 6 Tryd.f6 [1, 1, 0, 1, 0] (patOf (sparse 55 0 (slK [] 0 false 0 0))) 0 m (sparse 55 0 (slK c n b k i)) (obK b a k)

noncomputable def recK (N : Nat) : RecS PV := recS EN TKr HKs N 5
noncomputable def cK (N : Nat) (c : Code) : Slots → Store → KC PV → Option PV := codeS EN TKr (recK N) (HKs 6) 0 N c
noncomputable def aK (N : Nat) (c : Code) (p : List Nat) (k : KC PV) : KC PV := afterS EN TKr (recK N) (HKs 6) 0 N c p k
noncomputable def contK (N : Nat) (pat : List Bool) (n0 : Nat) (body : Code) (q : Nat) (e : KC PV) : KC PV := fun o s1 σ1 => match o with
  | .norm => trimS EN 0 pat n0 s1 σ1 fun s2 σ2 => iterS EN 0 pat n0 (cK N body) q s2 σ2 e
  | .exit j => e (.exit j) s1 σ1
  | .ret => e .ret s1 σ1
  | .goto l => e (.goto l) s1 σ1
noncomputable def endKs (N : Nat) : KC PV := aK N (bodyOf Tryd.f6) [1, 1, 0, 1, 0] (endK EN Tryd.f6 (lastK EN 6))
noncomputable def bodyK : Code := subC (bodyOf Tryd.f6) [1, 1, 0, 1, 0, 0]
noncomputable def patK : List Bool := patOf (sparse 55 0 (slK [] 0 false 0 0))
def slKa (c : List PV) (n : Nat) (b : Bool) (k : Nat) (i : Int) (row : List PV) (at' : Int) : List (Nat × PV) := [(0, .sl c 2 n none), (2, .nils), (3, curK b k), (5, .ptr (nb b) 1 0), (6, vI at'), (7, .sl [] 2 0 (some 0)), (8, .sl c 2 n none), (9, vI n), (10, vI i), (11, .bool true), (12, .eptr c (i.toNat * 2)), (13, .agg row), (14, curK b k), (15, vI k)]
noncomputable def LKa (N m q : Nat) (c : List PV) (n : Nat) (b : Bool) (a : List PV) (k : Nat) (i : Int) (row : List PV) (at' : Int) : Option PV :=
  iterS EN 0 (patOf (sparse 55 0 (slKa [] 0 false 0 0 [] 0))) (nb b + 1) (cK N (subC bodyK [1, 1, 0, 0, 1, 1, 0, 0, 0])) q (sparse 55 0 (slKa c n b k i row at')) (obK b a k ++ [bxN row 2])
    (aK N bodyK [1, 1, 0, 0, 1, 1, 0, 0] (contK N patK 0 bodyK m (endKs N)))
def rowKk (c : List PV) (i : Int) : List PV := shapeAt KKy c (i.toNat * 2)

def eqK2 (x y : List PV) : Bool := asS (x.getD 0 .nilp) == asS (y.getD 0 .nilp) && (asS (x.getD 1 .nilp) == asS (y.getD 1 .nilp) && true)
def exitK (b : Bool) (a : List PV) (k : Nat) : Option PV := asks (ifb b (sealAsk a k 2)) <| asks (ifb b [oldL 0 ((a.drop 0).take (k * 2))]) <| some (.sl (bif b then (a.drop 0).take (k * 2) else []) 2 (bif b then k else 0) none)

theorem k00 (N : Nat) (c : List PV) (n : Nat) : apartS EN TKr HKs N 5 6 [.sl c 2 n none] = LK N N c n false [] 0 0 := by kernel_rfl

theorem kK (N m : Nat) (c : List PV) (n : Nat) (a : List PV) (k : Nat) (i : Int) : LK N (m + 1) c n true a k i =
  (bif decide (i < (n : Int)) then
    (asks [decide (0 ≤ i) && decide (i < (n : Int)), okAt KKy c (i.toNat * 2)] <| LKa N m N c n true a k i (rowKk c i) k)
  else exitK true a k) := by kernel_rfl

theorem kK0 (N m : Nat) (c : List PV) (n : Nat) (i : Int) : LK N (m + 1) c n false [] 0 i =
  (bif decide (i < (n : Int)) then
    (asks [decide (0 ≤ i) && decide (i < (n : Int)), okAt KKy c (i.toNat * 2)] <| LKa N m N c n false [] 0 i (rowKk c i) 0)
  else exitK false [] 0) := by kernel_rfl

noncomputable def insK (N m : Nat) (c : List PV) (n : Nat) (a : List PV) (k : Nat) (i at' : Int) : Option PV :=
  insT a k at' 2 (rowKk c i) fun ac k' => asks [oldL 0 c, oldL 0 c] <| asks [oldL 0 ac] <| LK N m c n true ac k' (IntKind.i64.wrap (i + 1))
noncomputable def restK (N m : Nat) (c : List PV) (n : Nat) (a : List PV) (k : Nat) (i at' : Int) : Option PV :=
  bif decide (at' > 0) then
    (asks [decide (0 ≤ IntKind.i64.wrap (at' - 1)) && decide (IntKind.i64.wrap (at' - 1) < (k : Int)), k == k, okAt KKy a (0 + (IntKind.i64.wrap (at' - 1)).toNat * 2)] <|
    bif eqK2 (shapeAt KKy a (0 + (IntKind.i64.wrap (at' - 1)).toNat * 2)) (rowKk c i) then
      (asks [oldL 0 c, oldL 0 c] <| asks [oldL 0 a] <| LK N m c n true a k (IntKind.i64.wrap (i + 1)))
    else insK N m c n a k i at')
  else insK N m c n a k i at'

theorem kA (N m q : Nat) (c : List PV) (n : Nat) (a : List PV) (k : Nat) (i at' : Int) : LKa N m (q + 1) c n true a k i (rowKk c i) at' =
  (bif decide (at' > 0) then
    (asks [decide (0 ≤ IntKind.i64.wrap (at' - 1)) && decide (IntKind.i64.wrap (at' - 1) < (k : Int)), k == k, okAt KKy a (0 + (IntKind.i64.wrap (at' - 1)).toNat * 2)] <|
    bif decide (rKy (rowKk c i) (shapeAt KKy a (0 + (IntKind.i64.wrap (at' - 1)).toNat * 2)) < 0) then
      (asks [oldL 2 c, oldL 2 c, oldL 2 c] <| asks [oldL 0 a] <| LKa N m q c n true a k i (rowKk c i) (IntKind.i64.wrap (at' - 1)))
    else restK N m c n a k i at')
  else restK N m c n a k i at') := by kernel_rfl

theorem kA0 (N m q : Nat) (c : List PV) (n : Nat) (i : Int) : LKa N m (q + 1) c n false [] 0 i (rowKk c i) 0 =
  (asks [oldL 0 c, oldL 0 c] <| asks [oldL 0 (rowKk c i)] <| LK N m c n true (rowKk c i) 1 (IntKind.i64.wrap (i + 1))) := by kernel_rfl

end Go.Proofs.YtfpjlkkeelgffaaDoor.Am
end

/- The document's order of keys, each once: what it answers. -/
section
set_option linter.unusedVariables false
set_option linter.unusedSimpArgs false
set_option maxRecDepth 100000
set_option maxHeartbeats 8000000
namespace Go.Proofs.YtfpjlkkeelgffaaDoor.Am
open St

/-- A key among keys, unless it is there. -/
def insU (x : List PV) (A : List (List PV)) : List (List PV) :=
  bif decide (0 < plc (ltOf rKy) x A A.length) && eqK2 (A.getD (plc (ltOf rKy) x A A.length - 1) []) x then A
  else A.take (plc (ltOf rKy) x A A.length) ++ x :: A.drop (plc (ltOf rKy) x A A.length)
def sortU (R : List (List PV)) : List (List PV) := R.foldl (fun A x => insU x A) []

theorem sortU_snoc (R : List (List PV)) (x : List PV) : sortU (R ++ [x]) = insU x (sortU R) := by simp [sortU]

theorem insU_mem {x y : List PV} {A : List (List PV)} (h : y ∈ insU x A) : y = x ∨ y ∈ A := by
  unfold insU at h
  cases hc : decide (0 < plc (ltOf rKy) x A A.length) && eqK2 (A.getD (plc (ltOf rKy) x A A.length - 1) []) x with
  | true => rw [hc] at h; exact Or.inr h
  | false =>
    rw [hc, cond_false, List.mem_append, List.mem_cons] at h
    rcases h with h | h | h
    · exact Or.inr (List.mem_of_mem_take h)
    · exact Or.inl h
    · exact Or.inr (List.mem_of_mem_drop h)

theorem sortU_mem : ∀ (R A : List (List PV)) (y : List PV), y ∈ R.foldl (fun A x => insU x A) A → y ∈ R ∨ y ∈ A
  | [], A, y, h => Or.inr h
  | x :: R, A, y, h => by
    rcases sortU_mem R (insU x A) y h with h | h
    · exact Or.inl (List.mem_cons_of_mem _ h)
    · rcases insU_mem h with rfl | h
      · exact Or.inl List.mem_cons_self
      · exact Or.inr h

theorem insU_len (x : List PV) (A : List (List PV)) : (insU x A).length ≤ A.length + 1 := by
  unfold insU
  cases decide (0 < plc (ltOf rKy) x A A.length) && eqK2 (A.getD (plc (ltOf rKy) x A A.length - 1) []) x with
  | true => exact Nat.le_succ _
  | false =>
    rw [cond_false, List.length_append, List.length_cons, List.length_take, List.length_drop]
    have := plc_le (ltOf rKy) x A A.length
    omega

theorem sortU_len : ∀ (R A : List (List PV)), (R.foldl (fun A x => insU x A) A).length ≤ A.length + R.length
  | [], A => by simp
  | x :: R, A => by
    have h1 := sortU_len R (insU x A)
    have h2 := insU_len x A
    rw [List.foldl_cons, List.length_cons]
    omega

theorem sortU_ok {R : List (List PV)} (h : rowsOk KKy R = true) : rowsOk KKy (sortU R) = true := by
  unfold rowsOk at h ⊢
  rw [List.all_eq_true] at h ⊢
  intro y hy
  rcases sortU_mem R [] y hy with hy | hy
  · exact h y hy
  · cases hy

theorem sk_loop {N n : Nat} {R : List (List PV)} (hN : 1000002 ≤ N) (hR : rowsOk KKy R = true) (hl : R.length = n) (hn : n ≤ 1000000) (q : Nat) :
    LK N (q + n + 1) R.flatten n false [] 0 0 = some (.sl (sortU R).flatten 2 (sortU R).length none) := by
  have hO : ∀ x, oldL x R.flatten = true := rows_oldn hR
  refine mid_loop (L := fun q i => LK N q R.flatten n (!Nat.beq (sortU (R.take i)).length 0) (sortU (R.take i)).flatten (sortU (R.take i)).length (i : Int)) ?_ ?_ q
  · intro q i hi
    have hi' : i < R.length := by omega
    have hA : rowsOk KKy (sortU (R.take i)) = true := sortU_ok (rowsOk_take hR i)
    have hlen : (sortU (R.take i)).length ≤ i := by
      have := sortU_len (R.take i) []
      rw [List.length_take, List.length_nil] at this
      exact Nat.le_trans this (by omega)
    have hnx : sortU (R.take (i + 1)) = insU R[i] (sortU (R.take i)) := by rw [List.take_succ_eq_append_getElem hi', sortU_snoc]
    have hAn : rowsOk KKy (sortU (R.take (i + 1))) = true := sortU_ok (rowsOk_take hR (i + 1))
    have hrow : rowKk R.flatten (i : Int) = R[i] := by
      unfold rowKk
      rw [Int.toNat_natCast, show (2 : Nat) = KKy.length from rfl]
      exact (rows_at0 hR hi').2
    have hxl : R[i].length = KKy.length := wk_len (rowsOk_get hR (List.getElem_mem hi')).1
    have hask : ([decide (0 ≤ (i : Int)) && decide ((i : Int) < (n : Int)), okAt KKy R.flatten ((i : Int).toNat * 2)]).all id = true := by
      rw [Int.toNat_natCast, show (2 : Nat) = KKy.length from rfl]
      exact cons_ok (inside hi) (cons_ok (rows_at0 hR hi').1 rfl)
    show LK N (q + 1) R.flatten n (!Nat.beq (sortU (R.take i)).length 0) (sortU (R.take i)).flatten (sortU (R.take i)).length (i : Int) = LK N q R.flatten n (!Nat.beq (sortU (R.take (i + 1))).length 0) (sortU (R.take (i + 1))).flatten (sortU (R.take (i + 1))).length ((i + 1 : Nat) : Int)
    generalize hAe : sortU (R.take i) = A at *
    obtain ⟨s0, rfl⟩ : ∃ s0, N = s0 + 1 := ⟨N - 1, by omega⟩
    cases A with
    | nil =>
      have e1 : insU R[i] [] = [R[i]] := by simp [insU, plc]
      rw [hnx, e1]
      show LK (s0 + 1) (q + 1) R.flatten n false [] 0 (i : Int) = LK (s0 + 1) q R.flatten n true [R[i]].flatten 1 ((i + 1 : Nat) : Int)
      rw [kK0, cond_t (show decide ((i : Int) < (n : Int)) = true from by simp; omega), asks_of hask, kA0, hrow, asks_of (cons_ok (hO 0) (cons_ok (hO 0) rfl)), asks_of (ask1 (rowsOk_get hR (List.getElem_mem hi')).2), wrap_succ (by omega : i < 9223372036854775807)]
      simp
    | cons y A =>
      have hb : (!Nat.beq (y :: A).length 0) = true := rfl
      rw [hb, kK, cond_t (show decide ((i : Int) < (n : Int)) = true from by simp; omega), asks_of hask]
      obtain ⟨s, hs⟩ : ∃ s, s0 + 1 = s + (y :: A).length + 1 := ⟨s0 - (y :: A).length, by omega⟩
      have hpl := plc_le (ltOf rKy) R[i] (y :: A) (y :: A).length
      have hins : ∀ t, t ≤ (y :: A).length → ∀ v, (fun (ac : List PV) (k' : Nat) => LK (s0 + 1) q R.flatten n true ac k' ((i + 1 : Nat) : Int)) ((y :: A).take t ++ R[i] :: (y :: A).drop t).flatten ((y :: A).length + 1) = v → oldL 0 ((y :: A).take t ++ R[i] :: (y :: A).drop t).flatten = true → insK (s0 + 1) q R.flatten n (y :: A).flatten (y :: A).length (i : Int) (t : Int) = v := by
        intro t ht v hv ho
        unfold insK
        rw [insT_eq, hrow, show (2 : Nat) = KKy.length from rfl, insT2_ok (K := KKy) hA hxl (by omega) ht (by simp) rfl rfl, asks_of (cons_ok (hO 0) (cons_ok (hO 0) rfl)), asks_of (ask1 ho), wrap_succ (by omega : i < 9223372036854775807)]
        exact hv
      have main := at_loop (lt := ltOf rKy) (x := R[i]) (A := y :: A) (L := fun s t => LKa (s0 + 1) q s R.flatten n true (y :: A).flatten (y :: A).length (i : Int) (rowKk R.flatten (i : Int)) t) (fin := fun t => restK (s0 + 1) q R.flatten n (y :: A).flatten (y :: A).length (i : Int) (t : Int)) (v := LK (s0 + 1) q R.flatten n (!Nat.beq (sortU (R.take (i + 1))).length 0) (sortU (R.take (i + 1))).flatten (sortU (R.take (i + 1))).length ((i + 1 : Nat) : Int)) ?_ ?_ ?_ s
      · rw [← hs] at main
        exact main
      · intro s t ht
        have pa := rows_at hA ht
        show LKa (s0 + 1) q (s + 1) R.flatten n true (y :: A).flatten (y :: A).length (i : Int) (rowKk R.flatten (i : Int)) ((t + 1 : Nat) : Int) = _
        rw [kA, cond_t (show decide (((t + 1 : Nat) : Int) > 0) = true from by simp), wrap_pred (by omega : t < 9223372036854775807)]
        simp only [Int.toNat_natCast]
        have e2 : (2 : Nat) = KKy.length := rfl
        rw [asks_of (l := [decide (0 ≤ (t : Int)) && decide ((t : Int) < ((y :: A).length : Int)), (y :: A).length == (y :: A).length, okAt KKy (y :: A).flatten (0 + t * 2)]) (cons_ok (inside ht) (cons_ok (by simp) (cons_ok pa.1 rfl)))]
        have hcell : rKy (rowKk R.flatten (i : Int)) (shapeAt KKy (y :: A).flatten (0 + t * 2)) = rKy R[i] (y :: A)[t] := by rw [hrow, e2, pa.2]
        simp only [hcell]
        rw [getD_at ht, show ltOf rKy R[i] (y :: A)[t] = decide (rKy R[i] (y :: A)[t] < 0) from rfl]
        generalize decide (rKy R[i] (y :: A)[t] < 0) = b
        cases b
        · rfl
        · simp only [cond_true]
          rw [asks_of (cons_ok (hO 2) (cons_ok (hO 2) (cons_ok (hO 2) rfl))), asks_of (ask1 (rows_old hA))]
      · intro s
        show LKa (s0 + 1) q (s + 1) R.flatten n true (y :: A).flatten (y :: A).length (i : Int) (rowKk R.flatten (i : Int)) ((0 : Nat) : Int) = _
        rw [kA, cond_f (by simp)]
      · have hAn' := hAn
        rw [hnx] at hAn' ⊢
        unfold insU at hAn' ⊢
        generalize hp : plc (ltOf rKy) R[i] (y :: A) (y :: A).length = p at *
        cases p with
        | zero =>
          have : (decide (0 < 0) && eqK2 ((y :: A).getD (0 - 1) []) R[i]) = false := by simp
          rw [this, cond_false] at hAn' ⊢
          unfold restK
          rw [cond_f (by simp)]
          refine hins 0 (by omega) _ ?_ (rows_old hAn')
          simp
          try rfl
        | succ t =>
          have ht : t < (y :: A).length := by omega
          have pa := rows_at hA ht
          have e2 : (2 : Nat) = KKy.length := rfl
          unfold restK
          rw [cond_t (show decide (((t + 1 : Nat) : Int) > 0) = true from by simp), wrap_pred (by omega : t < 9223372036854775807)]
          simp only [Int.toNat_natCast]
          rw [asks_of (l := [decide (0 ≤ (t : Int)) && decide ((t : Int) < ((y :: A).length : Int)), (y :: A).length == (y :: A).length, okAt KKy (y :: A).flatten (0 + t * 2)]) (cons_ok (inside ht) (cons_ok (by simp) (cons_ok pa.1 rfl)))]
          have hcell : eqK2 (shapeAt KKy (y :: A).flatten (0 + t * 2)) (rowKk R.flatten (i : Int)) = eqK2 ((y :: A).getD (t + 1 - 1) []) R[i] := by rw [hrow, e2, pa.2, Nat.add_sub_cancel, getD_at ht]
          rw [hcell]
          have h0 : decide (0 < t + 1) = true := by simp
          rw [h0, Bool.true_and] at hAn' ⊢
          cases he : eqK2 ((y :: A).getD (t + 1 - 1) []) R[i] with
          | true =>
            rw [cond_true, cond_true, asks_of (cons_ok (hO 0) (cons_ok (hO 0) rfl)), asks_of (ask1 (rows_old hA)), wrap_succ (by omega : i < 9223372036854775807)]
            rfl
          | false =>
            rw [he, cond_false] at hAn'
            rw [cond_false, cond_false]
            refine hins (t + 1) (by omega) _ ?_ (rows_old hAn')
            have e3 : ((y :: A).take (t + 1) ++ R[i] :: (y :: A).drop (t + 1)).length = (y :: A).length + 1 := by
              rw [List.length_append, List.length_cons, List.length_take, List.length_drop]
              omega
            rw [e3]
            rfl
  · intro q
    show LK N (q + 1) R.flatten n (!Nat.beq (sortU (R.take n)).length 0) (sortU (R.take n)).flatten (sortU (R.take n)).length (n : Int) = _
    have e : R.take n = R := by rw [List.take_of_length_le (by omega)]
    rw [e]
    have hA := sortU_ok hR
    obtain ⟨s1, s2, s3⟩ := seal_ok hA (by decide)
    generalize sortU R = A at *
    cases A with
    | nil =>
      show LK N (q + 1) R.flatten n false [] 0 (n : Int) = _
      rw [kK0, cond_f (by simp)]
      rfl
    | cons y A =>
      have hb : (!Nat.beq (y :: A).length 0) = true := rfl
      rw [hb] at s1 s2 ⊢
      rw [kK, cond_f (by simp)]
      unfold exitK
      rw [show (2 : Nat) = KKy.length from rfl, asks_of s1, asks_of s2, cond_true, cond_true, take_all _ (rows_len hA)]

def gSortK (xs : List PV) : Option (Bool × PV) := match xs with
  | [.sl c e n none] => some (Nat.beq e 2 && rowsC KKy n c, .sl (sortU (chunks 2 n c)).flatten 2 (sortU (chunks 2 n c)).length none)
  | _ => none

theorem runSortK (xs : List PV) (v : PV) (h : gSortK xs = some (true, v)) : ∃ H, apartS EN TKr H 1000009 5 6 xs = some v := by
  unfold gSortK at h
  split at h
  · rename_i c e n
    simp only [Option.some.injEq, Prod.mk.injEq, Bool.and_eq_true] at h
    obtain ⟨⟨h1, h2⟩, rfl⟩ := h
    rw [Nat.eq_of_beq_eq_true h1]
    obtain ⟨r1, r2, r3, r4⟩ := rowsC_ok h2
    refine ⟨HKs, (k00 1000009 c n).trans ?_⟩
    have := sk_loop (N := 1000009) (by omega) r2 r4 r1 (1000008 - n)
    rw [show 1000008 - n + n + 1 = 1000009 from by omega, r3] at this
    exact this
  · cases h

/-- A key in a row, from a place on. -/
def kyP (p : Nat) (x : List PV) : List UInt8 × List UInt8 := (asS (x.getD p .nilp), asS (x.getD (p + 1) .nilp))
def goodK (p : Nat) (a b : List UInt8) (x : List PV) : Bool := asS (x.getD p .nilp) == a && (asS (x.getD (p + 1) .nilp) == b && true)

theorem goodK_eq (p : Nat) (a b : List UInt8) : goodK p a b = fun x => decide (kyP p x = (a, b)) := by
  funext x
  unfold goodK kyP
  rw [Bool.eq_iff_iff]
  simp [Prod.ext_iff]

theorem eqK2_iff (x y : List PV) : eqK2 x y = true ↔ kyP 0 x = kyP 0 y := by
  unfold eqK2 kyP
  simp [Prod.ext_iff]

/-! ### keys in order, each once -/

theorem lt_rKy : ltOf rKy = ltOf cKy := by
  funext x y
  unfold ltOf
  rw [cKy_eq]

theorem cKy_same {x y z : List PV} (h : kyP 0 y = kyP 0 z) : cKy x y = cKy x z ∧ cKy y x = cKy z x := by
  have e : kyAt y 0 = kyAt z 0 := by
    unfold kyAt
    have h1 := congrArg Prod.fst h
    have h2 := congrArg Prod.snd h
    simp only [kyP] at h1 h2
    rw [h1, h2]
  unfold cKy
  rw [e]
  exact ⟨rfl, rfl⟩

theorem plc_lt (lt : List PV → List PV → Bool) (x : List PV) (R : List (List PV)) : ∀ (k i : Nat), plc lt x R k ≤ i → i < k → lt x (R.getD i []) = true
  | 0, i, _, h => by omega
  | k + 1, i, h1, h2 => by
    rw [plc] at h1
    split at h1
    · rename_i hk
      by_cases e : i = k
      · rw [e]; exact hk
      · exact plc_lt lt x R k i h1 (by omega)
    · omega

theorem plc_ge (lt : List PV → List PV → Bool) (x : List PV) (R : List (List PV)) : ∀ (k : Nat), 0 < plc lt x R k → lt x (R.getD (plc lt x R k - 1) []) = false
  | 0, h => by simp [plc] at h
  | k + 1, h => by
    rw [plc] at h ⊢
    split at h
    · rename_i hk
      rw [if_pos hk]
      exact plc_ge lt x R k h
    · rename_i hk
      rw [if_neg hk, Nat.add_sub_cancel]
      simpa using hk

structure KsOk (A : List (List PV)) : Prop where
  srt : Sorted (ltOf rKy) A
  once : (A.map (kyP 0)).Nodup

theorem insU_ok {x : List PV} {A : List (List PV)} (h : KsOk A) : KsOk (insU x A) ∧ kyP 0 x ∈ (insU x A).map (kyP 0) ∧ ∀ k ∈ A.map (kyP 0), k ∈ (insU x A).map (kyP 0) := by
  have ho : Ord (ltOf rKy) := lt_rKy ▸ oKy
  have hpl := plc_le (ltOf rKy) x A A.length
  unfold insU
  cases hc : decide (0 < plc (ltOf rKy) x A A.length) && eqK2 (A.getD (plc (ltOf rKy) x A A.length - 1) []) x with
  | true =>
    rw [cond_true]
    simp only [Bool.and_eq_true, decide_eq_true_eq] at hc
    have hl : plc (ltOf rKy) x A A.length - 1 < A.length := by omega
    refine ⟨h, ?_, fun k hk => hk⟩
    rw [← (eqK2_iff _ _).1 hc.2, getD_at hl]
    exact List.mem_map.2 ⟨_, List.getElem_mem hl, rfl⟩
  | false =>
    rw [cond_false]
    have hperm : (A.take (plc (ltOf rKy) x A A.length) ++ x :: A.drop (plc (ltOf rKy) x A A.length)).Perm (x :: A) := by
      refine List.perm_middle.trans ?_
      rw [List.take_append_drop]
    refine ⟨⟨?_, ?_⟩, ?_, ?_⟩
    · rw [plc_all]
      exact ins_sorted ho x A h.srt
    · refine ((hperm.map (kyP 0)).nodup_iff).2 ?_
      rw [List.map_cons, List.nodup_cons]
      refine ⟨fun hm => ?_, h.once⟩
      obtain ⟨y, hy, hk⟩ := List.mem_map.1 hm
      obtain ⟨i, hi, rfl⟩ := List.mem_iff_getElem.1 hy
      have hz : cKy x x = 0 := by have := cKy_co.anti x x; omega
      have h1 : ltOf rKy x A[i] = false := by
        rw [lt_rKy]
        unfold ltOf
        rw [(cKy_same (x := x) hk).1, hz]
        rfl
      have hip : i < plc (ltOf rKy) x A A.length := by
        by_cases q : i < plc (ltOf rKy) x A A.length
        · exact q
        · have := plc_lt (ltOf rKy) x A A.length i (by omega) hi
          rw [getD_at hi, h1] at this
          cases this
      have h2 := plc_ge (ltOf rKy) x A A.length (by omega)
      have hl : plc (ltOf rKy) x A A.length - 1 < A.length := by omega
      have h4 : ltOf rKy (A[plc (ltOf rKy) x A A.length - 1]) A[i] = false := by
        by_cases q : i = plc (ltOf rKy) x A A.length - 1
        · subst q
          exact ho.irrefl _
        · exact List.pairwise_iff_getElem.1 h.srt i _ hi hl (by omega)
      have he : A.getD (plc (ltOf rKy) x A A.length - 1) [] = A[plc (ltOf rKy) x A A.length - 1] := getD_at hl
      rw [he] at h2
      have h6 : eqK2 (A.getD (plc (ltOf rKy) x A A.length - 1) []) x = true := by
        rw [he]
        generalize A[plc (ltOf rKy) x A A.length - 1] = y at h2 h4
        have h3 : ltOf rKy y x = false := by
          rw [lt_rKy] at h4 ⊢
          unfold ltOf at h4 ⊢
          rw [← (cKy_same (x := y) hk).1]
          exact h4
        rw [lt_rKy] at h2 h3
        have h5 := kyC_zero (no_tie cKy_co h3 h2)
        exact (eqK2_iff _ _).2 (Prod.ext h5.1 h5.2)
      rw [h6] at hc
      simp only [Bool.and_true, decide_eq_false_iff_not] at hc
      omega
    · exact List.mem_map.2 ⟨x, by simp, rfl⟩
    · intro k hk
      exact ((hperm.map (kyP 0)).mem_iff).2 (by rw [List.map_cons]; exact List.mem_cons_of_mem _ hk)

theorem sortU_fold : ∀ (R A : List (List PV)), KsOk A → KsOk (R.foldl (fun A x => insU x A) A) ∧ (∀ k ∈ A.map (kyP 0), k ∈ (R.foldl (fun A x => insU x A) A).map (kyP 0)) ∧ ∀ x ∈ R, kyP 0 x ∈ (R.foldl (fun A x => insU x A) A).map (kyP 0)
  | [], A, h => ⟨h, fun k hk => hk, fun x hx => by cases hx⟩
  | x :: R, A, h => by
    obtain ⟨h1, h2, h3⟩ := insU_ok (x := x) h
    obtain ⟨g1, g2, g3⟩ := sortU_fold R (insU x A) h1
    refine ⟨g1, fun k hk => g2 k (h3 k hk), fun y hy => ?_⟩
    rcases List.mem_cons.1 hy with rfl | hy
    · exact g2 _ h2
    · exact g3 y hy

theorem sortU_keys (R : List (List PV)) : ((sortU R).map (kyP 0)).Nodup ∧ ∀ x ∈ R, kyP 0 x ∈ (sortU R).map (kyP 0) := by
  obtain ⟨h1, h2, h3⟩ := sortU_fold R [] ⟨List.Pairwise.nil, List.Pairwise.nil⟩
  exact ⟨h1.once, h3⟩


end Go.Proofs.YtfpjlkkeelgffaaDoor.Am
end

/- Each one that is like the one ahead of it goes: the plain law of slices.Compact. -/
section
set_option linter.unusedVariables false
set_option linter.unusedSimpArgs false
namespace Go.Proofs.YtfpjlkkeelgffaaDoor.Am
open St

def uqF (eq : List PV → List PV → Bool) : List PV → List (List PV) → List (List PV)
  | _, [] => []
  | p, x :: R => bif eq x p then uqF eq x R else x :: uqF eq x R
def uniq (eq : List PV → List PV → Bool) : List (List PV) → List (List PV)
  | [] => []
  | x :: R => x :: uqF eq x R

theorem uqF_snoc (eq : List PV → List PV → Bool) : ∀ (R : List (List PV)) (p x : List PV), uqF eq p (R ++ [x]) = uqF eq p R ++ (bif eq x (R.getLast?.getD p) then [] else [x])
  | [], p, x => by simp [uqF]
  | y :: R, p, x => by
    have ih := uqF_snoc eq R y x
    have e : (y :: R).getLast?.getD p = R.getLast?.getD y := by rw [List.getLast?_cons]; rfl
    rw [List.cons_append, uqF, ih, e, uqF]
    cases eq y p <;> rfl

theorem uniq_snoc (eq : List PV → List PV → Bool) (R : List (List PV)) (j : Nat) (hj : j + 1 < R.length) : uniq eq (R.take (j + 2)) = uniq eq (R.take (j + 1)) ++ (bif eq R[j + 1] R[j] then [] else [R[j + 1]]) := by
  have e : R.take (j + 2) = R.take (j + 1) ++ [R[j + 1]] := by rw [List.take_succ_eq_append_getElem hj]
  rw [e]
  cases R with
  | nil => simp at hj
  | cons x R =>
    rw [List.take_succ_cons, List.cons_append, uniq, uniq, uqF_snoc, List.cons_append]
    have h : (R.take j).getLast?.getD x = (x :: R)[j] := by
      cases j with
      | zero => simp
      | succ j =>
        have hj' : j < R.length := by simp at hj; omega
        rw [List.take_succ_eq_append_getElem hj', List.getLast?_concat]
        rfl
    rw [h]

/-- Behind some rows: those that stay lie in front; what is not read yet lies as it lay. -/
structure Uq (eq : List PV → List PV → Bool) (R S : List (List PV)) (w j : Nat) : Prop where
  len : S.length = R.length
  front : S.take w = uniq eq (R.take j)
  ahead : S.drop (j - 1) = R.drop (j - 1)
  le : w < j

theorem Uq.at {eq : List PV → List PV → Bool} {R S : List (List PV)} {w j i : Nat} (h : Uq eq R S w j) (hi : j - 1 ≤ i) (hl : i < R.length) : S[i]'(by rw [h.len]; exact hl) = R[i] := by
  have h1 := congrArg (fun L => L[i - (j - 1)]?) h.ahead
  simp only [List.getElem?_drop, show j - 1 + (i - (j - 1)) = i from by omega] at h1
  rw [List.getElem?_eq_getElem (by rw [h.len]; exact hl), List.getElem?_eq_getElem hl] at h1
  exact Option.some.inj h1

theorem Uq.out {eq : List PV → List PV → Bool} {R S : List (List PV)} {w j : Nat} (h : Uq eq R S w (j + 1)) (hj : j + 1 < R.length) (hg : eq R[j + 1] R[j] = true) : Uq eq R S w (j + 2) where
  len := h.len
  front := by rw [h.front, uniq_snoc eq R j hj, hg, cond_true, List.append_nil]
  ahead := by
    have := congrArg (List.drop 1) h.ahead
    simp only [List.drop_drop, Nat.add_sub_cancel] at this
    exact this
  le := Nat.lt_succ_of_lt h.le

theorem Uq.in {eq : List PV → List PV → Bool} {R S : List (List PV)} {w j : Nat} (h : Uq eq R S w (j + 1)) (hj : j + 1 < R.length) (hg : eq R[j + 1] R[j] = false) : Uq eq R (S.set w R[j + 1]) (w + 1) (j + 2) where
  len := by rw [List.length_set]; exact h.len
  front := by
    have hw : w < S.length := by rw [h.len]; have := h.le; omega
    rw [List.take_succ_eq_append_getElem (by rw [List.length_set]; exact hw), List.getElem_set_self, List.take_set_of_le (Nat.le_refl w), h.front, uniq_snoc eq R j hj, hg, cond_false]
  ahead := by
    have h1 := congrArg (List.drop 1) h.ahead
    simp only [List.drop_drop, Nat.add_sub_cancel] at h1 ⊢
    rw [show j + 2 - 1 = j + 1 from rfl, List.drop_set_of_lt (by have := h.le; omega)]
    exact h1
  le := Nat.succ_lt_succ h.le

theorem Uq.done {eq : List PV → List PV → Bool} {R S : List (List PV)} {w : Nat} (h : Uq eq R S w R.length) : S.take w = uniq eq R := by
  rw [h.front, List.take_length]

/-- The first that is like the one ahead of it, from a place on. -/
def dupN (eq : List PV → List PV → Bool) (R : List (List PV)) : Nat → Nat → Option Nat
  | _, 0 => none
  | i, k + 1 => bif eq (R.getD i []) (R.getD (i - 1) []) then some i else dupN eq R (i + 1) k

theorem uniq_same {eq : List PV → List PV → Bool} {R : List (List PV)} : ∀ (j : Nat), j ≤ R.length → (∀ (i : Nat) (hi : i + 1 < j) (hl : i + 1 < R.length), eq R[i + 1] R[i] = false) → uniq eq (R.take j) = R.take j
  | 0, _, _ => by simp [uniq]
  | 1, h, _ => by
    cases R with
    | nil => simp at h
    | cons x R => simp [uniq, uqF]
  | j + 2, h, hd => by
    rw [uniq_snoc eq R j (by omega), uniq_same (j + 1) (by omega) fun i hi hl => hd i (by omega) hl, hd j (by omega) (by omega), cond_false, List.take_succ_eq_append_getElem (by omega : j + 1 < R.length)]

theorem Uq.start {eq : List PV → List PV → Bool} {R : List (List PV)} {z : Nat} (h0 : 0 < z) (hz : z < R.length) (hd : ∀ (i : Nat) (hi : i + 1 < z) (hl : i + 1 < R.length), eq R[i + 1] R[i] = false) (he : eq R[z] (R[z - 1]'(by omega)) = true) : Uq eq R R z (z + 1) where
  len := rfl
  front := by
    obtain ⟨k, rfl⟩ : ∃ k, z = k + 1 := ⟨z - 1, by omega⟩
    rw [uniq_snoc eq R k hz, uniq_same (k + 1) (by omega) hd]
    rw [show eq R[k + 1] R[k] = true from he, cond_true, List.append_nil]
  ahead := rfl
  le := Nat.lt_succ_self z

/-! ### of sorted rows -/

theorem uqF_mem {eq : List PV → List PV → Bool} : ∀ (R : List (List PV)) (p z : List PV), (∀ x ∈ p :: R, ∀ y ∈ p :: R, eq x y = true → x = y) → (z ∈ p :: uqF eq p R ↔ z ∈ p :: R)
  | [], p, z, _ => by simp [uqF]
  | x :: R, p, z, he => by
    have ih := uqF_mem R x z fun a ha b hb => he a (List.mem_cons_of_mem _ ha) b (List.mem_cons_of_mem _ hb)
    rw [uqF]
    cases hc : eq x p with
    | true =>
      have := he x (by simp) p (by simp) hc
      subst this
      rw [cond_true, ih]
      simp
    | false =>
      rw [cond_false, List.mem_cons, ih]
      simp

theorem uniq_mem {eq : List PV → List PV → Bool} {R : List (List PV)} (he : ∀ x ∈ R, ∀ y ∈ R, eq x y = true → x = y) (z : List PV) : z ∈ uniq eq R ↔ z ∈ R := by
  cases R with
  | nil => simp [uniq]
  | cons x R => exact uqF_mem R x z he

theorem uqF_sub {eq : List PV → List PV → Bool} : ∀ (R : List (List PV)) (p : List PV), (uqF eq p R).Sublist R
  | [], p => by simp [uqF]
  | x :: R, p => by
    rw [uqF]
    cases eq x p with
    | true => exact (uqF_sub R x).cons x
    | false => exact (uqF_sub R x).cons_cons x

theorem uniq_sub {eq : List PV → List PV → Bool} (R : List (List PV)) : (uniq eq R).Sublist R := by
  cases R with
  | nil => simp [uniq]
  | cons x R => exact (uqF_sub R x).cons_cons x

theorem uqF_strict {eq lt : List PV → List PV → Bool} (ho : Ord lt) (hne : ∀ x y, lt x y = false → lt y x = false → eq y x = true) : ∀ (R : List (List PV)) (p : List PV), Sorted lt (p :: R) → (p :: uqF eq p R).Pairwise fun a b => lt a b = true
  | [], p, _ => by simp [uqF]
  | x :: R, p, hs => by
    have hs' := List.pairwise_cons.1 hs
    have hx : lt x p = false := hs'.1 x List.mem_cons_self
    have ih := uqF_strict ho hne R x hs'.2
    rw [uqF]
    cases hc : eq x p with
    | true =>
      rw [cond_true]
      have ih' := List.pairwise_cons.1 ih
      refine List.pairwise_cons.2 ⟨fun z hz => ?_, ih'.2⟩
      exact ho.lt_of_le_lt hx (ih'.1 z hz)
    | false =>
      rw [cond_false]
      have hpx : lt p x = true := by
        cases hq : lt p x with
        | true => rfl
        | false => rw [hne p x hq hx] at hc; cases hc
      refine List.pairwise_cons.2 ⟨fun z hz => ?_, ih⟩
      rcases List.mem_cons.1 hz with rfl | hz
      · exact hpx
      · have h2 := (List.pairwise_cons.1 ih).1 z hz
        exact ho.lt_of_le_lt hx h2

theorem uniq_strict {eq lt : List PV → List PV → Bool} (ho : Ord lt) (hne : ∀ x y, lt x y = false → lt y x = false → eq y x = true) (R : List (List PV)) (hs : Sorted lt R) : (uniq eq R).Pairwise fun a b => lt a b = true := by
  cases R with
  | nil => exact List.Pairwise.nil
  | cons x R => exact uqF_strict ho hne R x hs

/-- Strictly rising rows with the same members are the same. -/
theorem strict_one {lt : List PV → List PV → Bool} (ho : Ord lt) {L M : List (List PV)} (hL : L.Pairwise fun a b => lt a b = true) (hM : M.Pairwise fun a b => lt a b = true) (hm : ∀ z, z ∈ L ↔ z ∈ M) : L = M := by
  have nd : ∀ {L : List (List PV)}, L.Pairwise (fun a b => lt a b = true) → L.Nodup := fun h => h.imp fun {a b} hab e => by subst e; rw [ho.irrefl] at hab; cases hab
  have hp : L.Perm M := (List.perm_ext_iff_of_nodup (nd hL) (nd hM)).2 hm
  exact List.Perm.eq_of_pairwise (le := fun a b => lt a b = true) (fun a b _ _ h1 h2 => by rw [ho.asymm a b h1] at h2; cases h2) hL hM hp

end Go.Proofs.YtfpjlkkeelgffaaDoor.Am
end

/- Keys in order, each once: sorted and made one each, or laid in one by one: the same. -/
section
set_option linter.unusedVariables false
set_option linter.unusedSimpArgs false
namespace Go.Proofs.YtfpjlkkeelgffaaDoor.Am
open St

theorem key_one {x y : List PV} (hx : wk KKy x = true) (hy : wk KKy y = true) (h : kyP 0 x = kyP 0 y) : x = y := by
  have h1 := congrArg Prod.fst h
  have h2 := congrArg Prod.snd h
  simp only [kyP] at h1 h2
  rw [ky_of hx, ky_of hy]
  unfold Ky.cs kyAt
  rw [h1, h2]

theorem uniq_sort {R : List (List PV)} (hR : rowsOk KKy R = true) : uniq eqK2 (insAll (ltOf cKy) R) = sortU R := by
  have hw : ∀ x ∈ R, wk KKy x = true := fun x hx => (rowsOk_get hR hx).1
  have hm : ∀ z, z ∈ insAll (ltOf cKy) R ↔ z ∈ R := fun z => mem_insAll _ z R
  obtain ⟨hk, _, hall⟩ := sortU_fold R [] ⟨List.Pairwise.nil, List.Pairwise.nil⟩
  have hk : KsOk (sortU R) := hk
  refine strict_one oKy ?_ ?_ ?_
  · exact uniq_strict oKy (fun x y h1 h2 => (eqK2_iff y x).2 (by
      have := kyC_zero (a := kyAt x 0) (b := kyAt y 0) (no_tie cKy_co h1 h2)
      exact Prod.ext this.1.symm this.2.symm)) _ (insAll_sorted oKy R)
  · have h1 := hk.srt
    rw [lt_rKy] at h1
    have h2 := List.pairwise_map.1 hk.once
    refine (h1.and h2).imp fun {a b} hab => ?_
    obtain ⟨h3, h4⟩ := hab
    cases hq : ltOf cKy a b with
    | true => rfl
    | false =>
      have := kyC_zero (a := kyAt a 0) (b := kyAt b 0) (no_tie cKy_co hq h3)
      exact absurd (Prod.ext this.1 this.2) h4
  · intro z
    rw [uniq_mem (fun x hx y hy h => key_one (hw x ((hm x).1 hx)) (hw y ((hm y).1 hy)) ((eqK2_iff x y).1 h)), hm]
    constructor
    · intro hz
      obtain ⟨y, hy, he⟩ := List.mem_map.1 (hall z hz)
      rcases sortU_mem R [] y hy with h | h
      · rw [← key_one (hw y h) (hw z hz) he]
        exact hy
      · cases h
    · intro hz
      rcases sortU_mem R [] z hz with h | h
      · exact h
      · cases h

end Go.Proofs.YtfpjlkkeelgffaaDoor.Am
end

/- Zeros behind rows; the first row that goes: plain. -/
section
set_option linter.unusedVariables false
set_option linter.unusedSimpArgs false
namespace Go.Proofs.YtfpjlkkeelgffaaDoor.Am
open St

theorem rep_cells (Z : List PV) : ∀ k, repCells Z k = (List.replicate k Z).flatten
  | 0 => rfl
  | k + 1 => by rw [repCells, rep_cells Z k, List.replicate_succ, List.flatten_cons]

theorem rep_len (Z : List PV) : ∀ k, (List.replicate k Z).flatten.length = k * Z.length
  | 0 => by simp
  | k + 1 => by rw [List.replicate_succ, List.flatten_cons, List.length_append, rep_len Z k, Nat.add_mul, Nat.one_mul, Nat.add_comm]

theorem rep_old {Z : List PV} (h : oldL 0 Z = true) : ∀ k, oldL 0 (List.replicate k Z).flatten = true
  | 0 => rfl
  | k + 1 => by rw [List.replicate_succ, List.flatten_cons, oldL_append, h, rep_old h k]; rfl

theorem splice_rest {K : List Kd} {S : List (List PV)} {Z : List PV} {w : Nat} (hS : rowsOk K S = true) (hz : Z.length = K.length) (hw : w ≤ S.length) :
    splice S.flatten (0 + w * K.length) (repCells Z (S.length - w)) = (S.take w ++ List.replicate (S.length - w) Z).flatten := by
  have l1 := rows_len hS
  have l2 := rep_len Z (S.length - w)
  have l3 := mul_split (e := K.length) hw
  rw [rep_cells, List.flatten_append]
  unfold splice
  rw [l2, hz, List.drop_of_length_le (by omega), List.append_nil, Nat.zero_add]
  have := flat_tk hS hw
  rw [List.drop_zero] at this
  rw [this]

/-- The first that goes, or none. -/
def idxN (good : List PV → Bool) : List (List PV) → Option Nat
  | [] => none
  | x :: R => bif !good x then some 0 else (idxN good R).map (· + 1)
def idxI (o : Option Nat) (i : Nat) : Int := match o with
  | some k => ((i + k : Nat) : Int)
  | none => -1

theorem idxI_succ (o : Option Nat) (i : Nat) : idxI (o.map (· + 1)) i = idxI o (i + 1) := by
  cases o with
  | none => rfl
  | some k => simp only [idxI, Option.map_some]; omega

def idxP (good : List PV → Bool) (R : List (List PV)) : Option Nat → Prop
  | none => R.filter good = R
  | some z => ∃ hz : z < R.length, (∀ (i : Nat) (hi : i < z), good (R[i]'(by omega)) = true) ∧ good R[z] = false

theorem idxN_ok (good : List PV → Bool) : ∀ R : List (List PV), idxP good R (idxN good R)
  | [] => rfl
  | x :: R => by
    have ih := idxN_ok good R
    unfold idxN
    cases hg : good x with
    | false =>
      rw [Bool.not_false, cond_true]
      exact ⟨by simp, fun i hi => by omega, by simpa using hg⟩
    | true =>
      rw [Bool.not_true, cond_false]
      cases hn : idxN good R with
      | none =>
        rw [hn] at ih
        show (x :: R).filter good = x :: R
        rw [List.filter_cons_of_pos hg, ih]
      | some z =>
        rw [hn] at ih
        obtain ⟨hz, h1, h2⟩ := ih
        show ∃ hz : z + 1 < (x :: R).length, _
        refine ⟨by simp; exact hz, fun i hi => ?_, by simpa using h2⟩
        cases i with
        | zero => simpa using hg
        | succ i =>
          have hi' : i + 1 < z + 1 := hi
          simpa using h1 i (by omega)

def sealAskW (c : List PV) (n w es : Nat) : List Bool := [n == n && (decide (0 + w * es ≤ c.length) && (decide (0 < es) && ((c.drop 0).take (w * es)).all PV.calm))]
def sealD (b : Bool) (c : List PV) (w es : Nat) : PV := bif b then .sl ((c.drop 0).take (w * es)) es w none else .sl [] es 0 none
theorem rowsOk_filter {K : List Kd} {R : List (List PV)} (h : rowsOk K R = true) (p : List PV → Bool) : rowsOk K (R.filter p) = true := rowsOk_mem h fun r hr => (List.mem_filter.1 hr).1

/-- Rows that stay in front of zeros. -/
def outC (n : Nat) (fl : List (List PV)) (Z : List PV) : List PV := (fl ++ List.replicate (n - fl.length) Z).flatten

theorem out_ok {K : List Kd} {Z : List PV} {fl : List (List PV)} {n : Nat} (h : rowsOk K fl = true) (hz : Z.length = K.length) (ho : oldL 0 Z = true) (hk : 0 < K.length) (hl : fl.length ≤ n) :
    oldL 0 (outC n fl Z) = true ∧ (sealAskW (outC n fl Z) n fl.length K.length).all id = true ∧ ((outC n fl Z).drop 0).take (fl.length * K.length) = fl.flatten := by
  have l1 := rows_len h
  have e : ((outC n fl Z).drop 0).take (fl.length * K.length) = fl.flatten := by
    unfold outC
    rw [List.drop_zero, List.flatten_append, ← l1, List.take_left]
  refine ⟨?_, ?_, e⟩
  · unfold outC
    rw [List.flatten_append, oldL_append, rows_old h, rep_old ho]
    rfl
  · unfold sealAskW
    rw [e]
    have : fl.length * K.length ≤ (outC n fl Z).length := by
      unfold outC
      rw [List.flatten_append, List.length_append, l1]
      omega
    simp only [beq_self_eq_true, Bool.true_and, List.all_cons, List.all_nil, id, Bool.and_true, Bool.and_eq_true, decide_eq_true_eq]
    exact ⟨by omega, hk, calm_old (rows_old h)⟩

theorem sealD_ok {K : List Kd} {Z : List PV} {R : List (List PV)} (p : List PV → Bool) {n : Nat} (h : rowsOk K R = true) (hl : R.length = n) (hz : Z.length = K.length) (ho : oldL 0 Z = true) (hk : 0 < K.length) :
    sealD (!Nat.beq n 0) (outC n (R.filter p) Z) (R.filter p).length K.length = .sl (R.filter p).flatten K.length (R.filter p).length none := by
  have hfl : (R.filter p).length ≤ n := hl ▸ List.length_filter_le p R
  have := (out_ok (Z := Z) (rowsOk_filter h p) hz ho hk hfl).2.2
  unfold sealD
  cases hb : Nat.beq n 0 with
  | true =>
    have hn := Nat.eq_of_beq_eq_true hb
    have hr : R = [] := List.eq_nil_of_length_eq_zero (by omega)
    rw [hr]
    rfl
  | false => rw [Bool.not_false, cond_true, this]

end Go.Proofs.YtfpjlkkeelgffaaDoor.Am
end

/- slices.Compact at keys: its walk and its answer. -/
section
set_option linter.unusedVariables false
set_option linter.unusedSimpArgs false
set_option maxRecDepth 100000
set_option maxHeartbeats 8000000
namespace Go.Proofs.YtfpjlkkeelgffaaDoor.Am
open St

def HCm : FuncId → Hint := fun f t => bif Nat.beq f 12 then (bif Nat.beq t 28 || (Nat.beq t 56 || Nat.beq t 59) then [some false] else []) else []
def slC (n : Nat) (k : Int) : List (Nat × PV) := [(0, .osl 0 n 0 2 n none), (2, .nils), (3, vI k), (6, .osl 0 n 0 2 n none), (7, vI n), (8, .bool false)]
noncomputable def LC (N m : Nat) (c : List PV) (n : Nat) (k : Int) : Option PV := loopSF EN T0 HCm N 5 1 12 Tryd.f12 [1, 1, 0, 1, 0] (patOf (sparse 61 0 (slC 0 0))) 1 m (sparse 61 0 (slC n k)) (obOf 2 n c)
noncomputable def recC (N : Nat) : RecS PV := recS EN T0 HCm N 5
noncomputable def cC (N : Nat) (c : Code) : Slots → Store → KC PV → Option PV := codeS EN T0 (recC N) (HCm 12) 0 N c
noncomputable def aC (N : Nat) (c : Code) (p : List Nat) (k : KC PV) : KC PV := afterS EN T0 (recC N) (HCm 12) 0 N c p k
noncomputable def contC (N : Nat) (pat : List Bool) (n0 : Nat) (body : Code) (q : Nat) (e : KC PV) : KC PV := fun o s1 σ1 => match o with
  | .norm => trimS EN 0 pat n0 s1 σ1 fun s2 σ2 => iterS EN 0 pat n0 (cC N body) q s2 σ2 e
  | .exit j => e (.exit j) s1 σ1
  | .ret => e .ret s1 σ1
  | .goto l => e (.goto l) s1 σ1
noncomputable def endC (N : Nat) : KC PV := aC N (bodyOf Tryd.f12) [1, 1, 0, 1, 0] (endK EN Tryd.f12 (lastF 1))
noncomputable def bodyC : Code := subC (bodyOf Tryd.f12) [1, 1, 0, 1, 0, 0]
noncomputable def patC : List Bool := patOf (sparse 61 0 (slC 0 0))
def slCi (n : Nat) (k : Int) (a1 b1 a2 b2 : List UInt8) (w j : Int) : List (Nat × PV) := [(0, .osl 0 n 0 2 n none), (2, .nils), (3, vI w), (4, .osl 0 n (0 + k.toNat * 2) 2 (n - k.toNat) none), (5, vI j), (6, .osl 0 n 0 2 n none), (7, vI n), (8, .bool false), (10, vI k), (11, .osl 0 n 0 2 n none), (12, vI n), (13, .bool true), (16, .osl 0 n 0 2 n none), (17, vI k), (18, .ptr 0 n (0 + k.toNat * 2)), (19, .agg [.str a1, .str b1]), (20, .osl 0 n 0 2 n none), (21, vI k), (22, vI (IntKind.i64.wrap (k - 1))), (23, .ptr 0 n (0 + (IntKind.i64.wrap (k - 1)).toNat * 2)), (24, .agg [.str a2, .str b2]), (25, .bool true), (26, .osl 0 n 0 2 n none), (27, vI k), (28, .osl 0 n (0 + k.toNat * 2) 2 (n - k.toNat) none)]
noncomputable def LCi (N m q : Nat) (c : List PV) (n : Nat) (k : Int) (a1 b1 a2 b2 : List UInt8) (w j : Int) : Option PV :=
  iterS EN 0 (patOf (sparse 61 0 (slCi 0 0 [] [] [] [] 0 0))) 1 (cC N (subC bodyC [1, 0, 0, 1, 0, 1, 0, 1, 0, 0])) q (sparse 61 0 (slCi n k a1 b1 a2 b2 w j)) (obOf 2 n c) (aC N bodyC [1, 0, 0, 1, 0, 1, 0, 1, 0] (contC N patC 1 bodyC m (endC N)))

def Zk : List PV := [.str [], .str []]
def cmA (c : List PV) (n u : Nat) : PV := .tup [.osl 0 n 0 2 u none, encS (obOf 2 n c)]
def finC (c : List PV) (n : Nat) (w : Int) : Option PV :=
  asks [n == n && decide (0 + n * 2 ≤ c.length), decide (0 ≤ w) && decide (w ≤ ((n - 0 : Nat) : Int)), !(decide (0 = w.toNat) && decide (0 < 0)), oldL 0 c] <| some (cmA c n (w.toNat - 0))
def exitC (c : List PV) (n : Nat) (w : Int) : Option PV :=
  asks [n == n && decide (0 + n * 2 ≤ c.length), decide (0 ≤ w) && decide (w ≤ (n : Int)), !(decide (w.toNat = n) && decide (0 < w.toNat))] <|
  bif decide (n - w.toNat = 0) then finC c n w
  else (asks [n == n && decide (0 + w.toNat * 2 + (repCells Zk (n - w.toNat)).length ≤ c.length)] <| finC (splice c (0 + w.toNat * 2) (repCells Zk (n - w.toNat))) n w)

theorem cm0 (N : Nat) (c : List PV) (n : Nat) : footSR EN T0 HCm N 5 12 [.osl 0 n 0 2 n none, encS (obOf 2 n c)] =
  (bif decide ((n : Int) < 2) then (asks [oldL 0 c] <| some (cmA c n n)) else LC N N c n 1) := by kernel_rfl

theorem cmO (N m : Nat) (c : List PV) (n : Nat) (k : Int) : LC N (m + 1) c n k =
  (bif decide (k < (n : Int)) then
    (asks [decide (0 ≤ k) && decide (k < (n : Int)), n == n, okAt KKy c (0 + k.toNat * 2), decide (0 ≤ IntKind.i64.wrap (k - 1)) && decide (IntKind.i64.wrap (k - 1) < (n : Int)), n == n, okAt KKy c (0 + (IntKind.i64.wrap (k - 1)).toNat * 2)] <|
    bif eqK2 (shapeAt KKy c (0 + k.toNat * 2)) (shapeAt KKy c (0 + (IntKind.i64.wrap (k - 1)).toNat * 2)) then
      (asks [n == n && decide (0 + n * 2 ≤ c.length), decide (0 ≤ k) && decide (k ≤ (n : Int)), !(decide (k.toNat = n) && decide (0 < k.toNat))] <|
      LCi N m N c n k (asS (c.getD (0 + k.toNat * 2) .nilp)) (asS (c.getD (0 + k.toNat * 2 + 1) .nilp)) (asS (c.getD (0 + (IntKind.i64.wrap (k - 1)).toNat * 2) .nilp)) (asS (c.getD (0 + (IntKind.i64.wrap (k - 1)).toNat * 2 + 1) .nilp)) k 1)
    else (asks [oldL 0 c] <| LC N m c n (IntKind.i64.wrap (k + 1))))
  else (asks [oldL 0 c] <| some (cmA c n n))) := by kernel_rfl

theorem cmI (N m q : Nat) (c : List PV) (n : Nat) (k : Int) (a1 b1 a2 b2 : List UInt8) (w j : Int) : LCi N m (q + 1) c n k a1 b1 a2 b2 w j =
  (bif decide (j < ((n - k.toNat : Nat) : Int)) then
    (asks [decide (0 ≤ j) && decide (j < ((n - k.toNat : Nat) : Int)), n == n, okAt KKy c (0 + k.toNat * 2 + j.toNat * 2), decide (0 ≤ IntKind.i64.wrap (j - 1)) && decide (IntKind.i64.wrap (j - 1) < ((n - k.toNat : Nat) : Int)), n == n, okAt KKy c (0 + k.toNat * 2 + (IntKind.i64.wrap (j - 1)).toNat * 2)] <|
    bif !(eqK2 (shapeAt KKy c (0 + k.toNat * 2 + j.toNat * 2)) (shapeAt KKy c (0 + k.toNat * 2 + (IntKind.i64.wrap (j - 1)).toNat * 2))) then
      (asks [decide (0 ≤ j) && decide (j < ((n - k.toNat : Nat) : Int)), n == n, okAt KKy c (0 + k.toNat * 2 + j.toNat * 2), decide (0 ≤ w) && decide (w < (n : Int)), n == n && (2 == 2 && (decide (0 + w.toNat * 2 + 2 ≤ c.length) && (shapeAt KKy c (0 + k.toNat * 2 + j.toNat * 2)).all PV.oneCell))] <|
      asks [oldL 0 (splice c (0 + w.toNat * 2) (shapeAt KKy c (0 + k.toNat * 2 + j.toNat * 2)))] <|
      LCi N m q (splice c (0 + w.toNat * 2) (shapeAt KKy c (0 + k.toNat * 2 + j.toNat * 2))) n k a1 b1 a2 b2 (IntKind.i64.wrap (w + 1)) (IntKind.i64.wrap (j + 1)))
    else (asks [oldL 0 c] <| LCi N m q c n k a1 b1 a2 b2 w (IntKind.i64.wrap (j + 1))))
  else exitC c n w) := by kernel_rfl

theorem i_loop {N m n z : Nat} {R : List (List PV)} {a1 b1 a2 b2 : List UInt8} (hl : R.length = n) (hn : n ≤ 1000000) (hz : z < n) : ∀ (r j w q : Nat) (S : List (List PV)), z + j + r = n → 1 ≤ j → rowsOk KKy S = true → Uq eqK2 R S w (z + j) →
    ∃ S' w', rowsOk KKy S' = true ∧ Uq eqK2 R S' w' R.length ∧ LCi N m (q + r + 1) S.flatten n (z : Int) a1 b1 a2 b2 (w : Int) (j : Int) = exitC S'.flatten n (w' : Int)
  | 0, j, w, q, S, h, h1, hS, hk => by
    have e : z + j = R.length := by omega
    rw [e] at hk
    refine ⟨S, w, hS, hk, ?_⟩
    rw [cmI, cond_f (show decide ((j : Int) < ((n - (z : Int).toNat : Nat) : Int)) = false from by simp; omega)]
  | r + 1, j, w, q, S, h, h1, hS, hk => by
    obtain ⟨i, rfl⟩ : ∃ i, j = i + 1 := ⟨j - 1, by omega⟩
    have hj : z + i + 1 < R.length := by omega
    have hj' : z + i + 1 < S.length := by rw [hk.len]; exact hj
    have hi' : z + i < S.length := by omega
    have hwj := hk.le
    have hw : w < S.length := by omega
    have pa := rows_at hS hj'
    have pb := rows_at hS hi'
    have hrow := rowsOk_get hS (List.getElem_mem hj')
    have ha : S[z + i + 1] = R[z + i + 1] := hk.at (by omega) hj
    have hb : S[z + i] = R[z + i] := hk.at (by omega) (by omega)
    have hin : (decide (0 ≤ ((i + 1 : Nat) : Int)) && decide (((i + 1 : Nat) : Int) < ((n - z : Nat) : Int))) = true := by simp; omega
    have hin' : (decide (0 ≤ ((i : Nat) : Int)) && decide (((i : Nat) : Int) < ((n - z : Nat) : Int))) = true := by simp; omega
    rw [show q + (r + 1) + 1 = (q + r + 1) + 1 from by omega, cmI]
    simp only [Int.toNat_natCast]
    rw [cond_t (show decide (((i + 1 : Nat) : Int) < ((n - z : Nat) : Int)) = true from by simp; omega), wrap_pred (by omega : i < 9223372036854775807)]
    simp only [Int.toNat_natCast]
    rw [show 0 + z * 2 + (i + 1) * 2 = 0 + (z + i + 1) * KKy.length from by show _ = 0 + (z + i + 1) * 2; omega, show 0 + z * 2 + i * 2 = 0 + (z + i) * KKy.length from by show _ = 0 + (z + i) * 2; omega, pa.2, pa.1, pb.2, pb.1, asks_of (cons_ok hin (cons_ok (by simp) (cons_ok rfl (cons_ok hin' (cons_ok (by simp) (cons_ok rfl rfl)))))), ha, hb]
    rw [ha] at hrow
    cases hg : eqK2 R[z + i + 1] R[z + i] with
    | false =>
      have hset : rowsOk KKy (S.set w R[z + i + 1]) = true := rowsOk_set hS w hrow.1 hrow.2
      have hfl := flat_len hS hw
      obtain ⟨S', w', r1, r2, r3⟩ := i_loop hl hn hz r (i + 2) (w + 1) q (S.set w R[z + i + 1]) (by omega) (by omega) hset (hk.in hj hg)
      refine ⟨S', w', r1, r2, ?_⟩
      rw [Bool.not_false, cond_true]
      rw [show (2 : Nat) = KKy.length from rfl, rows_splice hS hw (wk_len hrow.1), asks_of (cons_ok hin (cons_ok (by simp) (cons_ok rfl (cons_ok (inside (by omega : w < n)) (cons_ok (by
        simp only [hfl, wk_one hrow.1, beq_self_eq_true, decide_true, Bool.and_self]) rfl))))), asks_of (ask1 (rows_old hset)), wrap_succ (by omega : w < 9223372036854775807), wrap_succ (by omega : i + 1 < 9223372036854775807)]
      exact r3
    | true =>
      obtain ⟨S', w', r1, r2, r3⟩ := i_loop hl hn hz r (i + 2) w q S (by omega) (by omega) hS (hk.out hj hg)
      refine ⟨S', w', r1, r2, ?_⟩
      rw [Bool.not_true, cond_false, asks_of (ask1 (rows_old hS)), wrap_succ (by omega : i + 1 < 9223372036854775807)]
      exact r3

theorem exitC_ok {n w : Nat} {S : List (List PV)} (hS : rowsOk KKy S = true) (hl : S.length = n) (hw : w < n) :
    exitC S.flatten n (w : Int) = some (cmA (outC n (S.take w) Zk) n w) := by
  have hz : Zk.length = KKy.length := rfl
  have lS := rows_len hS
  rw [hl, show KKy.length = 2 from rfl] at lS
  have hsp := splice_rest hS hz (w := w) (by omega)
  rw [hl, show KKy.length = 2 from rfl] at hsp
  have ht : (S.take w).length = w := by rw [List.length_take]; omega
  have ho : outC n (S.take w) Zk = (S.take w ++ List.replicate (n - w) Zk).flatten := by unfold outC; rw [ht]
  have hlen : (S.take w ++ List.replicate (n - w) Zk).flatten.length = n * 2 := by
    rw [List.flatten_append, List.length_append, flat_tl hS (by omega), rep_len, hz, show KKy.length = 2 from rfl]
    exact mul_split (by omega)
  have hold : oldL 0 (S.take w ++ List.replicate (n - w) Zk).flatten = true := by rw [List.flatten_append, oldL_append, rows_old (rowsOk_take hS w), rep_old (by rfl)]; rfl
  unfold exitC
  rw [asks_of (cons_ok (by simp [lS]) (cons_ok (by simp; omega) (cons_ok (by simp; omega) rfl)))]
  simp only [Int.toNat_natCast]
  have lr : (repCells Zk (n - w)).length = (n - w) * 2 := by rw [rep_cells, rep_len]; rfl
  rw [cond_f (by simp; omega), hsp, asks_of (ask1 (by
    have := mul_split (e := 2) (show w ≤ n by omega)
    simp only [lr, lS, beq_self_eq_true, Bool.true_and, decide_eq_true_eq]
    omega))]
  unfold finC
  rw [asks_of (cons_ok (by simp only [hlen, beq_self_eq_true, Bool.true_and, decide_eq_true_eq]; omega) (cons_ok (by simp; omega) (cons_ok (by simp) (cons_ok hold rfl)))), ho]
  simp

theorem o_loop {N n : Nat} {R : List (List PV)} (hR : rowsOk KKy R = true) (hl : R.length = n) (hn : n ≤ 1000000) (hN : 1000002 ≤ N) : ∀ (r k q : Nat), k + r = n → 1 ≤ k → (∀ (i : Nat) (hi : i + 1 < k) (h : i + 1 < R.length), eqK2 R[i + 1] R[i] = false) →
    LC N (q + r + 1) R.flatten n (k : Int) = some (cmA (outC n (uniq eqK2 R) Zk) n (uniq eqK2 R).length)
  | 0, k, q, h, h1, hd => by
    have e : uniq eqK2 R = R := by
      have := uniq_same (eq := eqK2) (R := R) R.length (Nat.le_refl _) (fun i hi h => hd i (by omega) h)
      rwa [List.take_length] at this
    rw [cmO, cond_f (show decide ((k : Int) < (n : Int)) = false from by simp; omega), asks_of (ask1 (rows_old hR)), e, hl]
    have : outC n R Zk = R.flatten := by unfold outC; rw [hl]; simp
    rw [this]
  | r + 1, k, q, h, h1, hd => by
    obtain ⟨i, rfl⟩ : ∃ i, k = i + 1 := ⟨k - 1, by omega⟩
    have hk : i + 1 < R.length := by omega
    have pa := rows_at hR hk
    have pb := rows_at hR (show i < R.length by omega)
    rw [show q + (r + 1) + 1 = (q + r + 1) + 1 from by omega, cmO, cond_t (show decide (((i + 1 : Nat) : Int) < (n : Int)) = true from by simp; omega), wrap_pred (by omega : i < 9223372036854775807)]
    simp only [Int.toNat_natCast]
    rw [show 0 + (i + 1) * 2 = 0 + (i + 1) * KKy.length from rfl, show 0 + i * 2 = 0 + i * KKy.length from rfl, pa.2, pa.1, pb.2, pb.1, asks_of (cons_ok (inside (by omega : i + 1 < n)) (cons_ok (by simp) (cons_ok rfl (cons_ok (inside (by omega : i < n)) (cons_ok (by simp) (cons_ok rfl rfl))))))]
    have lR := rows_len hR
    rw [hl] at lR
    cases hg : eqK2 R[i + 1] R[i] with
    | true =>
      have hs := Uq.start (eq := eqK2) (R := R) (z := i + 1) (by omega) hk hd hg
      obtain ⟨S', w', s1, s2, s3⟩ := i_loop (N := N) (m := q + r + 1) (n := n) (z := i + 1) (a1 := asS (R.flatten.getD (0 + (i + 1) * KKy.length) .nilp)) (b1 := asS (R.flatten.getD (0 + (i + 1) * KKy.length + 1) .nilp)) (a2 := asS (R.flatten.getD (0 + i * KKy.length) .nilp)) (b2 := asS (R.flatten.getD (0 + i * KKy.length + 1) .nilp)) hl hn (by omega) (n - (i + 2)) 1 (i + 1) (N - 1 - (n - (i + 2))) R (by omega) (Nat.le_refl _) hR hs
      rw [show N - 1 - (n - (i + 2)) + (n - (i + 2)) + 1 = N from by omega] at s3
      rw [cond_true, asks_of (cons_ok (by simp [lR]; exact Nat.le_refl _) (cons_ok (by simp; omega) (cons_ok (by simp; omega) rfl)))]
      refine Eq.trans s3 ?_
      have hle := s2.le
      have hlS : S'.length = n := by rw [s2.len, hl]
      rw [exitC_ok s1 hlS (by omega), s2.done]
      have : (uniq eqK2 R).length = w' := by rw [← s2.done, List.length_take]; omega
      rw [this]
    | false =>
      rw [cond_false, asks_of (ask1 (rows_old hR)), wrap_succ (by omega : i + 1 < 9223372036854775807)]
      refine o_loop hR hl hn hN r (i + 2) q (by omega) (by omega) fun j hj hlt => ?_
      by_cases e : j = i
      · subst e; exact hg
      · exact hd j (by omega) hlt

def gCm (xs : List PV) : Option Tr := match xs with
  | [d, o] => match obIn 2 d o with
    | some (n, n1, n2, c) => some (.leaf ((n1 == n) && ((n2 == n) && rowsC KKy n c)) (cmA (outC n (uniq eqK2 (chunks 2 n c)) Zk) n (uniq eqK2 (chunks 2 n c)).length))
    | none => none
  | _ => none

theorem runCm (xs : List PV) (t : Tr) (v : PV) (h : gCm xs = some t) (hv : t.val = some v) : ∃ H, footSR EN T0 H 1000009 5 12 xs = some v := by
  unfold gCm at h
  split at h
  · rename_i d o
    split at h
    · rename_i n n1 n2 c ho
      cases h
      obtain ⟨hc, rfl⟩ := leaf_val hv
      simp only [Bool.and_eq_true] at hc
      obtain ⟨q1, q2, hr⟩ := hc
      obtain ⟨rfl, rfl⟩ := obIn_ok ho q1 q2
      obtain ⟨r1, r2, r3, r4⟩ := rowsC_ok hr
      rw [show KKy.length = 2 from rfl] at r2 r3 r4
      refine ⟨HCm, (cm0 1000009 c n).trans ?_⟩
      generalize hR : chunks 2 n c = R at *
      by_cases h2 : n < 2
      · have e : uniq eqK2 R = R := by
          have := uniq_same (eq := eqK2) (R := R) R.length (Nat.le_refl _) (fun i hi h => by omega)
          rwa [List.take_length] at this
        have : outC n R Zk = R.flatten := by unfold outC; rw [r4]; simp
        rw [cond_t (by simp; omega), e, this, r3, r4, asks_of (ask1 (by rw [← r3]; exact rows_old r2))]
      · rw [cond_f (by simp; omega), ← r3]
        have := o_loop (N := 1000009) r2 r4 r1 (by omega) (n - 1) 1 (1000008 - (n - 1)) (by omega) (Nat.le_refl _) (fun i hi => by omega)
        rw [show 1000008 - (n - 1) + (n - 1) + 1 = 1000009 from by omega] at this
        exact this
    · cases h
  · cases h

noncomputable def TCm : Table := TaddT T0 12 gCm
theorem TCmok : TR TCm := TR0.addF TR0 runCm

end Go.Proofs.YtfpjlkkeelgffaaDoor.Am
end

/- names.Sort: what it answers. -/
section
set_option linter.unusedVariables false
set_option linter.unusedSimpArgs false
set_option maxRecDepth 100000
set_option maxHeartbeats 4000000
namespace Go.Proofs.YtfpjlkkeelgffaaDoor.Am
open St

def srtK (c : List PV) (n : Nat) : List PV := (insAll (ltOf cKy) (chunks 2 n c)).flatten
def askSo (c : List PV) (n : Nat) : Bool := Nat.beq 0 0 && (Nat.beq 7 7 && (Nat.beq n n && (Nat.beq n n && (Nat.beq 2 KKy.length && (Nat.beq 2 KKy.length && (!false && (rowsC KKy n c && (chunks KKy.length n c).all (goodR KKy))))))))
def unqK (c : List PV) (n : Nat) : List (List PV) := uniq eqK2 (chunks 2 n c)

theorem s5 (N : Nat) (c : List PV) (n : Nat) : apartS EN TCm H0 (N + 50) 5 5 [.sl c 2 n none] =
  asks [decide (n ≤ 1048576) && c.all PV.oneCell] (bif decide (n = 0) then some (.sl [] 2 0 none) else
    asks [oldL 0 c] <| asks [askSo c n] <| asks [oldL 0 (srtK c n)] <| asks [oldL 0 (srtK c n)] <| asks [oldL 0 (srtK c n)] <| asks [n == n && (n == n && rowsC KKy n (srtK c n))] <|
    asks [oldL 0 (outC n (unqK (srtK c n) n) Zk)] <| asks (sealAskW (outC n (unqK (srtK c n) n) Zk) n (unqK (srtK c n) n).length 2) <|
    asks [oldL 0 (((outC n (unqK (srtK c n) n) Zk).drop 0).take ((unqK (srtK c n) n).length * 2))] <|
    some (.sl (((outC n (unqK (srtK c n) n) Zk).drop 0).take ((unqK (srtK c n) n).length * 2)) 2 (unqK (srtK c n) n).length none)) := by kernel_rfl

theorem wk_goodK {x : List PV} (h : wk KKy x = true) : goodR KKy x = true := by
  rw [ky_of h]
  rfl

theorem runSortP (xs : List PV) (v : PV) (h : gSortK xs = some (true, v)) : ∃ H, apartS EN TCm H 1000009 5 5 xs = some v := by
  unfold gSortK at h
  split at h
  · rename_i c e n
    simp only [Option.some.injEq, Prod.mk.injEq, Bool.and_eq_true] at h
    obtain ⟨⟨h1, h2⟩, rfl⟩ := h
    rw [Nat.eq_of_beq_eq_true h1]
    obtain ⟨r1, r2, r3, r4⟩ := rowsC_ok h2
    rw [show KKy.length = 2 from rfl] at r2 r3 r4
    refine ⟨H0, (s5 999959 c n).trans ?_⟩
    have hs := rows_insAll (lt := ltOf cKy) r2
    have hl : (insAll (ltOf cKy) (chunks 2 n c)).length = n := by rw [(insAll_perm (ltOf cKy) _).length_eq, r4]
    have hc : chunks 2 n (srtK c n) = insAll (ltOf cKy) (chunks 2 n c) := by
      have := chunks_of hs
      rw [hl] at this
      exact this
    have hu : unqK (srtK c n) n = sortU (chunks 2 n c) := by unfold unqK; rw [hc, uniq_sort r2]
    have hU := sortU_ok r2
    have hUl : (sortU (chunks 2 n c)).length ≤ n := by
      have := sortU_len (chunks 2 n c) []
      rw [r4] at this
      simpa [sortU] using this
    obtain ⟨o1, o2, o3⟩ := out_ok (Z := Zk) (n := n) hU rfl rfl (by decide) hUl
    rw [show KKy.length = 2 from rfl] at o2 o3
    have hso : oldL 0 (srtK c n) = true := rows_old hs
    have hco : oldL 0 c = true := by rw [← r3]; exact rows_old r2
    have hone : c.all PV.oneCell = true := by
      have := one_flat r2
      rwa [r3] at this
    have hask : askSo c n = true := by
      unfold askSo
      simp only [Nat.beq_refl, Bool.not_false, Bool.true_and, h2, show KKy.length = 2 from rfl]
      rw [List.all_eq_true]
      exact fun x hx => wk_goodK (rowsOk_get r2 hx).1
    have hrc : rowsC KKy n (srtK c n) = true := by
      have := rowsC_of hs (by omega)
      rwa [hl] at this
    rw [asks_of (ask1 (by rw [hone]; simp; omega)), hu]
    by_cases h0 : n = 0
    · rw [cond_t (by simp [h0])]
      have : sortU (chunks 2 n c) = [] := List.eq_nil_of_length_eq_zero (by omega)
      rw [this]
      rfl
    · rw [cond_f (by simp [h0]), asks_of (ask1 hco), asks_of (ask1 hask), asks_of (ask1 hso), asks_of (ask1 hso), asks_of (ask1 hso), asks_of (ask1 (by rw [hrc]; simp)), asks_of (ask1 o1), asks_of o2, o3, asks_of (ask1 (rows_old hU))]
  · cases h

noncomputable def TNp : Table := Tadd T0 5 gSortK
theorem TNpok : TR TNp := TR0.add TCmok runSortP

end Go.Proofs.YtfpjlkkeelgffaaDoor.Am
end

/- The law's table: both sorts, both comparisons, alive. -/
section
set_option linter.unusedVariables false
set_option linter.unusedSimpArgs false
set_option maxRecDepth 1000000
set_option maxHeartbeats 4000000
namespace Go.Proofs.YtfpjlkkeelgffaaDoor.Am
open St

def isTrue : Option PV → Bool
  | some (.bool true) => true
  | _ => false
theorem isTrue_eq {x : Option PV} (h : isTrue x = true) : x = some (.bool true) := by
  unfold isTrue at h
  split at h
  · rfl
  · cases h

theorem alive05 : apartA EN (runA EN 1000009 60) 4 [] = some (.bool true) := isTrue_eq (by kernel_rfl)

def gYes (xs : List PV) : Option (Bool × PV) := match xs with
  | [] => some (true, .bool true)
  | _ => none

theorem TR.yes {T : Table} (hT : TR T) : TR (Tadd T 4 gYes) := by
  obtain ⟨K, hT⟩ := hT
  refine ⟨K + 60, Tadd_of (hT.le (runA_le' _ (by omega))) (fun xs v hg => ?_) rfl⟩
  unfold gYes at hg
  split at hg
  · cases hg
    exact apartA_le (runA_le' _ (by omega)) alive05
  · cases hg

noncomputable def TL1 : Table := Tadd TKr 7 (gKy2 kyC)
noncomputable def TL2 : Table := Tadd TL1 4 gYes
noncomputable def TL3 : Table := Tadd TL2 5 gSortK
noncomputable def TL : Table := Tadd TL3 6 gSortK
theorem TLok : TR TL := ((TKrok.add TKp3ok (runKy (pKyC 1000009))).yes.add TCmok runSortP).add TKrok runSortK

end Go.Proofs.YtfpjlkkeelgffaaDoor.Am
end

/- The law: its walk, tree by tree. -/
section
set_option linter.unusedVariables false
set_option linter.unusedSimpArgs false
set_option maxRecDepth 1000000
set_option maxHeartbeats 8000000
namespace Go.Proofs.YtfpjlkkeelgffaaDoor.Am
open St

def slA (c : List PV) (n : Nat) (i : Int) : List (Nat × PV) := [(0, .sl c 2 n none), (2, .bool false), (11, .bool true), (12, .bool false), (13, .sl c 2 n none), (14, .int .i64 n), (15, .bool false), (16, .sl c 2 n none), (17, .int .i64 n), (18, .int .i64 i)]
noncomputable def LA (N m : Nat) (c : List PV) (n : Nat) (i : Int) : Option PV := loopS EN TL H0 N 5 3 Tryd.f3 [1, 1, 1, 0, 1, 0] (patOf (sparse 87 0 (slA [] 0 0))) 0 m (sparse 87 0 (slA c n i)) []
def slB (c : List PV) (n e : Nat) (i : Int) (s1 : List PV) (u1 : Nat) (s2 : List PV) (u2 : Nat) (j : Int) : List (Nat × PV) := [(0, .sl c 2 n none), (2, .bool false), (5, .osl 0 e 0 2 e none), (6, .sl s1 2 u1 none), (7, .sl s2 2 u2 none), (11, .bool true), (12, .bool false), (13, .sl c 2 n none), (14, .int .i64 n), (15, .bool false), (16, .sl c 2 n none), (17, .int .i64 n), (18, .int .i64 i), (19, .bool false), (33, .sl [] 2 0 (some 0)), (34, .sl c 2 n none), (35, .osl 0 e 0 2 e none), (36, .osl 0 e 0 2 e none), (37, .sl s1 2 u1 none), (38, .sl c 2 n none), (39, .sl s2 2 u2 none), (40, .sl s1 2 u1 none), (41, .int .i64 u1), (42, .sl s2 2 u2 none), (43, .int .i64 u2), (44, .bool false), (45, .sl s1 2 u1 none), (46, .int .i64 u1), (47, .int .i64 j)]
def obB (c : List PV) (e : Nat) : Store := [.mem ⟨c, 2, e, false, true, false⟩]
noncomputable def LB (N m : Nat) (c : List PV) (n e : Nat) (i : Int) (s1 : List PV) (u1 : Nat) (s2 : List PV) (u2 : Nat) (j : Int) : Option PV := loopS EN TL H0 N 5 3 Tryd.f3 [1, 1, 1, 1, 1, 1, 1, 0, 1, 0] (patOf (sparse 87 0 (slB [] 0 0 0 [] 0 [] 0 0))) 1 m (sparse 87 0 (slB c n e i s1 u1 s2 u2 j)) (obB c e)
def slC3 (c : List PV) (n e : Nat) (i : Int) (s1 : List PV) (u1 : Nat) (s2 : List PV) (u2 : Nat) (j q : Int) : List (Nat × PV) := slB c n e i s1 u1 s2 u2 j ++ [(48, .bool false), (60, .sl c 2 n none), (61, .int .i64 n), (62, .int .i64 q)]
noncomputable def LC3 (N m : Nat) (c : List PV) (n e : Nat) (i : Int) (s1 : List PV) (u1 : Nat) (s2 : List PV) (u2 : Nat) (j q : Int) : Option PV := loopS EN TL H0 N 5 3 Tryd.f3 [1, 1, 1, 1, 1, 1, 1, 1, 0, 1, 0] (patOf (sparse 87 0 (slC3 [] 0 0 0 [] 0 [] 0 0 0))) 1 m (sparse 87 0 (slC3 c n e i s1 u1 s2 u2 j q)) (obB c e)

def longK (c : List PV) (i : Int) : Bool := decide (((asS (c.getD (i.toNat * 2) .nilp)).length : Int) > 100)
def longK' (c : List PV) (i : Int) : Bool := decide (((asS (c.getD (i.toNat * 2 + 1) .nilp)).length : Int) > 100)
def eqC (c1 : List PV) (p : Nat) (c2 : List PV) (q : Nat) : Bool := asS (c1.getD p .nilp) == asS (c2.getD q .nilp) && (asS (c1.getD (p + 1) .nilp) == asS (c2.getD (q + 1) .nilp) && true)
/-- The rows of the list and of its copy, in order. -/
def sC (c : List PV) (n : Nat) : List (List PV) := sortU (chunks 2 n c)
def cpy (c : List PV) (e : Nat) : List PV := List.take (e * 2) (List.drop 0 (([] : List PV).append c))

theorem n0 (N : Nat) (c : List PV) (n : Nat) : apartS EN TL H0 N 5 3 [.sl c 2 n none] = (bif decide ((n : Int) > 40) then some (.bool true) else LA N N c n 0) := by kernel_rfl

theorem n00 (N : Nat) : apartS EN TL H0 (N + 50) 5 3 [.sl [] 2 0 none] = some (.bool true) := by kernel_rfl

theorem nA (N m : Nat) (c : List PV) (k : Nat) (i : Int) : LA N (m + 1) c (k + 1) i =
  (bif decide (i < ((k + 1 : Nat) : Int)) then
    (asks [decide (0 ≤ i) && decide (i < ((k + 1 : Nat) : Int)), okAt KKy c (i.toNat * 2)] <|
    bif longK c i then some (.bool true) else bif longK' c i then some (.bool true) else
    asks [oldL 0 c, oldL 0 c, oldL 0 c] <| LA N m c (k + 1) (IntKind.i64.wrap (i + 1)))
  else
    asks [c.length == (k + 1) * 2] <| asks [2 == 2 && (decide (0 < 0 + (k + 1)) && (decide (0 + (k + 1) ≤ 1048576) && ([] : List PV).all PV.oneCell)), 0 + (k + 1) == 0 + (k + 1) && (decide (0 + (0 + (k + 1)) * 2 ≤ (([] : List PV).append c).length) && (decide (0 < 2) && (cpy c (0 + (k + 1))).all PV.calm)), oldL 0 (cpy c (0 + (k + 1))), Nat.beq 2 2 && rowsC KKy (0 + (k + 1)) (cpy c (0 + (k + 1))), oldL 0 c, Nat.beq 2 2 && rowsC KKy (k + 1) c] <|
    bif ((sC (cpy c (0 + (k + 1))) (0 + (k + 1))).length : Int) != ((sC c (k + 1)).length : Int) then some (.bool false) else
    LB N N c (k + 1) (0 + (k + 1)) i (sC (cpy c (0 + (k + 1))) (0 + (k + 1))).flatten (sC (cpy c (0 + (k + 1))) (0 + (k + 1))).length (sC c (k + 1)).flatten (sC c (k + 1)).length 0) := by kernel_rfl

theorem nB (N m : Nat) (c : List PV) (n e : Nat) (i : Int) (s1 : List PV) (u1 : Nat) (s2 : List PV) (u2 : Nat) (j : Int) : LB N (m + 1) c n e i s1 u1 s2 u2 j =
  (bif decide (j < (u1 : Int)) then
    (asks [decide (0 ≤ j) && decide (j < (u1 : Int)), okAt KKy s1 (j.toNat * 2), decide (0 ≤ j) && decide (j < (u2 : Int)), okAt KKy s2 (j.toNat * 2)] <|
    bif !eqC s1 (j.toNat * 2) s2 (j.toNat * 2) then some (.bool false) else
    asks [oldL 1 c, oldL 1 s1, oldL 1 s2, oldL 1 c, oldL 1 c, oldL 1 c, oldL 1 s1, oldL 1 c, oldL 1 s2, oldL 1 s1, oldL 1 s2, oldL 1 s1, oldL 0 c] <|
    LB N m c n e i s1 u1 s2 u2 (IntKind.i64.wrap (j + 1)))
  else LC3 N N c n e i s1 u1 s2 u2 j 0) := by kernel_rfl

theorem nC (N m : Nat) (c : List PV) (n e : Nat) (i : Int) (s1 : List PV) (u1 : Nat) (s2 : List PV) (u2 : Nat) (j q : Int) : LC3 N (m + 1) c n e i s1 u1 s2 u2 j q =
  (bif decide (q < (n : Int)) then
    (asks [decide (0 ≤ q) && decide (q < (n : Int)), okAt KKy c (q.toNat * 2), decide (0 ≤ q) && decide (q < (e : Int)), e == e, okAt KKy c (0 + q.toNat * 2)] <|
    bif !eqC c (0 + q.toNat * 2) c (q.toNat * 2) then some (.bool false) else
    asks [decide ((0 : Int) ≤ 0) && decide ((0 : Int) < (n : Int)), okAt KKy c 0, decide ((0 : Int) ≤ 0) && decide ((0 : Int) < (n : Int)), okAt KKy c 0] <|
    bif kyC (kyAt c (q.toNat * 2)) (kyAt c 0) != kyR (kyAt c (q.toNat * 2)) (kyAt c 0) then some (.bool false) else
    asks [oldL 1 c, oldL 1 s1, oldL 1 s2, oldL 1 c, oldL 1 c, oldL 1 c, oldL 1 s1, oldL 1 c, oldL 1 s2, oldL 1 s1, oldL 1 s2, oldL 1 s1, oldL 1 c, oldL 0 c] <|
    LC3 N m c n e i s1 u1 s2 u2 j (IntKind.i64.wrap (q + 1)))
  else some (.bool true)) := by kernel_rfl

end Go.Proofs.YtfpjlkkeelgffaaDoor.Am
end

/- The law at every list of keys. -/
section
set_option linter.unusedVariables false
set_option linter.unusedSimpArgs false
set_option maxRecDepth 100000
set_option maxHeartbeats 4000000
namespace Go.Proofs.YtfpjlkkeelgffaaDoor.Am
open St

theorem eqC_self (c : List PV) (p : Nat) : eqC c p c p = true := by unfold eqC; simp

theorem all_old {l : List Bool} (h : ∀ b ∈ l, b = true) : l.all id = true := by simpa [List.all_eq_true] using h

theorem c_loop {N n : Nat} {R : List (List PV)} (hR : rowsOk KKy R = true) (hl : R.length = n) (hn : n ≤ 1000000) {s1 s2 : List PV} (h1 : oldL 1 s1 = true) (h2 : oldL 1 s2 = true) (i : Int) (u1 u2 : Nat) (j : Int) : ∀ (r q t : Nat), q + r = n →
    LC3 N (t + r + 1) R.flatten n n i s1 u1 s2 u2 j (q : Int) = some (.bool true)
  | 0, q, t, h => by
    rw [nC, cond_f (show decide ((q : Int) < (n : Int)) = false from by simp; omega)]
  | r + 1, q, t, h => by
    have hq : q < R.length := by omega
    have pq := rows_at hR hq
    have p0 := rows_at hR (show 0 < R.length by omega)
    have e2 : (2 : Nat) = KKy.length := rfl
    have ok1 : okAt KKy R.flatten (0 + q * 2) = true := pq.1
    have ok2 : okAt KKy R.flatten (q * 2) = true := by rw [Nat.zero_add] at ok1; exact ok1
    have ok0 : okAt KKy R.flatten 0 = true := by have := p0.1; simpa using this
    have o0 : oldL 0 R.flatten = true := rows_old hR
    have o1 : oldL 1 R.flatten = true := rows_oldn hR 1
    rw [show t + (r + 1) + 1 = (t + r + 1) + 1 from by omega, nC, cond_t (show decide ((q : Int) < (n : Int)) = true from by simp; omega)]
    simp only [Int.toNat_natCast]
    rw [asks_of (cons_ok (inside (by omega : q < n)) (cons_ok ok2 (cons_ok (inside (by omega : q < n)) (cons_ok (by simp) (cons_ok ok1 rfl))))), Nat.zero_add, eqC_self, Bool.not_true, cond_false, asks_of (cons_ok (by simp; omega) (cons_ok ok0 (cons_ok (by simp; omega) (cons_ok ok0 rfl)))),
      show kyC (kyAt R.flatten (q * 2)) (kyAt R.flatten 0) = kyR (kyAt R.flatten (q * 2)) (kyAt R.flatten 0) from ky_eq _ _, show (kyR (kyAt R.flatten (q * 2)) (kyAt R.flatten 0) != kyR (kyAt R.flatten (q * 2)) (kyAt R.flatten 0)) = false from by simp, cond_false,
      asks_of (all_old (by intro b hb; simp only [List.mem_cons, List.not_mem_nil, or_false] at hb; rcases hb with rfl|rfl|rfl|rfl|rfl|rfl|rfl|rfl|rfl|rfl|rfl|rfl|rfl|rfl <;> assumption)), wrap_succ (by omega : q < 9223372036854775807)]
    exact c_loop hR hl hn h1 h2 i u1 u2 j r (q + 1) t (by omega)

theorem b_loop {N n : Nat} {R S : List (List PV)} (hR : rowsOk KKy R = true) (hl : R.length = n) (hn : n ≤ 1000000) (hN : n < N) (hS : rowsOk KKy S = true) (hS1 : S.length ≤ n) (i : Int) : ∀ (r j t : Nat), j + r = S.length →
    LB N (t + r + 1) R.flatten n n i S.flatten S.length S.flatten S.length (j : Int) = some (.bool true)
  | 0, j, t, h => by
    rw [nB, cond_f (show decide ((j : Int) < (S.length : Int)) = false from by simp; omega)]
    have := c_loop (N := N) (i := i) (s1 := S.flatten) (s2 := S.flatten) hR hl hn (rows_oldn hS 1) (rows_oldn hS 1) S.length S.length (j : Int) n 0 (N - n - 1) (by omega)
    rw [show N - n - 1 + n + 1 = N from by omega] at this
    exact this
  | r + 1, j, t, h => by
    have hj : j < S.length := by omega
    have pj := rows_at hS hj
    have ok2 : okAt KKy S.flatten (j * 2) = true := by have := pj.1; rw [Nat.zero_add] at this; exact this
    have o0 : oldL 0 R.flatten = true := rows_old hR
    have o1 : oldL 1 R.flatten = true := rows_oldn hR 1
    have o2 : oldL 1 S.flatten = true := rows_oldn hS 1
    rw [show t + (r + 1) + 1 = (t + r + 1) + 1 from by omega, nB, cond_t (show decide ((j : Int) < (S.length : Int)) = true from by simp; omega)]
    simp only [Int.toNat_natCast]
    rw [asks_of (cons_ok (inside hj) (cons_ok ok2 (cons_ok (inside hj) (cons_ok ok2 rfl)))), eqC_self, Bool.not_true, cond_false,
      asks_of (all_old (by intro b hb; simp only [List.mem_cons, List.not_mem_nil, or_false] at hb; rcases hb with rfl|rfl|rfl|rfl|rfl|rfl|rfl|rfl|rfl|rfl|rfl|rfl|rfl <;> assumption)), wrap_succ (by omega : j < 9223372036854775807)]
    exact b_loop hR hl hn hN hS hS1 i r (j + 1) t (by omega)

theorem a_loop {N k : Nat} {R : List (List PV)} (hR : rowsOk KKy R = true) (hl : R.length = k + 1) (hn : k + 1 ≤ 1000000) (hN : 1000002 ≤ N) : ∀ (r i t : Nat), i + r = k + 1 →
    LA N (t + r + 1) R.flatten (k + 1) (i : Int) = some (.bool true)
  | 0, i, t, h => by
    have hc : cpy R.flatten (0 + (k + 1)) = R.flatten := by
      unfold cpy
      have l := rows_len hR
      rw [hl, show KKy.length = 2 from rfl] at l
      show List.take ((0 + (k + 1)) * 2) (List.drop 0 R.flatten) = _
      rw [List.drop_zero, Nat.zero_add, List.take_of_length_le (by omega)]
    have l := rows_len hR
    rw [hl, show KKy.length = 2 from rfl] at l
    have o0 : oldL 0 R.flatten = true := rows_old hR
    have hrc : rowsC KKy (k + 1) R.flatten = true := by have := rowsC_of hR (by omega); rwa [hl] at this
    have hch : chunks 2 (k + 1) R.flatten = R := by have := chunks_of hR; rwa [hl] at this
    have hsc : sC R.flatten (k + 1) = sortU R := by unfold sC; rw [hch]
    have hU := sortU_ok hR
    have hUl : (sortU R).length ≤ k + 1 := by
      have := sortU_len R []
      rw [hl] at this
      simpa [sortU] using this
    rw [nA, cond_f (show decide ((i : Int) < ((k + 1 : Nat) : Int)) = false from by simp; omega), hc, Nat.zero_add, asks_of (cons_ok (by rw [l]; simp) rfl), asks_of (cons_ok (by simp; omega) (cons_ok (by
        have hcalm : R.flatten.all PV.calm = true := calm_old o0
        show (k + 1 == k + 1 && (decide (0 + (k + 1) * 2 ≤ R.flatten.length) && (decide (0 < 2) && R.flatten.all PV.calm))) = true
        rw [hcalm, l]
        simp) (cons_ok o0 (cons_ok (by rw [hrc]; rfl) (cons_ok o0 (cons_ok (by rw [hrc]; rfl) rfl)))))), hsc,
      show (((sortU R).length : Int) != ((sortU R).length : Int)) = false from by simp, cond_false]
    have := b_loop (N := N) (i := (i : Int)) (n := k + 1) hR hl hn (by omega) hU hUl (sortU R).length 0 (N - (sortU R).length - 1) (by omega)
    rw [show N - (sortU R).length - 1 + (sortU R).length + 1 = N from by omega] at this
    exact this
  | r + 1, i, t, h => by
    have hi : i < R.length := by omega
    have pi := rows_at hR hi
    have ok2 : okAt KKy R.flatten (i * 2) = true := by have := pi.1; rw [Nat.zero_add] at this; exact this
    have o0 : oldL 0 R.flatten = true := rows_old hR
    have ih := a_loop hR hl hn hN r (i + 1) t (by omega)
    rw [show t + (r + 1) + 1 = (t + r + 1) + 1 from by omega, nA, cond_t (show decide ((i : Int) < ((k + 1 : Nat) : Int)) = true from by simp; omega)]
    rw [asks_of (cons_ok (inside (by omega : i < k + 1)) (cons_ok (by rw [Int.toNat_natCast]; exact ok2) rfl)), asks_of (cons_ok o0 (cons_ok o0 (cons_ok o0 rfl))), wrap_succ (by omega : i < 9223372036854775807), ih]
    cases longK R.flatten (i : Int) <;> cases longK' R.flatten (i : Int) <;> rfl

theorem holds (R : List (List PV)) (hR : rowsOk KKy R = true) : apartS EN TL H0 1000009 5 3 [.sl R.flatten 2 R.length none] = some (.bool true) := by
  cases R with
  | nil => exact n00 999959
  | cons x R =>
    rw [n0]
    cases hg : decide (((x :: R).length : Int) > 40) with
    | true => rfl
    | false =>
      have hk : (x :: R).length = R.length + 1 := rfl
      have hle : R.length + 1 ≤ 40 := by
        simp only [decide_eq_false_iff_not] at hg
        omega
      rw [cond_false, hk]
      have := a_loop (N := 1000009) hR hk (by omega) (by omega) (R.length + 1) 0 (1000008 - (R.length + 1)) (by omega)
      rw [show 1000008 - (R.length + 1) + (R.length + 1) + 1 = 1000009 from by omega] at this
      exact this

theorem law_true (R : List (List PV)) (hR : rowsOk KKy R = true) : ∃ n k, apartA EN (runA EN n k) 3 [.sl R.flatten 2 R.length none] = some (.bool true) := by
  obtain ⟨K, hT⟩ := TLok
  exact ⟨_, _, apartS_ok (K := K) (d := 5) hT rfl (holds R hR)⟩

end Go.Proofs.YtfpjlkkeelgffaaDoor.Am
end

/- From the interpreter's answer to the machine's, where no package variable is read. -/
section
set_option linter.unusedVariables false
set_option linter.unusedSimpArgs false
namespace Go.Proofs.YtfpjlkkeelgffaaDoor.Am

theorem errG_none (g : Nat) : errG g = none := rfl

theorem start_rel (W : World) : Rel EN 0 (fun b o => W.cell? ⟨b, o, none⟩) (fun _ => none) [] W := by
  refine ⟨fun b o v hv => hv, fun id l hl => (by cases hl), fun id l m hl => (by cases hl), fun i j li lj hi => (by cases hi), fun g cells hg => ?_, fun b hb => ?_, fun g g' t t' a e1 e2 e3 e4 => ?_⟩
  · rw [show EN.G g = none from errG_none g] at hg; cases hg
  · obtain ⟨g, t, a, e1, e2, rfl⟩ := hb
    rw [show EN.G g = none from errG_none g] at e1; cases e1
  · rw [show EN.G g = none from errG_none g] at e1; cases e1

theorem calls_of_apart {f : FuncId} {args : List PV} {vs : List Value} {p : PV} {w : World} {n k : Nat} (h : apartA EN (runA EN n k) f args = some p)
    (hr : Reps (fun b o => w.cell? ⟨b, o, none⟩) (fun _ => none) args vs) :
    Calls Tryd.prog f vs.toArray w fun e w' => ∃ r Γ ρ, e = .returned r ∧ Rep Γ ρ p r ∧ Go.RowKit.Below w.heap.size w w' := by
  obtain ⟨σ2, _, key⟩ := apartA_ok EN_ok (runA_ok EN_ok n k) h
  refine Calls.mono (key _ w vs (start_rel w) hr) fun e w' he => ?_
  obtain ⟨r, e1, Γ, ρ, h1, h2, h3⟩ := he
  exact ⟨r, Γ, ρ, e1, h1, h3.os, h3.tape, h3.output.out, h3.size, fun b hb => h3.frame b hb fun id l hl => by cases hl⟩

end Go.Proofs.YtfpjlkkeelgffaaDoor.Am
end
