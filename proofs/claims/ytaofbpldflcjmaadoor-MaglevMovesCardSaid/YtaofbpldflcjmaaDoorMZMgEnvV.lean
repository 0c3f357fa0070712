/- The environment of one row: errors by package variables, errors.Is by contract. -/
import Derived.Test.YtaofbpldflcjmaaDoorMMDk
import Derived.Test.YtaofbpldflcjmaaDoorMZRun3
set_option linter.unusedVariables false
set_option linter.unusedSimpArgs false
set_option maxRecDepth 100000
namespace Go.Proofs.YtaofbpldflcjmaaDoor.Am
def apartT (f : Nat) : Bool := match f with
  | 26 => true
  | 39 => true
  | 70 => true
  | 40 => true
  | 38 => true
  | 52 => true
  | 53 => true
  | 22 => true
  | 28 => true
  | 9 => true
  | 11 => true
  | 20 => true
  | 21 => true
  | 5 => true
  | 6 => true
  | 15 => true
  | 42 => true
  | 41 => true
  | 14 => true
  | 13 => true
  | 31 => true
  | 73 => true
  | 84 => true
  | 44 => true
  | 71 => true
  | 72 => true
  | 43 => true
  | 30 => true
  | 48 => true
  | 46 => true
  | 7 => true
  | 8 => true
  | 10 => true
  | 16 => true
  | 29 => true
  | 23 => true
  | _ => false
def cloneT (f : Nat) : Option Nat := match f with
  | 24 => some 18
  | _ => none
def sealT (f : Nat) : Bool := match f with
  | _ => false
def footK (f : Nat) : Bool := match f with
  | 25 => true
  | 27 => true
  | 18 => true
  | 17 => true
  | 19 => true
  | 45 => true
  | _ => false
def errGs : List Nat := [0, 1, 2, 3]
def pureT0 (f : Nat) (xs : List PV) : Option PV :=
  none
def pureT1 (f : Nat) (xs : List PV) : Option PV := pureT0 f xs
def pureT (f : Nat) (xs : List PV) : Option PV := pureT1 f xs
def primT (f : Nat) (xs : List PV) (σ : Store) (fl : Nat) : Option (Bool × PV × Store) := none
def errG (g : Nat) : Option (List PV) := bif memN g errGs then some [.iface 128 (.gptr g)] else none
def txnWordsC : List (List UInt8) := [[], [112, 117, 116, 45, 102, 114, 111, 110, 116], [100, 114, 111, 112, 45, 102, 114, 111, 110, 116], [112, 117, 116, 45, 103, 114, 111, 117, 112], [100, 114, 111, 112, 45, 103, 114, 111, 117, 112], [112, 117, 116, 45, 102, 105, 108, 116, 101, 114], [100, 114, 111, 112, 45, 102, 105, 108, 116, 101, 114]]
def fwdWordsC : List (List UInt8) := [[112, 97, 115, 115], [109, 97, 108, 102, 111, 114, 109, 101, 100], [102, 111, 114, 119, 97, 114, 100], [114, 101, 112, 108, 121], [102, 105, 108, 116, 101, 114, 101, 100], [114, 101, 106, 101, 99, 116, 101, 100], [102, 117, 108, 108]]
def rowG (g : Nat) : Option (List PV) := errG g
def plainL : List Nat := [
  34,
  36,
  ]
def sealK (f : Nat) : Option Nat := match f with
  | _ => none
def pureC (f : Nat) (xs : List PV) : Option PV := match sealK f with
  | some es => match xs with
    | [.sl c es' n none] => if es = es' /\ n <= 1048576 /\ c.length = n * es /\ 0 < es /\ c.all PV.oneCell = true /\ c.all PV.calm = true /\ oldL 0 c = true then some (.sl c es n none) else none
    | _ => none
  | none => pureT f xs
noncomputable def EG0 (G : Nat -> Option (List PV)) : Env := ⟨Tryd.prog, fun f => if f = 83 then some .compare else none, G,
  plainL, fun _ => false, apartT, kindsT, true, pureT, fun _ => none, fun _ => false, fun _ _ _ _ => none⟩
noncomputable def EG (G : Nat -> Option (List PV)) : Env := { EG0 G with seals := fun f => (cloneT f).isSome || sealT f, clone := cloneT, foot := footK, pure := pureC, prim := primT }
structure GOk (G : Nat -> Option (List PV)) : Prop where
  err : ∀ g, memN g errGs = true -> G g = errG g
  old : ∀ g cells, G g = some cells -> oldL 0 cells = true
theorem errG_at {g : Nat} (h : memN g errGs = true) : errG g = some [.iface 128 (.gptr g)] := by
  unfold errG
  rw [h]; rfl
theorem errG_ok : GOk errG := ⟨fun _ _ => rfl, fun g cells h => by
  unfold errG at h
  cases hb : memN g errGs <;> rw [hb] at h <;> simp at h
  subst h; rfl⟩
theorem rowG_ok : GOk rowG where
  err := fun g h => by
    unfold rowG
    rfl
  old := fun g cells h => by
    unfold rowG at h
    exact errG_ok.old g cells h
theorem pure_ok0 {G : Nat -> Option (List PV)} (hG : GOk G) {E : Env} (hEG : E.G = G) (hP : E.P = Tryd.prog) (f : FuncId) (args : List PV) (r : PV) (h : pureT0 f args = some r) : oldV 0 r = true /\ ∀ (Γ : Sealed) (w : World) (vs : List Value), Rel E 0 Γ (fun _ => none) [] w -> Reps Γ (fun _ => none) args vs ->
    Calls E.P f vs.toArray w fun e w' => ∃ v, e = .returned v /\ Moves E 0 Γ (fun _ => none) [] w r [] v w' := by
  unfold pureT0 at h
  cases h
theorem pure_ok1 {G : Nat -> Option (List PV)} (hG : GOk G) {E : Env} (hEG : E.G = G) (hP : E.P = Tryd.prog) (f : FuncId) (args : List PV) (r : PV) (h : pureT1 f args = some r) : oldV 0 r = true /\ ∀ (Γ : Sealed) (w : World) (vs : List Value), Rel E 0 Γ (fun _ => none) [] w -> Reps Γ (fun _ => none) args vs ->
    Calls E.P f vs.toArray w fun e w' => ∃ v, e = .returned v /\ Moves E 0 Γ (fun _ => none) [] w r [] v w' := by
  unfold pureT1 at h
  exact pure_ok0 hG hEG hP f args r h
theorem pure_ok {G : Nat -> Option (List PV)} (hG : GOk G) {E : Env} (hEG : E.G = G) (hP : E.P = Tryd.prog) (f : FuncId) (args : List PV) (r : PV) (h : pureT f args = some r) : oldV 0 r = true /\ ∀ (Γ : Sealed) (w : World) (vs : List Value), Rel E 0 Γ (fun _ => none) [] w -> Reps Γ (fun _ => none) args vs ->
    Calls E.P f vs.toArray w fun e w' => ∃ v, e = .returned v /\ Moves E 0 Γ (fun _ => none) [] w r [] v w' := by
  unfold pureT at h
  exact pure_ok1 hG hEG hP f args r h
theorem EG0_ok {G : Nat -> Option (List PV)} (hG : GOk G) : (EG0 G).Ok where
  plain := by
    intro t ht
    have hall : (plainL.all fun t => !Tryd.prog.stoodInHeld t && !Tryd.prog.eqGuardType Tryd.prog.depth t) = true := by kernel_rfl
    have hm : t ∈ plainL := by simpa [EG0] using ht
    have := List.all_eq_true.1 hall t hm
    simp only [Bool.and_eq_true, Bool.not_eq_true'] at this
    exact this
  ext := by
    intro f hf
    have : f = 83 := by
      by_cases h : f = 83
      . exact h
      . simp [EG0, h] at hf
    subst this
    exact ⟨Tryd.f83, Tryd.func83, by kernel_rfl, by kernel_rfl, by kernel_rfl, by kernel_rfl⟩
  mixed := by kernel_rfl
  glob := fun g cells h => hG.old g cells h
  pure := fun f xs r h => pure_ok hG rfl rfl f xs r h
  clone := fun f es h => by cases h
  prim := fun f args σ fl p σ' h => by cases h
structure CloneRuns (f es : Nat) : Prop where
  nil : ∀ (G : Nat -> Option (List PV)) (σ : Store) (fl : Nat), recS (EG0 G) T0 H0 50 3 f [.nils] σ fl (fun v σ => some (v, σ)) = some (.nils, σ)
  sln : ∀ (G : Nat -> Option (List PV)) (σ : Store) (fl : Nat), recS (EG0 G) T0 H0 50 3 f [.sln es] σ fl (fun v σ => some (v, σ)) = some (.sl [] es 0 (some 0), σ)
  some : ∀ (G : Nat -> Option (List PV)) (cells : List PV) (n : Nat) (xc : Option Nat) (σ : Store) (fl : Nat), cells.length = n * es -> n ≠ 0 -> n <= 1048576 -> cells.all PV.oneCell = true ->
    recS (EG0 G) T0 H0 50 3 f [.sl cells es n xc] σ fl (fun v σ => some (v, σ)) = some (.osl σ.length n 0 es n none, σ ++ [.mem ⟨cells, es, n, false, false, false⟩])
theorem Rel.cast {E E' : Env} (h : E.G = E'.G) {fl : Nat} {Γ : Sealed} {ρ : Ren} {σ : Store} {w : World} (r : Rel E fl Γ ρ σ w) : Rel E' fl Γ ρ σ w :=
  ⟨r.fix, r.mem, r.apart, r.inj, fun g cells hg => r.glob g cells (by rw [h]; exact hg), ⟨fun b hb => r.rock.stay b (by unfold Rock at *; rw [h]; exact hb), fun g g' t t' a h1 h2 => r.rock.uniq g g' t t' a (by rw [h]; exact h1) (by rw [h]; exact h2)⟩⟩
theorem clone_ok {G : Nat -> Option (List PV)} (hG : GOk G) {f es : Nat} (h : CloneRuns f es) (cells : List PV) (n : Nat) (xc : Option Nat) (fl : Nat) (Γ : Sealed) (ρ : Ren) (σ : Store) (w : World) (v : Value) (hR : Rel (EG G) fl Γ ρ σ w) (hfl : fl <= σ.length)
    (hv : Rep Γ ρ (.sl cells es n xc) v) (hn : n <= 1048576) (h1 : cells.all PV.oneCell = true) :
    Calls (EG G).P f #[v] w fun e w' => ∃ r, e = .returned r /\ Moves (EG G) fl Γ ρ σ w (cloneR cells es n σ).1 (cloneR cells es n σ).2 r w' := by
  have hR0 : Rel (EG0 G) fl Γ ρ σ w := Rel.cast (E := EG G) (E' := EG0 G) rfl hR
  have key : ∀ (x y : PV) (σ1 : Store), recS (EG0 G) T0 H0 50 3 f [x] σ fl (fun v σ => Option.some (v, σ)) = Option.some (y, σ1) -> Rep Γ ρ x v ->
      Calls (EG G).P f #[v] w fun e w' => ∃ r, e = .returned r /\ Moves (EG0 G) fl Γ ρ σ w y σ1 r w' := by
    intro x y σ1 hr hx
    obtain ⟨u, σ2, k1, k2⟩ := recS_ok (K := 0) (n := 50) (E := EG0 G) T0_ok 3 _ _ _ _ _ _ hr
    cases k2
    exact runA_ok (EG0_ok hG) 50 (0 + 3) f [x] σ fl y σ1 k1 hfl Γ ρ w [v] hR0 (.cons hx .nil)
  have back : ∀ {y : PV} {σ1 : Store} {r : Value} {w' : World}, Moves (EG0 G) fl Γ ρ σ w y σ1 r w' -> Moves (EG G) fl Γ ρ σ w y σ1 r w' := fun ⟨Γ', ρ', m1, m2, m3⟩ => ⟨Γ', ρ', m1, Rel.cast (E := EG0 G) (E' := EG G) rfl m2, m3⟩
  by_cases hn0 : n = 0
  . subst hn0
    have hc : cloneR cells es 0 σ = (.sl [] es 0 (some 0), σ) := by simp [cloneR]
    rw [hc]
    cases hv with
    | slNil hx =>
      refine (key .nils _ _ (h.nil G σ fl) .nils).mono fun e w' he => ?_
      obtain ⟨r, e1, Γ', ρ', m1, m2, m3⟩ := he
      cases m1
      exact ⟨_, e1, Γ', ρ', .slNil (fun c hc => by cases hc; rfl), Rel.cast (E := EG0 G) (E' := EG G) rfl m2, m3⟩
    | sl a cap vs hn hcap hx hh hr =>
      exact (key (.sln es) _ _ (h.sln G σ fl) (.sln a cap)).mono fun e w' ⟨r, e1, hm⟩ => ⟨r, e1, back hm⟩
  . have hc : cloneR cells es n σ = (.osl σ.length n 0 es n none, σ ++ [.mem ⟨cells, es, n, false, false, false⟩]) := by simp [cloneR, hn0]
    rw [hc]
    have hlen : cells.length = n * es := by
      cases hv with
      | slNil hx => exact absurd rfl hn0
      | sl a cap vs hn hcap hx hh hr => exact hn
    exact (key _ _ _ (h.some G cells n xc σ fl hlen hn0 hn h1) hv).mono fun e w' ⟨r, e1, hm⟩ => ⟨r, e1, back hm⟩
theorem tClonePoints (G : Nat -> Option (List PV)) (cells : List PV) (n : Nat) (xc : Option Nat) (σ : Store) (fl : Nat) : recS (EG0 G) T0 H0 50 3 24 [PV.sl cells 18 (n + 1) xc] σ fl (fun (v : PV) (σ : Store) => some (v, σ)) =
  (ass (cells.length == (n + 1) * 18) <|
  ass (18 == 18 && (decide (0 < 0 + (n + 1)) && (decide (0 + (n + 1) <= 1048576) && [].all PV.oneCell))) <|
    some ((PV.osl (List.length σ) (0 + (n + 1)) 0 18 (0 + (n + 1)) none, List.append σ [Ob.mem { cells := [].append cells, size := 18, len := 0 + (n + 1), exact := false, ice := false, box := false }]))) := by kernel_rfl
theorem clonePoints : CloneRuns 24 18 where
  nil := fun G σ fl => by kernel_rfl
  sln := fun G σ fl => by kernel_rfl
  some := fun G cells n xc σ fl hl hn hm hc => by
    obtain ⟨k, rfl⟩ : ∃ k, n = k + 1 := ⟨n - 1, by omega⟩
    rw [tClonePoints]
    have a1 : (cells.length == (k + 1) * 18) = true := by simp [hl]
    have a2 : (18 == 18 && (decide (0 < 0 + (k + 1)) && (decide (0 + (k + 1) <= 1048576) && ([] : List PV).all PV.oneCell))) = true := by simp; omega
    rw [a1, a2]
    simp only [ass_true, Nat.zero_add]
    rfl
theorem pureC_ok {G : Nat -> Option (List PV)} (hG : GOk G) (f : FuncId) (args : List PV) (r : PV) (h : pureC f args = some r) : oldV 0 r = true /\ ∀ (Γ : Sealed) (w : World) (vs : List Value), Rel (EG G) 0 Γ (fun _ => none) [] w -> Reps Γ (fun _ => none) args vs ->
    Calls (EG G).P f vs.toArray w fun e w' => ∃ v, e = .returned v /\ Moves (EG G) 0 Γ (fun _ => none) [] w r [] v w' := by
  unfold pureC at h
  split at h
  . rename_i es hk
    split at h
    . rename_i c es' n
      split at h
      . rename_i hc
        obtain ⟨rfl, hn, hl, he, h1, h2, h3⟩ := hc
        cases h
        refine ⟨by simpa only [oldV] using h3, fun Γ w vs hR hr => ?_⟩
        obtain ⟨v, ws, rfl, hv, hr⟩ := hr.inv_cons
        have := hr.inv_nil
        subst this
        have hrun : CloneRuns f es := by
          unfold sealK at hk
          split at hk
          . cases hk
        refine (clone_ok hG hrun c n none 0 Γ (fun _ => none) [] w v hR (Nat.le_refl _) hv hn h1).mono fun e w' he' => ?_
        obtain ⟨u, e1, hm⟩ := he'
        refine ⟨u, e1, ?_⟩
        obtain ⟨Γ1, ρ1, m1, m2, m3⟩ := hm
        by_cases h0 : n = 0
        . subst h0
          have hc0 : c = [] := List.eq_nil_of_length_eq_zero (by omega)
          subst hc0
          simp only [cloneR, if_true] at m1 m2 m3
          exact ⟨Γ1, ρ1, m1.weakC, m2, m3⟩
        . simp only [cloneR, if_neg h0, List.length_nil, List.nil_append] at m1 m2 m3
          have hs : sealV [Ob.mem ⟨c, es, n, false, false, false⟩] (PV.osl 0 n 0 es n none) = some (.sl c es n none, [Ob.mem ⟨c, es, n, false, true, false⟩]) := by
            have e1 : sealCells 4000 (freezeId [Ob.mem ⟨c, es, n, false, false, false⟩] 0) c = some (c, [Ob.mem ⟨c, es, n, false, true, false⟩]) := sealCells_calm 3999 _ _ h2
            have e2 : (c.drop 0).take (n * es) = c := by rw [List.drop_zero, <- hl, List.take_length]
            have e3 : sealCells 4001 [Ob.mem ⟨c, es, n, false, false, false⟩] [PV.osl 0 n 0 es n none] = some ([.sl c es n none], [Ob.mem ⟨c, es, n, false, true, false⟩]) := by
              rw [show (4001 : Nat) = 4000 + 1 from rfl, sealCells]
              rw [if_neg (by simp [PV.calm])]
              simp only [getMem, List.getElem?_cons_zero]
              rw [if_pos (by refine ⟨trivial, ?_, he⟩; omega), e2, e1]
              rfl
            simp only [sealV, sealList]
            rw [if_neg (by simp [PV.calm])]
            rw [show ([PV.osl 0 n 0 es n none] : List PV).length + 4000 = 4001 from rfl, e3]
          obtain ⟨Γ2, k1, k2, k3⟩ := sealV_ok m2 hs m1
          exact bare_ok hR ⟨Γ2, ρ1, k1, k2, m3.trans k3⟩ (by simpa only [oldV] using h3)
      . cases h
    . cases h
  . exact pure_ok hG rfl rfl f args r h
theorem EG_ok {G : Nat -> Option (List PV)} (hG : GOk G) : (EG G).Ok where
  plain := (EG0_ok hG).plain
  ext := (EG0_ok hG).ext
  mixed := (EG0_ok hG).mixed
  glob := fun g cells h => hG.old g cells h
  pure := fun f xs r h => pureC_ok hG f xs r h
  prim := fun f args σ fl p σ' h => by
    cases h
  clone := fun f es h => by
    have h' : cloneT f = some es := h
    unfold cloneT at h'
    split at h'
    . cases h'; exact clone_ok hG clonePoints
    . cases h'
end Go.Proofs.YtaofbpldflcjmaaDoor.Am
