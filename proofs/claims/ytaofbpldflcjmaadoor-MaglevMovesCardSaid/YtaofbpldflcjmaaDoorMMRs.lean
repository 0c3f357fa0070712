/- Slots; the operations of a region in the order of the text. -/
import Derived.Test.YtaofbpldflcjmaaDoorMMSt
import Derived.Test.YtaofbpldflcjmaaDoorMMAm
import Derived.Test.YtaofbpldflcjmaaDoorMZSymOk
set_option linter.unusedVariables false
set_option linter.unusedSimpArgs false
namespace Go.Proofs.YtaofbpldflcjmaaDoor.Am
section
section
variable {E : Env} {fl : Nat} {Γ : Sealed} {ρ : Ren} {σ : Store} {w : World}
def SlotsOk (Γ : Sealed) (ρ : Ren) (s : Slots) (a : Act) : Prop := a.tmps.size = s.length /\ ∀ (t : Nat) (v : PV), s[t]? = some (some v) -> ∃ u, a.tmps[t]? = some u /\ Rep Γ ρ v u
theorem SlotsOk.mono {Γ' ρ'} (hle : Le Γ ρ Γ' ρ') {s : Slots} {a : Act} (h : SlotsOk Γ ρ s a) : SlotsOk Γ' ρ' s a :=
  ⟨h.1, fun t v ht => let ⟨u, h1, h2⟩ := h.2 t v ht; ⟨u, h1, h2.mono hle⟩⟩
theorem SlotsOk.env {s : Slots} {a : Act} (h : SlotsOk Γ ρ s a) : EnvOk Γ ρ (evalA s) a := by
  intro x p hx
  cases x with
  | tmp t =>
    simp only [evalA] at hx
    split at hx
    . rename_i v hv
      cases hx
      obtain ⟨u, h1, h2⟩ := h.2 t _ hv
      simpa [Act.eval, h1] using h2
    . cases hx
  | const v => exact (ofConst_rep hx).1
  | global g => cases hx; exact .glob g 0
  | func f => cases hx; exact .fn (.func f) (vs := #[]) (us := #[]) rfl rfl (fun j x v hx => by simp at hx) (fun j x v hx => by simp at hx)
theorem SlotsOk.put {s : Slots} {a : Act} (h : SlotsOk Γ ρ s a) {p : PV} {r : Value} (hr : Rep Γ ρ p r) (dst : Option Tmp) : SlotsOk Γ ρ (putA s dst p) (a.put dst r) := by
  cases dst with
  | none => exact h
  | some d =>
    refine ⟨by simp [putA, Act.put, h.1], fun t v ht => ?_⟩
    simp only [putA] at ht
    simp only [Act.put]
    by_cases hd : d = t
    . subst hd
      have hlt : d < s.length := by
        have := (List.getElem?_eq_some_iff.1 ht).1
        simpa using this
      rw [List.getElem?_set_self hlt] at ht
      cases ht
      exact ⟨r, by simp [h.1, hlt], hr⟩
    . rw [List.getElem?_set_ne hd] at ht
      obtain ⟨u, h1, h2⟩ := h.2 t v ht
      exact ⟨u, by rw [Array.getElem?_setIfInBounds_ne hd]; exact h1, h2⟩
theorem wantedA_ok {ops : Array Oper} {s : Slots} {a : Act} {o : Oper} {b : Bool} (h : wantedA ops s o = some b) (hs : SlotsOk Γ ρ s a) : Region.wanted o (yielded ops a.tmps) = b := by
  unfold wantedA at h
  unfold Region.wanted
  split at h
  . rename_i hg; cases h; simp [hg]
  . rename_i j want hg
    simp only [hg]
    split at h
    . rename_i d hd
      split at h
      . rename_i b' hb'
        cases h
        obtain ⟨u, h1, h2⟩ := hs.2 d _ hb'
        cases h2
        simp [yielded, hd, h1]
      . rename_i vs hb'
        cases h
        obtain ⟨u, h1, h2⟩ := hs.2 d _ hb'
        cases h2
        simp [yielded, hd, h1]
      . cases h
    . cases h
theorem rep_undef : Rep Γ ρ (.tup []) undef := .tup (vs := #[]) rfl (fun j x v hx => by simp at hx)
theorem maskGo_get (ls : List Tmp) : ∀ (s : Slots) (i j : Nat) (v : PV), (maskGo ls s i)[j]? = some (some v) ↔ (s[j]? = some (some v) /\ i + j ∈ ls)
  | [], i, j, v => by simp [maskGo]
  | x :: s, i, 0, v => by
    simp only [maskGo, List.getElem?_cons_zero, Option.some.injEq, Nat.add_zero]
    by_cases h : i ∈ ls <;> simp [h]
  | x :: s, i, j + 1, v => by
    have := maskGo_get ls s (i + 1) j v
    simp only [maskGo, List.getElem?_cons_succ]
    rw [this, show i + 1 + j = i + (j + 1) by omega]
theorem maskGo_length (ls : List Tmp) : ∀ (s : Slots) (i : Nat), (maskGo ls s i).length = s.length
  | [], i => rfl
  | x :: s, i => by simp [maskGo, maskGo_length ls s]
theorem maskS_get {ls : List Tmp} {s : Slots} {j : Nat} {v : PV} : (maskS ls s)[j]? = some (some v) ↔ (s[j]? = some (some v) /\ j ∈ ls) := by
  unfold maskS
  rw [maskGo_get, Nat.zero_add]
theorem maskS_length (ls : List Tmp) (s : Slots) : (maskS ls s).length = s.length := maskGo_length ls s 0
theorem SlotsOk.mask {s : Slots} {a : Act} (h : SlotsOk Γ ρ s a) (ls : List Tmp) : SlotsOk Γ ρ (maskS ls s) a :=
  ⟨by rw [maskS_length]; exact h.1, fun t v ht => h.2 t v (maskS_get.1 ht).1⟩
theorem opsA_ok (hE : E.Ok) {rec : Rec} (hrec : SoundRec E rec) {ops : Array Oper} {tight : List Bool} {Q : Exit -> Act -> World -> Prop} : ∀ (rest : List Oper) (i : Nat) {s s' : Slots} {σ σ' : Store} {Γ : Sealed} {ρ : Ren} {a : Act} {w : World},
    opsA E rec fl ops tight rest i s σ = some (s', σ') -> (∀ j, j < ops.size -> tight.getD j true = false) -> rest = ops.toList.drop i -> Rel E fl Γ ρ σ w -> fl <= σ.length -> SlotsOk Γ ρ s a ->
    (∀ a' w' Γ' ρ', SlotsOk Γ' ρ' s' a' -> a'.defers = a.defers -> Rel E fl Γ' ρ' σ' w' -> Post fl Γ ρ σ w Γ' ρ' σ' w' -> Q .normal a' w') -> wpOps E.P ops Q (List.range' i rest.length) a w
  | [], i, s, s', σ, σ', Γ, ρ, a, w, h, _, _, hR, hfl, hs, hQ => by
    cases h
    exact hQ a w Γ ρ hs rfl hR (.refl _ _ _ _ _)
  | o :: rest, i, s, s', σ, σ', Γ, ρ, a, w, h, ht, hrest, hR, hfl, hs, hQ => by
    have hoi : ops[i]? = some o := by
      have h1 : (ops.toList.drop i)[0]? = some o := by rw [<- hrest]; rfl
      simpa using h1
    have hlt : i < ops.size := (Array.getElem?_eq_some_iff.1 hoi).1
    have hrest' : rest = ops.toList.drop (i + 1) := by
      have : (o :: rest).tail = (ops.toList.drop i).tail := by rw [hrest]
      simpa [List.tail_drop] using this
    unfold opsA at h
    simp only [List.length_cons, List.range'_succ]
    rw [wpOps_cons]
    unfold wpOp
    simp only [hoi]
    split at h
    . rename_i hw
      rw [wantedA_ok hw (hs.mask _)]
      simp only [if_true]
      split at h
      . rename_i v σ1 hst
        rw [ht i hlt] at hst
        refine .inl (stepA_ok hE hrec hR hfl (hs.mask _).env hst _ _ fun r w' hm => ?_)
        obtain ⟨Γ1, ρ1, hr1, hR1, hp1⟩ := hm
        refine opsA_ok hE hrec rest (i + 1) h ht hrest' hR1 (Nat.le_trans hfl hp1.len) ((hs.mono hp1.le).put hr1 o.dst) fun a' w' Γ' ρ' k1 k2 k3 k4 => ?_
        exact hQ a' w' Γ' ρ' k1 (k2.trans (by cases o.dst <;> rfl)) k3 (hp1.trans k4)
      . cases h
    . rename_i hw
      rw [wantedA_ok hw (hs.mask _)]
      simp only [Bool.false_eq_true, if_false]
      refine opsA_ok hE hrec rest (i + 1) h ht hrest' hR hfl (hs.put rep_undef o.dst) fun a' w' Γ' ρ' k1 k2 k3 k4 => ?_
      exact hQ a' w' Γ' ρ' k1 (k2.trans (by cases o.dst <;> rfl)) k3 k4
    . cases h
end
end
section
def RecS.Ok {R : Type} (recS : RecS R) (rec : Rec) : Prop := ∀ f args σ fl k r, recS f args σ fl k = some r -> ∃ v σ1, rec f args σ fl = some (v, σ1) /\ k v σ1 = some r
def TOk (E : Env) (T : Table) (rec : Rec) : Prop := ∀ f as t v, T f as = some t -> t.val = some v -> (E.apart f = true -> apartA E rec f as = some v) /\ (E.foot f = true -> footP rec f as = some v)
theorem decE_enc : ∀ {xs : List PV} {es : List (PV × PV)}, decE xs = some es -> xs = encE es
  | [], es, h => by cases h; rfl
  | [_], es, h => by cases h
  | k :: v :: xs, es, h => by
    simp only [decE, Option.map_eq_some_iff] at h
    obtain ⟨es', h1, rfl⟩ := h
    simp only [encE]
    rw [<- decE_enc h1]
theorem decN_enc : ∀ {xs : List PV} {ns : List Nat}, decN xs = some ns -> xs = encN ns
  | [], ns, h => by cases h; rfl
  | x :: xs, ns, h => by
    cases x <;> simp only [decN, reduceCtorEq] at h
    simp only [Option.map_eq_some_iff] at h
    obtain ⟨ns', h1, rfl⟩ := h
    simp only [encN]
    rw [<- decN_enc h1]
theorem decE_of : ∀ (es : List (PV × PV)), decE (encE es) = some es
  | [] => rfl
  | (k, v) :: es => by simp [encE, decE, decE_of es]
theorem decN_of : ∀ (ns : List Nat), decN (encN ns) = some ns
  | [] => rfl
  | n :: ns => by simp [encN, decN, decN_of ns]
theorem decOb_enc {x : PV} {o : Ob} (h : decOb x = some o) : x = encOb o := by
  unfold decOb at h
  split at h
  . cases h; rfl
  . split at h
    . rename_i es bs h1 h2
      cases h
      simp only [encOb]
      rw [<- decE_enc h1, <- decN_enc h2]
    . cases h
  . cases h
theorem decL_enc : ∀ {xs : List PV} {σ : Store}, decL xs = some σ -> xs = encL σ
  | [], σ, h => by cases h; rfl
  | x :: xs, σ, h => by
    simp only [decL] at h
    split at h
    . rename_i o ho
      split at h
      . rename_i σ1 h1
        cases h
        simp only [encL]
        rw [<- decOb_enc ho, <- decL_enc h1]
      . cases h
    . cases h
theorem decS_enc {x : PV} {σ : Store} (h : decS x = some σ) : x = encS σ := by
  unfold decS at h
  split at h
  . simp only [encS]; rw [<- decL_enc h]
  . cases h
theorem encL_inj : ∀ {σ σ' : Store}, decL (encL σ) = some σ' -> σ' = σ
  | [], σ', h => by cases h; rfl
  | .mem m :: σ, σ', h => by
    simp only [encL, encOb, decL, decOb] at h
    split at h
    . rename_i σ1 h1
      cases h
      rw [encL_inj h1]
    . cases h
  | .map m :: σ, σ', h => by
    simp only [encL, encOb, decL] at h
    split at h
    . rename_i o ho
      split at h
      . rename_i σ1 h1
        cases h
        rw [encL_inj h1]
        cases hi : m.iter with
        | none =>
          simp only [hi, decOb, decE_of, decN_of, Option.some.injEq] at ho
          subst ho
          cases m
          simp only at hi
          subst hi
          rfl
        | some q => simp [hi, decOb] at ho
      . cases h
    . cases h
theorem splitLast_snoc : ∀ (as : List PV) (e : PV), splitLast (as ++ [e]) = some (as, e)
  | [], e => rfl
  | [a], e => rfl
  | a :: b :: as, e => by
    have := splitLast_snoc (b :: as) e
    simp only [List.cons_append] at this ⊢
    simp only [splitLast, this]
theorem renStore_dec {n : Nat} {L : List Nat} : ∀ {os σ : Store}, renStore n L os = some σ -> decL (encL σ) = some σ
  | [], σ, h => by cases h; rfl
  | o :: os, σ, h => by
    simp only [renStore] at h
    split at h
    . rename_i o1 os1 h1 h2
      cases h
      have h3 := renStore_dec h2
      cases o with
      | mem m =>
        obtain ⟨m1, rfl, _⟩ := renOb_ice h1
        simp only [encL, encOb, decL, decOb, h3]
      | map m =>
        simp only [renOb] at h1
        split at h1
        . rename_i hc
          cases h1
          simp only [Bool.and_eq_true, Option.isNone_iff_eq_none] at hc
          simp only [encL, encOb, hc.1, decL, decOb, decE_of, decN_of, h3]
          congr 2
          cases m
          simp only at hc
          rw [hc.1]
        . cases h1
    . cases h
theorem Tr.run_some {R : Type} {k : PV -> Option R} {r : R} : ∀ {t : Tr}, t.run k = some r -> ∃ v, t.val = some v /\ k v = some r
  | .leaf true v, h => ⟨v, rfl, h⟩
  | .leaf false v, h => by cases h
  | .br true a b, h => Tr.run_some (t := a) h
  | .br false a b, h => Tr.run_some (t := b) h
section
variable {E : Env} {T : Table} {H : FuncId -> Hint} {h0 : Hint} {hs : List (Option Bool)} {R : Type} {recS : RecS R} {rec : Rec} {r : R}
theorem footTS_ok {n : Nat} {v : PV} {σ1 : Store} {k : PV -> Store -> Option R} (h : footTS n v σ1 k = some r) : ∃ v2 σ2, n <= σ1.length /\ footT n v σ1 = some (v2, σ2) /\ k v2 σ2 = some r := by
  unfold footTS at h
  split at h
  . rename_i hb
    rw [forceL_eq] at h
    split at h
    . rename_i os hos
      obtain ⟨v2, h1, h⟩ := renVS_ok h
      obtain ⟨σ2, h2, h⟩ := renStoreS_ok h
      refine ⟨v2, σ2, Nat.le_of_ble_eq_true hb, ?_, h⟩
      unfold footT
      simp only [hos, h1, h2]
    . cases h
  . cases h
theorem backS_ok {σ : Store} {L : List Nat} {v : PV} {σ2 : Store} {k : PV -> Store -> Option R} (h : backS σ L v σ2 k = some r) :
    ∃ p σ3, renV 0 (backL L σ.length L.length (σ2.length - L.length)) v = some p /\ renStore 0 (backL L σ.length L.length (σ2.length - L.length)) σ2 = some σ3 /\ k p (setAll σ L σ3) = some r := by
  unfold backS at h
  rw [forceL_eq] at h
  obtain ⟨p, h1, h⟩ := renVS_ok h
  obtain ⟨σ3, h2, h⟩ := renStoreS_ok h
  exact ⟨p, σ3, h1, h2, h⟩
theorem unpackS_ok {a : PV} {k : PV -> Store -> Option R} (h : unpackS a k = some r) : ∃ v σ2, a = .tup [v, encS σ2] /\ decL (encL σ2) = some σ2 /\ k v σ2 = some r := by
  unfold unpackS at h
  split at h
  . rename_i v e
    split at h
    . rename_i σ2 hd
      have := decS_enc hd
      subst this
      exact ⟨v, σ2, rfl, hd, h⟩
    . cases h
  . cases h
theorem footS_ok (hT : TOk E T rec) (hrec : RecS.Ok recS rec) {fl : Nat} {σ : Store} {f : FuncId} {args : List PV} {k : PV -> Store -> Option R} (hf : E.foot f = true) (h : footS T recS fl σ f args k = some r) :
    ∃ v σ1, footA rec fl σ f args = some (v, σ1) /\ k v σ1 = some r := by
  unfold footS at h
  unfold footA
  rw [forceL_eq] at h
  revert h
  generalize reach σ args = L
  intro h
  split at h
  . rename_i hg
    rw [if_pos hg]
    split at h
    . rename_i os hos
      obtain ⟨as, h1, h⟩ := renLS_ok h
      obtain ⟨σs, h2, h⟩ := renStoreS_ok h
      have hfin : ∀ {v : PV} {σ2 : Store}, footR rec f as σs = some (v, σ2) -> backS σ L v σ2 k = some r -> ∃ p σ1, (match pickObs σ L with
          | some os => match renL 0 L args, renStore 0 L os with
            | some as, some σs => match footR rec f as σs with
              | some (v, σ2) => match renV 0 (backL L σ.length L.length (σ2.length - L.length)) v, renStore 0 (backL L σ.length L.length (σ2.length - L.length)) σ2 with
                | some p, some σ3 => some (p, setAll σ L σ3)
                | _, _ => none
              | none => none
            | _, _ => none
          | none => none) = some (p, σ1) /\ k p σ1 = some r := by
        intro v σ2 hR hB
        obtain ⟨p, σ3, e1, e2, e3⟩ := backS_ok hB
        exact ⟨p, _, by simp only [hos, h1, h2, hR, e1, e2], e3⟩
      split at h
      . rename_i t ht
        obtain ⟨a, g2, h⟩ := Tr.run_some h
        obtain ⟨v, σ2, rfl, hd, h⟩ := unpackS_ok h
        have hp := (hT _ _ _ _ ht g2).2 hf
        unfold footP at hp
        rw [splitLast_snoc] at hp
        simp only [encS, decS, renStore_dec h2] at hp
        split at hp
        . rename_i v' σ2' hR
          simp only [Option.some.injEq, PV.tup.injEq, List.cons.injEq, and_true] at hp
          obtain ⟨rfl, e2⟩ := hp
          rw [<- e2] at hd
          have := encL_inj hd
          subst this
          exact hfin hR h
        . cases hp
      . obtain ⟨v, σ1, e1, h⟩ := hrec _ _ _ _ _ _ h
        obtain ⟨v2, σ2, e2, e3, h⟩ := footTS_ok h
        refine hfin ?_ h
        unfold footR
        simp only [e1, if_pos e2, e3]
    . cases h
  . cases h
theorem callS_ok (hT : TOk E T rec) (hrec : RecS.Ok recS rec) {fl : Nat} {σ : Store} {f : FuncId} {args : List PV} {k : PV -> Store -> Option R} (h : callS E T recS hs fl σ f args k = some r) :
    ∃ v σ1, callA E rec fl σ f args = some (v, σ1) /\ k v σ1 = some r := by
  unfold callS at h
  unfold callA
  split at h
  . rename_i x hx
    obtain ⟨v, h1, h2⟩ := then1_some h
    exact ⟨v, σ, by simp [hx, h1], h2⟩
  . rename_i hx
    simp only [hx]
    split at h
    . rename_i fn hfn
      simp only [hfn]
      split at h
      . cases h
      . rename_i hn
        rw [if_neg hn]
        split at h
        . rename_i hap
          rw [if_pos hap]
          obtain ⟨as, σ1, h1, h⟩ := sealPAS_ok _ _ _ h
          simp only at h
          split at h
          . rename_i t hv
            obtain ⟨g1, h⟩ := oldLS_ok h
            obtain ⟨v, g2, h⟩ := Tr.run_some h
            refine ⟨v, pickS (E.seals f) v σ σ1, ?_, h⟩
            simp only [h1, if_pos g1, (hT _ _ _ _ hv g2).1 hap]
            rfl
          . cases h
        . rename_i hap
          rw [if_neg (by simp [hap])]
          split at h
          . rename_i hft
            rw [if_pos hft]
            exact footS_ok hT hrec hft h
          . rename_i hft
            rw [if_neg (by simp [hft])]
            split at h
            . rename_i hs
              rw [if_pos hs]
              obtain ⟨as, σ1, h1, h⟩ := sealArgsS_ok _ _ _ h
              split at h
              . rename_i es hes
                split at h
                . rename_i cells es' n xc
                  split at h
                  . rename_i hb
                    have hb := Nat.eq_of_beq_eq_true hb
                    obtain ⟨g, h⟩ := ass_some h
                    simp only [Bool.and_eq_true, decide_eq_true_eq] at g
                    have hcl : cloneA E σ1 f [.sl cells es' n xc] = some (cloneR cells es n σ1) := by
                      unfold cloneA
                      simp only [hes]
                      rw [if_pos ⟨hb, g.1, g.2⟩]
                    have h := brH_some h
                    cases hn : decide (n = 0) with
                    | true =>
                      rw [hn] at h
                      refine ⟨_, _, ?_, h⟩
                      simp only [h1, hcl, cloneR, if_pos (of_decide_eq_true hn)]
                    | false =>
                      rw [hn] at h
                      refine ⟨_, _, ?_, h⟩
                      simp only [h1, hcl, cloneR, if_neg (of_decide_eq_false hn)]
                  . cases h
                . cases h
              . rename_i hes
                obtain ⟨v, σ2, h2, h⟩ := hrec _ _ _ _ _ _ h
                exact ⟨v, σ2, by simp only [h1, cloneA, hes, h2], h⟩
            . rename_i hs
              rw [if_neg (by simp [hs])]
              exact hrec _ _ _ _ _ _ h
    . cases h
theorem stepA_rec {fl : Nat} {ev : Operand -> Option PV} {σ : Store} {o : Op} {r1 r2 : Rec} (hc : ∀ c, o ≠ .call c) : stepA E r1 fl ev σ o = stepA E r2 fl ev σ o := by
  cases o <;> first
    | rfl
    | (rename_i b; cases b <;> rfl; done)
    | exact absurd rfl (hc _)
theorem stepS_ok (hT : TOk E T rec) (hrec : RecS.Ok recS rec) {fl : Nat} {ev : Operand -> Option PV} {σ : Store} {o : Op} {k : PV -> Store -> Option R} (h : stepS E T recS hs fl ev σ o k = some r) :
    ∃ v σ1, stepA E rec fl ev σ o = some (v, σ1) /\ k v σ1 = some r := by
  unfold stepS at h
  split at h
  . rename_i c a b
    split at h
    . rename_i t hc
      have h := brH_some h
      cases t with
      | true =>
        obtain ⟨v, h1, h2⟩ := then1_some h
        exact ⟨v, σ, by simp [stepA, isPure, pureA, hc, h1], h2⟩
      | false =>
        obtain ⟨v, h1, h2⟩ := then1_some h
        exact ⟨v, σ, by simp [stepA, isPure, pureA, hc, h1], h2⟩
    . cases h
  . split at h
    . rename_i ha hb
      obtain ⟨v, h1, h2⟩ := binS_ok h
      exact ⟨v, σ, by simp [stepA, isPure, pureA, ha, hb, h1], h2⟩
    . cases h
  . split at h
    . rename_i ha hb
      obtain ⟨v, h1, h2⟩ := indexAddrS_ok h
      exact ⟨v, σ, by simp [stepA, isPure, pureA, ha, hb, h1], h2⟩
    . cases h
  . split at h
    . rename_i ha hb
      obtain ⟨v, h1, h2⟩ := indexS_ok h
      exact ⟨v, σ, by simp [stepA, isPure, pureA, ha, hb, h1], h2⟩
    . cases h
  . split at h
    . rename_i ha
      obtain ⟨v, h1, h2⟩ := loadS_ok h
      exact ⟨v, σ, by simp [stepA, isPure, memA, ha, h1], h2⟩
    . cases h
  . split at h
    . rename_i ha hb
      obtain ⟨σ1, h1, h2⟩ := storeS_ok h
      exact ⟨_, σ1, by simp [stepA, isPure, memA, ha, hb, h1], h2⟩
    . cases h
  . split at h
    . rename_i ha
      obtain ⟨v, σ1, h1, h2⟩ := buildSliceS_ok h
      exact ⟨v, σ1, by simp [stepA, isPure, memA, ha, h1], h2⟩
    . cases h
  . split at h
    . rename_i ha
      split at h
      . rename_i hn
        obtain ⟨v, h1, h2⟩ := then1_some h
        exact ⟨v, σ, by simp [stepA, isPure, hn, pureA, ha, h1], h2⟩
      . rename_i hn
        obtain ⟨v, h1, h2⟩ := convS_ok h
        exact ⟨v, σ, by simp [stepA, isPure, hn, memA, ha, h1], h2⟩
    . cases h
  . split at h
    . rename_i h1 h2 h3 h4
      obtain ⟨v, h5, h6⟩ := sliceS_ok h
      exact ⟨v, σ, by simp [stepA, isPure, memA, h1, h2, h3, h4, h5], h6⟩
    . cases h
  . split at h
    . rename_i h1 h2
      obtain ⟨v, σ1, h3, h4⟩ := makeSliceS_ok h
      exact ⟨v, σ1, by simp [stepA, isPure, memA, h1, h2, h3], h4⟩
    . cases h
  . rename_i c
    split at h
    . rename_i args ha
      split at h
      . rename_i b hb
        obtain ⟨v, σ1, h3, h4⟩ := builtinS_ok h
        exact ⟨v, σ1, by simp [stepA, isPure, memA, ha, hb, h3], h4⟩
      . rename_i f hb
        split at h
        . rename_i g first captured hf
          obtain ⟨v, σ1, h3, h4⟩ := callS_ok hT hrec h
          refine ⟨v, σ1, ?_, h4⟩
          simp only [stepA, isPure, Bool.false_eq_true, if_false, memA, ha, hb, hf, h3]
        . cases h
      . cases h
    . cases h
  . rename_i hno
    obtain ⟨v, σ1, h1, h2⟩ := then2_some h
    exact ⟨v, σ1, by rw [stepA_rec (r2 := fun _ _ _ _ => none) (fun c e => hno c e)]; exact h1, h2⟩
theorem setB_eq {s : Slots} {t : Tmp} {b : Bool} (h : s[t]? = some (some (.bool b))) : setB s t b = s := by
  unfold setB
  apply List.ext_getElem?
  intro j
  by_cases hj : t = j
  . subst hj
    rw [List.getElem?_set_self (List.getElem?_eq_some_iff.1 h).1, h]
  . rw [List.getElem?_set_ne hj]
theorem setO_eq {s : Slots} {x : Operand} {b : Bool} (h : evalA s x = some (.bool b)) : setO s x b = s := by
  cases x with
  | tmp t =>
    simp only [evalA] at h
    split at h
    . rename_i v hv
      cases h
      exact setB_eq hv
    . cases h
  | _ => rfl
theorem wantedK_ok {ops : Array Oper} {s : Slots} {o : Oper} {kt kf : Slots -> Option R} (hw : wantedK hs ops s o kt kf = some r) : (match wantedA ops (maskS (o.looksAt ops) s) o with
    | some true => kt s
    | some false => kf s
    | none => none) = some r := by
  have key : wantedK [] ops s o kt kf = some r := by
    unfold wantedK at hw ⊢
    cases hgd : o.guard with
    | none => simpa [hgd] using hw
    | some g =>
      simp only [hgd] at hw ⊢
      split at hw
      . split at hw
        . split at hw
          . exact brH_some hw
          . exact brH_some hw
        . exact hw
        . cases hw
      . cases hw
  rw [<- key]
  symm
  unfold wantedK wantedA
  cases hgd : o.guard with
  | none => rfl
  | some g =>
    obtain ⟨j, want⟩ := g
    simp only
    cases hd : (ops[j]?).bind (·.dst) with
    | none => rfl
    | some d =>
      have hin : d ∈ o.looksAt ops := by simp [Oper.looksAt, hgd, hd]
      have hm : ∀ v, (maskS (o.looksAt ops) s)[d]? = some (some v) ↔ s[d]? = some (some v) := fun v => by
        unfold maskS
        rw [maskGo_get, Nat.zero_add]
        exact ⟨fun h => h.1, fun h => ⟨h, hin⟩⟩
      simp only
      cases hs0 : s[d]? with
      | none =>
        cases hx : (maskS (o.looksAt ops) s)[d]? with
        | none => rfl
        | some v => cases v with
          | none => rfl
          | some v => rw [(hm v).1 hx] at hs0; cases hs0
      | some v =>
        cases v with
        | none =>
          cases hx : (maskS (o.looksAt ops) s)[d]? with
          | none => rfl
          | some v => cases v with
            | none => rfl
            | some v => rw [(hm v).1 hx] at hs0; cases hs0
        | some v =>
          rw [(hm v).2 hs0]
          cases v with
          | bool b => cases b <;> cases want <;> simp [brH, hg, setB_eq hs0]
          | _ => rfl
theorem opS_ok (hT : TOk E T rec) (hrec : RecS.Ok recS rec) {fl : Nat} {tight : Bool} {ev : Operand -> Option PV} {σ : Store} {o : Op} {k : PV -> Store -> Option R} (h : opS E T recS hs fl tight ev σ o k = some r) :
    ∃ v σ1, opA E rec fl tight ev σ o = some (v, σ1) /\ k v σ1 = some r := by
  unfold opS at h
  unfold opA
  split at h
  . obtain ⟨v, σ1, h1, h⟩ := stepS_ok hT hrec h
    simp only [if_true, h1]
    split at h
    . rename_i hi
      exact ⟨v, _, by rw [if_pos hi], h⟩
    . cases h
  . simp only [Bool.false_eq_true, if_false]
    exact stepS_ok hT hrec h
theorem opsS_ok (hT : TOk E T rec) (hrec : RecS.Ok recS rec) {fl : Nat} {ops : Array Oper} {tight : List Bool} : ∀ (rest : List Oper) (i : Nat) (s : Slots) (σ : Store) (k : Slots -> Store -> Option R),
    opsS E T recS h0 fl ops tight rest i s σ k = some r -> ∃ s1 σ1, opsA E rec fl ops tight rest i s σ = some (s1, σ1) /\ k s1 σ1 = some r
  | [], i, s, σ, k, h => ⟨s, σ, rfl, h⟩
  | o :: rest, i, s, σ, k, h => by
    simp only [opsS] at h
    have h := wantedK_ok h
    simp only [opsA]
    split at h
    . rename_i hw
      obtain ⟨v, σ1, h1, h⟩ := opS_ok hT hrec h
      obtain ⟨s2, σ2, h2, h⟩ := opsS_ok hT hrec rest (i + 1) _ _ k h
      exact ⟨s2, σ2, by simp only [hw, h1, h2], h⟩
    . rename_i hw
      obtain ⟨s2, σ2, h2, h⟩ := opsS_ok hT hrec rest (i + 1) _ _ k h
      exact ⟨s2, σ2, by simp only [hw, h2], h⟩
    . cases h
theorem besideS_ok {b : List Nat} {i : Nat} {x : Op} {f : Option Nat} {v : PV} {σ : Store} {l : List Oper} {fs : List (Option Nat)} {k : Option R} (h : besideS b i x f v σ l fs k = some r) : besideOk b i x f v σ l fs = true /\ k = some r := by
  unfold besideS at h
  unfold besideOk
  split at h
  . obtain ⟨h1, h⟩ := oldVS_ok h
    split at h
    . rename_i h2; exact ⟨by simp [h1, h2], h⟩
    . cases h
  . rename_i h0
    split at h
    . rename_i h2; exact ⟨by simp [h0, h2], h⟩
    . cases h
theorem opsDS_ok (hT : TOk E T rec) (hrec : RecS.Ok recS rec) {fl : Nat} {ops : Array Oper} {b : List Nat} {tight : List Bool} : ∀ (rest : List Oper) (i : Nat) (fs : List (Option Nat)) (s : Slots) (σ : Store) (k : Slots -> Store -> Option R),
    opsDS E T recS h0 fl ops b tight rest i fs s σ k = some r -> ∃ s1 σ1, opsD E rec fl ops b tight rest i fs s σ = some (s1, σ1) /\ k s1 σ1 = some r
  | [], i, fs, s, σ, k, h => ⟨s, σ, rfl, h⟩
  | o :: rest, i, fs, s, σ, k, h => by
    simp only [opsDS] at h
    have h := wantedK_ok h
    simp only [opsD]
    split at h
    . rename_i hw
      obtain ⟨v, σ1, h1, h⟩ := opS_ok hT hrec h
      obtain ⟨g, h⟩ := besideS_ok h
      obtain ⟨s2, σ2, h2, h⟩ := opsDS_ok hT hrec rest (i + 1) _ _ _ k h
      exact ⟨s2, σ2, by simp only [hw, h1, if_pos g, h2], h⟩
    . rename_i hw
      obtain ⟨s2, σ2, h2, h⟩ := opsDS_ok hT hrec rest (i + 1) _ _ _ k h
      exact ⟨s2, σ2, by simp only [hw, h2], h⟩
    . cases h
theorem trimS_ok {fl : Nat} {pat : List Bool} {n : Nat} {s : Slots} {σ : Store} {k : Slots -> Store -> Option R} (h : trimS E fl pat n s σ k = some r) : k (trimA E fl pat n s σ).1 (trimA E fl pat n s σ).2 = some r := by
  unfold trimS at h
  unfold trimA
  split at h
  . rename_i ht
    rw [forceN_eq, forceL_eq] at h
    split at h
    . rename_i os hos
      obtain ⟨s1, h1, h⟩ := renSlotsS_ok h
      obtain ⟨σ1, h2, h⟩ := renStoreS_ok h
      simp only [ht, if_true, trimO, hos, h1, h2]
      exact h
    . cases h
  . rename_i ht
    simp only [ht, Bool.false_eq_true, if_false]
    exact h
theorem iterS_ok {fl : Nat} {pat : List Bool} {n0 : Nat} {body : Slots -> Store -> Option (Out × Slots × Store)} {bodyS : Slots -> Store -> KC R -> Option R} (hb : ∀ s σ k, bodyS s σ k = some r -> ∃ o s1 σ1, body s σ = some (o, s1, σ1) /\ k o s1 σ1 = some r) :
    ∀ (n : Nat) (s : Slots) (σ : Store) (k : KC R), iterS E fl pat n0 bodyS n s σ k = some r -> ∃ o s1 σ1, iterA E fl pat n0 body n s σ = some (o, s1, σ1) /\ k o s1 σ1 = some r
  | 0, s, σ, k, h => by cases h
  | n + 1, s, σ, k, h => by
    simp only [iterS] at h
    simp only [iterA]
    obtain ⟨o, s1, σ1, h1, h⟩ := hb _ _ _ h
    rw [h1]
    cases o with
    | norm =>
      have h := trimS_ok h
      exact iterS_ok hb n _ _ k h
    | exit j => exact ⟨_, _, _, rfl, h⟩
    | ret => exact ⟨_, _, _, rfl, h⟩
    | goto l => exact ⟨_, _, _, rfl, h⟩
theorem rangeFS_ok (hrec : RecS.Ok recS rec) {fl : Nat} {s : Slots} {σ : Store} {f : Operand} {k : Store -> Option R} (h : rangeFS E recS fl s σ f k = some r) : ∃ σ1, rangeFA E rec fl s σ f = some σ1 /\ k σ1 = some r := by
  unfold rangeFS at h
  unfold rangeFA
  split at h
  . rename_i g ys hf
    split at h
    . rename_i fn hx hfn
      split at h
      . cases h
      . rename_i hn
        obtain ⟨v, σ1, h1, h⟩ := hrec _ _ _ _ _ _ h
        refine ⟨σ1, ?_, h⟩
        simp only [hf, hx, hfn, if_neg hn, h1, Option.map_some]
    . cases h
  . cases h
theorem codeSL_ok (hT : TOk E T rec) (hrec : RecS.Ok recS rec) {fl n : Nat} {scS : Code -> Slots -> Store -> KC R -> Option R} {sc : Code -> Slots -> Store -> Option (Out × Slots × Store)}
    (hsc : ∀ body s σ k, scS body s σ k = some r -> ∃ o s1 σ1, sc body s σ = some (o, s1, σ1) /\ k o s1 σ1 = some r) : ∀ (c : Code) (s : Slots) (σ : Store) (k : KC R), codeSL E T recS h0 scS fl n c s σ k = some r -> ∃ o s1 σ1, codeL E rec sc fl n c s σ = some (o, s1, σ1) /\ k o s1 σ1 = some r := by
  intro c
  induction c with
  | skip => intro s σ k h; exact ⟨_, _, _, rfl, h⟩
  | region id ops d =>
    intro s σ k h
    cases d with
    | false =>
      simp only [codeSL] at h
      obtain ⟨s1, σ1, h1, h⟩ := opsS_ok hT hrec _ _ _ _ _ h
      exact ⟨_, s1, σ1, by simp only [codeL, h1]; rfl, h⟩
    | true =>
      simp only [codeSL] at h
      split at h
      . rename_i hp
        obtain ⟨s1, σ1, h1, h⟩ := opsDS_ok hT hrec _ _ _ _ _ _ h
        exact ⟨_, s1, σ1, by simp only [codeL, hp, if_true, h1]; rfl, h⟩
      . cases h
  | seq a b iha ihb =>
    intro s σ k h
    simp only [codeSL] at h
    obtain ⟨o, s1, σ1, h1, h⟩ := iha _ _ _ h
    cases o with
    | norm =>
      obtain ⟨o2, s2, σ2, h2, h⟩ := ihb _ _ _ h
      exact ⟨o2, s2, σ2, by simp only [codeL, h1, h2], h⟩
    | exit j => exact ⟨_, s1, σ1, by simp only [codeL, h1], h⟩
    | ret => exact ⟨_, s1, σ1, by simp only [codeL, h1], h⟩
    | goto l => exact ⟨_, s1, σ1, by simp only [codeL, h1], h⟩
  | cond c x y ihx ihy =>
    intro s σ k h
    simp only [codeSL] at h
    split at h
    . rename_i b hb
      have h := brH_some h
      cases b with
      | true =>
        simp only [cond_true, setO_eq hb] at h
        obtain ⟨o, s1, σ1, h1, h⟩ := ihx _ _ _ h
        exact ⟨o, s1, σ1, by simp only [codeL, hb, h1], h⟩
      | false =>
        simp only [cond_false, setO_eq hb] at h
        obtain ⟨o, s1, σ1, h1, h⟩ := ihy _ _ _ h
        exact ⟨o, s1, σ1, by simp only [codeL, hb, h1], h⟩
    . cases h
  | block id body ih =>
    intro s σ k h
    simp only [codeSL] at h
    obtain ⟨o, s1, σ1, h1, h⟩ := ih _ _ _ h
    cases o with
    | norm => exact ⟨_, s1, σ1, by simp only [codeL, h1], h⟩
    | exit j =>
      simp only at h
      split at h
      . rename_i hj
        exact ⟨.norm, s1, σ1, by simp only [codeL, h1, if_pos hj], h⟩
      . rename_i hj
        exact ⟨.exit j, s1, σ1, by simp only [codeL, h1, if_neg hj], h⟩
    | ret => exact ⟨_, s1, σ1, by simp only [codeL, h1], h⟩
    | goto l => exact ⟨_, s1, σ1, by simp only [codeL, h1], h⟩
  | loop body ih =>
    intro s σ k h
    simp only [codeSL] at h
    simp only [codeL]
    exact iterS_ok ih n s σ k h
  | exit id => intro s σ k h; exact ⟨_, _, _, rfl, h⟩
  | ret => intro s σ k h; exact ⟨_, _, _, rfl, h⟩
  | scope body ih => intro s σ k h; exact hsc body s σ k h
  | rangeFunc f ps asg body _ _ =>
    intro s σ k h
    simp only [codeSL] at h
    obtain ⟨σ1, h1, h⟩ := rangeFS_ok hrec h
    exact ⟨.norm, s, σ1, by simp only [codeL, h1, Option.map_some], h⟩
  | label l => intro s σ k h; exact ⟨_, _, _, rfl, h⟩
  | goto l => intro s σ k h; exact ⟨_, _, _, rfl, h⟩
  | _ => intro s σ k h; cases h
theorem scopeIterS_ok {runS : Code -> Slots -> Store -> KC R -> Option R} {run : Code -> Slots -> Store -> Option (Out × Slots × Store)} {body : Code}
    (hr : ∀ c s σ k, runS c s σ k = some r -> ∃ o s1 σ1, run c s σ = some (o, s1, σ1) /\ k o s1 σ1 = some r) :
    ∀ (j : Nat) (c : Code) (s : Slots) (σ : Store) (k : KC R), scopeIterS runS body j c s σ k = some r -> ∃ o s1 σ1, scopeIter run body j c s σ = some (o, s1, σ1) /\ k o s1 σ1 = some r
  | 0, c, s, σ, k, h => by cases h
  | j + 1, c, s, σ, k, h => by
    simp only [scopeIterS] at h
    simp only [scopeIter]
    obtain ⟨o, s1, σ1, h1, h⟩ := hr _ _ _ _ h
    rw [h1]
    cases o with
    | norm => exact ⟨_, _, _, rfl, h⟩
    | exit j => exact ⟨_, _, _, rfl, h⟩
    | ret => exact ⟨_, _, _, rfl, h⟩
    | goto l =>
      simp only at h ⊢
      cases hf : findLabel body l with
      | none => rw [hf] at h; exact ⟨_, _, _, rfl, h⟩
      | some rest => rw [hf] at h; exact scopeIterS_ok hr j rest s1 σ1 k h
theorem scopeSN_ok (hT : TOk E T rec) (hrec : RecS.Ok recS rec) {fl n : Nat} : ∀ (d : Nat) (body : Code) (s : Slots) (σ : Store) (k : KC R), scopeSN E T recS h0 fl n d body s σ k = some r -> ∃ o s1 σ1, scopeN E rec fl n d body s σ = some (o, s1, σ1) /\ k o s1 σ1 = some r
  | 0, body, s, σ, k, h => by cases h
  | d + 1, body, s, σ, k, h => scopeIterS_ok (codeSL_ok hT hrec (scopeSN_ok hT hrec d)) 50 body s σ k h
theorem codeS_ok (hT : TOk E T rec) (hrec : RecS.Ok recS rec) {fl n : Nat} (c : Code) (s : Slots) (σ : Store) (k : KC R) (h : codeS E T recS h0 fl n c s σ k = some r) : ∃ o s1 σ1, codeA E rec fl n c s σ = some (o, s1, σ1) /\ k o s1 σ1 = some r :=
  codeSL_ok hT hrec (scopeSN_ok hT hrec 3) c s σ k h
theorem enterS_ok (hT : TOk E T rec) (hrec : RecS.Ok recS rec) (n : Nat) : RecS.Ok (enterS E T H recS n) (enterA E rec n) := by
  intro f args σ fl k r h
  unfold enterS at h
  unfold enterA
  split at h
  . rename_i fn hfn
    simp only [hfn]
    split at h
    . rename_i c hc
      simp only [hc]
      split at h
      . rename_i hl
        simp only [if_pos hl]
        obtain ⟨o, s1, σ1, h1, h⟩ := codeS_ok hT hrec _ _ _ _ h
        rw [h1]
        cases o with
        | norm =>
          obtain ⟨v, σ2, h2, h⟩ := then2_some h
          exact ⟨v, σ2, h2, h⟩
        | ret =>
          obtain ⟨v, σ2, h2, h⟩ := then2_some h
          exact ⟨v, σ2, h2, h⟩
        | exit j => cases h
        | goto l => cases h
      . cases h
    . cases h
  . cases h
end
def Rec.le (E : Env) (r1 r2 : Rec) : Prop := ∀ f args σ fl p, r1 f args σ fl = some p -> r2 f args σ fl = some p
theorem apartA_le {E : Env} {r1 r2 : Rec} (h : Rec.le E r1 r2) {f : FuncId} {as : List PV} {v : PV} (hc : apartA E r1 f as = some v) : apartA E r2 f as = some v := by
  unfold apartA at hc ⊢
  split at hc
  . rename_i q hq
    exact hc
  . split at hc
    . rename_i x σ hx
      rw [h _ _ _ _ _ hx]
      exact hc
    . cases hc
theorem footR_le {E : Env} {r1 r2 : Rec} (h : Rec.le E r1 r2) {f : FuncId} {as : List PV} {σs : Store} {p : PV × Store} (hc : footR r1 f as σs = some p) : footR r2 f as σs = some p := by
  unfold footR at hc ⊢
  cases hr : r1 f as σs 0 with
  | none => simp [hr] at hc
  | some q => rw [h _ _ _ _ _ hr]; rw [hr] at hc; exact hc
theorem footA_le {E : Env} {r1 r2 : Rec} (h : Rec.le E r1 r2) {fl : Nat} {σ : Store} {f : FuncId} {args : List PV} {p : PV × Store} (hc : footA r1 fl σ f args = some p) : footA r2 fl σ f args = some p := by
  unfold footA at hc ⊢
  revert hc
  generalize reach σ args = L
  intro hc
  split at hc
  . rename_i hg
    rw [if_pos hg]
    cases hp : pickObs σ L with
    | none => simp [hp] at hc
    | some os =>
      simp only [hp] at hc ⊢
      cases ha : renL 0 L args with
      | none => simp [ha] at hc
      | some as => cases hs : renStore 0 L os with
        | none => simp [ha, hs] at hc
        | some σs =>
          simp only [ha, hs] at hc ⊢
          cases hf : footR r1 f as σs with
          | none => simp [hf] at hc
          | some q => rw [footR_le h hf]; rw [hf] at hc; exact hc
  . cases hc
theorem callA_le {E : Env} {r1 r2 : Rec} (h : Rec.le E r1 r2) {fl : Nat} {σ : Store} {f : FuncId} {args : List PV} {p : PV × Store} (hc : callA E r1 fl σ f args = some p) : callA E r2 fl σ f args = some p := by
  unfold callA at hc ⊢
  cases hx : E.ext f with
  | some x => simpa [hx] using hc
  | none =>
    simp only [hx] at hc ⊢
    cases hf : E.P.funcs[f]? with
    | none => simp [hf] at hc
    | some fn =>
      simp only [hf] at hc ⊢
      split at hc
      . cases hc
      . rename_i hn
        rw [if_neg hn]
        split at hc
        . rename_i hap
          rw [if_pos hap]
          split at hc
          . rename_i as σ1 has
            split at hc
            . rename_i ho
              rw [if_pos ho]
              cases hq : apartA E r1 f (viewArgs E fn.params.toList as) with
              | none => simp [hq] at hc
              | some q =>
                rw [apartA_le h hq]
                rw [hq] at hc
                exact hc
            . cases hc
          . cases hc
        . rename_i hap
          rw [if_neg hap]
          split at hc
          . rename_i hft
            rw [if_pos hft]
            exact footA_le h hc
          . rename_i hft
            rw [if_neg hft]
            split at hc
            . rename_i hs
              rw [if_pos hs]
              split at hc
              . split at hc
                . exact hc
                . exact h _ _ _ _ _ hc
              . cases hc
            . rename_i hs
              rw [if_neg hs]
              exact h _ _ _ _ _ hc
theorem memA_le {E : Env} {r1 r2 : Rec} (h : Rec.le E r1 r2) {fl : Nat} {σ : Store} {ev : Operand -> Option PV} {o : Op} {p : PV × Store} (hc : memA E r1 fl ev σ o = some p) : memA E r2 fl ev σ o = some p := by
  cases o with
  | call c =>
    simp only [memA] at hc ⊢
    cases ha : evalAll ev c.args.toList with
    | none => simp [ha] at hc
    | some args =>
      simp only [ha] at hc ⊢
      cases hk : c.callee with
      | builtin b => simpa [hk] using hc
      | value f =>
        simp only [hk] at hc ⊢
        cases hv : ev f with
        | none => simp [hv] at hc
        | some x =>
          simp only [hv] at hc ⊢
          split at hc
          . exact callA_le h hc
          . cases hc
      | invoke _ _ => simp [hk] at hc
  | next x b => cases b <;> exact hc
  | _ => exact hc
theorem opA_le {E : Env} {r1 r2 : Rec} (h : Rec.le E r1 r2) {fl : Nat} {tight : Bool} {σ : Store} {ev : Operand -> Option PV} {o : Op} {p : PV × Store} (hc : opA E r1 fl tight ev σ o = some p) : opA E r2 fl tight ev σ o = some p := by
  have hs : ∀ fl p, stepA E r1 fl ev σ o = some p -> stepA E r2 fl ev σ o = some p := by
    intro fl p hc
    unfold stepA at hc ⊢
    split at hc
    . rename_i hp; rw [if_pos hp]; exact hc
    . rename_i hp; rw [if_neg hp]; exact memA_le h hc
  unfold opA at hc ⊢
  split at hc
  . rename_i ht
    rw [if_pos ht]
    split at hc
    . rename_i v σ1 hv
      rw [hs _ _ hv]
      exact hc
    . cases hc
  . rename_i ht
    rw [if_neg ht]
    exact hs _ _ hc
theorem opsA_le {E : Env} {r1 r2 : Rec} (h : Rec.le E r1 r2) {fl : Nat} {ops : Array Oper} {tight : List Bool} : ∀ (rest : List Oper) (i : Nat) (s : Slots) (σ : Store) (p : Slots × Store),
    opsA E r1 fl ops tight rest i s σ = some p -> opsA E r2 fl ops tight rest i s σ = some p
  | [], i, s, σ, p, hc => hc
  | o :: rest, i, s, σ, p, hc => by
    simp only [opsA] at hc ⊢
    split at hc
    . rename_i hw
      split at hc
      . rename_i v σ1 ho
        simp only [hw, opA_le h ho]
        exact opsA_le h rest (i + 1) _ _ p hc
      . cases hc
    . rename_i hw
      exact opsA_le h rest (i + 1) _ _ p hc
    . cases hc
theorem opsD_le {E : Env} {r1 r2 : Rec} (h : Rec.le E r1 r2) {fl : Nat} {ops : Array Oper} {b : List Nat} {tight : List Bool} : ∀ (rest : List Oper) (i : Nat) (fs : List (Option Nat)) (s : Slots) (σ : Store) (p : Slots × Store),
    opsD E r1 fl ops b tight rest i fs s σ = some p -> opsD E r2 fl ops b tight rest i fs s σ = some p
  | [], i, fs, s, σ, p, hc => hc
  | o :: rest, i, fs, s, σ, p, hc => by
    simp only [opsD] at hc ⊢
    split at hc
    . rename_i hw
      split at hc
      . rename_i v σ1 ho
        simp only [hw, opA_le h ho]
        split at hc
        . rename_i hb
          rw [if_pos hb]
          exact opsD_le h rest (i + 1) _ _ _ p hc
        . cases hc
      . cases hc
    . rename_i hw
      exact opsD_le h rest (i + 1) _ _ _ p hc
    . cases hc
theorem iterA_le {E : Env} {fl : Nat} {pat : List Bool} {n0 : Nat} {b1 b2 : Slots -> Store -> Option (Out × Slots × Store)} (h : ∀ s σ p, b1 s σ = some p -> b2 s σ = some p) : ∀ (n : Nat) (s : Slots) (σ : Store) (p : Out × Slots × Store), iterA E fl pat n0 b1 n s σ = some p -> iterA E fl pat n0 b2 n s σ = some p
  | 0, s, σ, p, hc => hc
  | n + 1, s, σ, p, hc => by
    simp only [iterA] at hc ⊢
    cases hb : b1 s σ with
    | none => simp [hb] at hc
    | some r =>
      rw [h s σ r hb]
      rw [hb] at hc
      obtain ⟨o, s1, σ1⟩ := r
      cases o with
      | norm => exact iterA_le h n _ _ p hc
      | exit j => exact hc
      | ret => exact hc
      | goto l => exact hc
theorem rangeFA_le {E : Env} {r1 r2 : Rec} (h : Rec.le E r1 r2) {fl : Nat} {s : Slots} {σ σ1 : Store} {f : Operand} (hc : rangeFA E r1 fl s σ f = some σ1) : rangeFA E r2 fl s σ f = some σ1 := by
  unfold rangeFA at hc ⊢
  split at hc
  . rename_i g ys hf
    split at hc
    . rename_i fn hx hfn
      split at hc
      . cases hc
      . rename_i hn
        rw [if_neg hn]
        simp only [Option.map_eq_some_iff] at hc ⊢
        obtain ⟨q, h1, h2⟩ := hc
        exact ⟨q, h _ _ _ _ _ h1, h2⟩
    . cases hc
  . cases hc
theorem codeL_le {E : Env} {r1 r2 : Rec} (h : Rec.le E r1 r2) {fl n : Nat} {sc1 sc2 : Code -> Slots -> Store -> Option (Out × Slots × Store)} (hsc : ∀ c s σ p, sc1 c s σ = some p -> sc2 c s σ = some p) : ∀ (c : Code) (s : Slots) (σ : Store) (p : Out × Slots × Store), codeL E r1 sc1 fl n c s σ = some p -> codeL E r2 sc2 fl n c s σ = some p := by
  intro c
  induction c with
  | region id ops d =>
    intro s σ p hc
    cases d with
    | false =>
      simp only [codeL] at hc ⊢
      cases ho : opsA E r1 fl ops (noTight ops) ops.toList 0 s σ with
      | none => simp [ho] at hc
      | some r => rw [opsA_le h _ _ _ _ _ ho]; rw [ho] at hc; exact hc
    | true =>
      simp only [codeL] at hc ⊢
      split at hc
      . rename_i hp
        rw [if_pos hp]
        cases ho : opsD E r1 fl ops (masks ops) (tightOf ops (masks ops)) ops.toList 0 [] s (preF E ops s σ) with
        | none => simp [ho] at hc
        | some r => rw [opsD_le h _ _ _ _ _ _ ho]; rw [ho] at hc; exact hc
      . cases hc
  | seq a b iha ihb =>
    intro s σ p hc
    simp only [codeL] at hc ⊢
    cases ha : codeL E r1 sc1 fl n a s σ with
    | none => simp [ha] at hc
    | some r =>
      rw [iha _ _ _ ha]
      rw [ha] at hc
      obtain ⟨o, s1, σ1⟩ := r
      cases o with
      | norm => exact ihb _ _ _ hc
      | exit j => exact hc
      | ret => exact hc
      | goto l => exact hc
  | cond c x y ihx ihy =>
    intro s σ p hc
    simp only [codeL] at hc ⊢
    split at hc
    . exact ihx _ _ _ hc
    . exact ihy _ _ _ hc
    . cases hc
  | block id body ih =>
    intro s σ p hc
    simp only [codeL] at hc ⊢
    cases ha : codeL E r1 sc1 fl n body s σ with
    | none => simp [ha] at hc
    | some r =>
      rw [ih _ _ _ ha]
      rw [ha] at hc
      exact hc
  | loop body ih =>
    intro s σ p hc
    simp only [codeL] at hc ⊢
    exact iterA_le ih n s σ p hc
  | scope body ih => intro s σ p hc; exact hsc body s σ p hc
  | rangeFunc f ps asg body _ _ =>
    intro s σ p hc
    simp only [codeL, Option.map_eq_some_iff] at hc ⊢
    obtain ⟨σ1, h1, h2⟩ := hc
    exact ⟨σ1, rangeFA_le h h1, h2⟩
  | _ => intro s σ p hc; exact hc
theorem scopeIter_le {r1 r2 : Code -> Slots -> Store -> Option (Out × Slots × Store)} (h : ∀ c s σ p, r1 c s σ = some p -> r2 c s σ = some p) (body : Code) : ∀ (j : Nat) (c : Code) (s : Slots) (σ : Store) (p : Out × Slots × Store), scopeIter r1 body j c s σ = some p -> scopeIter r2 body j c s σ = some p
  | 0, c, s, σ, p, hc => hc
  | j + 1, c, s, σ, p, hc => by
    simp only [scopeIter] at hc ⊢
    cases hb : r1 c s σ with
    | none => simp [hb] at hc
    | some q =>
      rw [h c s σ q hb]
      rw [hb] at hc
      obtain ⟨o, s1, σ1⟩ := q
      cases o with
      | norm => exact hc
      | exit j => exact hc
      | ret => exact hc
      | goto l =>
        simp only at hc ⊢
        cases hf : findLabel body l with
        | none => rw [hf] at hc; exact hc
        | some rest => rw [hf] at hc; exact scopeIter_le h body j rest s1 σ1 p hc
theorem scopeN_le {E : Env} {r1 r2 : Rec} (h : Rec.le E r1 r2) {fl n : Nat} : ∀ (d : Nat) (c : Code) (s : Slots) (σ : Store) (p : Out × Slots × Store), scopeN E r1 fl n d c s σ = some p -> scopeN E r2 fl n d c s σ = some p
  | 0, c, s, σ, p, hc => hc
  | d + 1, c, s, σ, p, hc => scopeIter_le (codeL_le h (scopeN_le h d)) c 50 c s σ p hc
theorem codeA_le {E : Env} {r1 r2 : Rec} (h : Rec.le E r1 r2) {fl n : Nat} (c : Code) (s : Slots) (σ : Store) (p : Out × Slots × Store) (hc : codeA E r1 fl n c s σ = some p) : codeA E r2 fl n c s σ = some p :=
  codeL_le h (scopeN_le h 3) c s σ p hc
theorem enterA_le {E : Env} {r1 r2 : Rec} (h : Rec.le E r1 r2) (n : Nat) : Rec.le E (enterA E r1 n) (enterA E r2 n) := by
  intro f args σ fl p hc
  unfold enterA at hc ⊢
  split at hc
  . rename_i fn hf
    split at hc
    . rename_i c hb
      split at hc
      . rename_i hl
        rw [if_pos hl]
        cases ha : codeA E r1 fl n c (args.map some ++ List.replicate (fn.ntmps - args.length) none) σ with
        | none => simp [ha] at hc
        | some r =>
          rw [codeA_le h _ _ _ _ ha]
          rw [ha] at hc
          exact hc
      . cases hc
    . cases hc
  . cases hc
theorem primR_le {E : Env} {r1 r2 : Rec} (h : Rec.le E r1 r2) : Rec.le E (primR E r1) (primR E r2) := by
  intro f args σ fl p hc
  unfold primR at hc ⊢
  cases hp : E.prim f args σ fl with
  | some q => rw [hp] at hc; exact hc
  | none => rw [hp] at hc; exact h _ _ _ _ _ hc
theorem runA_le {E : Env} (n : Nat) : ∀ k, Rec.le E (runA E n k) (runA E n (k + 1))
  | 0 => fun f args σ fl p h => by cases h
  | k + 1 => primR_le (enterA_le (runA_le n k) n)
theorem runA_le' {E : Env} (n : Nat) {j k : Nat} (h : j <= k) : Rec.le E (runA E n j) (runA E n k) := by
  induction h with
  | refl => exact fun _ _ _ _ _ h => h
  | step _ ih => exact fun f args σ fl p h => runA_le n _ _ _ _ _ _ (ih _ _ _ _ _ h)
theorem footP_le {E : Env} {r1 r2 : Rec} (h : Rec.le E r1 r2) {f : FuncId} {xs : List PV} {v : PV} (hc : footP r1 f xs = some v) : footP r2 f xs = some v := by
  unfold footP at hc ⊢
  cases hsp : splitLast xs with
  | none => simp [hsp] at hc
  | some q =>
    obtain ⟨as, e⟩ := q
    simp only [hsp] at hc ⊢
    cases hd : decS e with
    | none => simp [hd] at hc
    | some σs =>
      simp only [hd] at hc ⊢
      cases hr : footR r1 f as σs with
      | none => simp [hr] at hc
      | some q => rw [footR_le h hr]; rw [hr] at hc; exact hc
theorem TOk.le {E : Env} {T : Table} {r1 r2 : Rec} (h : TOk E T r1) (hr : Rec.le E r1 r2) : TOk E T r2 := fun f as t v h1 h2 => ⟨fun h3 => apartA_le hr ((h f as t v h1 h2).1 h3), fun h3 => footP_le hr ((h f as t v h1 h2).2 h3)⟩
theorem primS_ok {E : Env} {R : Type} {rS : RecS R} {rec : Rec} (h : RecS.Ok rS rec) : RecS.Ok (primS E rS) (primR E rec) := by
  intro f args σ fl k r hc
  unfold primS at hc
  unfold primR
  split at hc
  . rename_i c v σ1 hp
    obtain ⟨rfl, hc⟩ := ass_some hc
    exact ⟨v, σ1, by simp only [hp, cond_true], hc⟩
  . rename_i hp
    simp only [hp]
    exact h _ _ _ _ _ _ hc
theorem recS_ok {E : Env} {T : Table} {H : FuncId -> Hint} {n K : Nat} (hT : TOk E T (runA E n K)) {R : Type} : ∀ d, RecS.Ok (recS E T H n d (R := R)) (runA E n (K + d))
  | 0 => fun f args σ fl k r h => by cases h
  | d + 1 => primS_ok (enterS_ok (hT.le (runA_le' n (Nat.le_add_right K d))) (recS_ok hT d) n)
theorem apartS_ok {E : Env} {T : Table} {H : FuncId -> Hint} {n K d : Nat} (hT : TOk E T (runA E n K)) {f : FuncId} {as : List PV} {v : PV} (hp : E.pure f as = none) (h : apartS E T H n d f as = some v) : apartA E (runA E n (K + (d + 1))) f as = some v := by
  unfold apartS at h
  obtain ⟨x, σ, h1, h2⟩ := recS_ok hT (d + 1) _ _ _ _ _ _ h
  unfold lastK at h2
  obtain ⟨y, σ1, h3, h4⟩ := sealResS_ok h2
  obtain ⟨g, h5⟩ := oldVS_ok h4
  unfold apartA
  simp only [hp, h1, h3, if_pos g]
  exact h5
def TaddT (T : Table) (f0 : Nat) (g : List PV -> Option Tr) : Table := fun f as => match Nat.beq f f0 with
  | true => g as
  | false => T f as
def Tadd (T : Table) (f0 : Nat) (g : List PV -> Option (Bool × PV)) : Table := fun f as => match Nat.beq f f0 with
  | true => match g as with
    | some (c, v) => some (.leaf c v)
    | none => none
  | false => T f as
def T0 : Table := fun _ _ => none
theorem T0_ok {E : Env} {rec : Rec} : TOk E T0 rec := fun f as t v h => by cases h
theorem TaddT_of {E : Env} {T : Table} {rec : Rec} {f0 : Nat} {g : List PV -> Option Tr} (hT : TOk E T rec) (h : ∀ as t v, g as = some t -> t.val = some v -> apartA E rec f0 as = some v) (hft : E.foot f0 = false := by rfl) : TOk E (TaddT T f0 g) rec := by
  intro f as t v h1 h2
  unfold TaddT at h1
  split at h1
  . rename_i hb
    rw [Nat.eq_of_beq_eq_true hb]
    exact ⟨fun _ => h as t v h1 h2, fun h3 => by rw [hft] at h3; cases h3⟩
  . exact hT f as t v h1 h2
theorem Tadd_of {E : Env} {T : Table} {rec : Rec} {f0 : Nat} {g : List PV -> Option (Bool × PV)} (hT : TOk E T rec) (h : ∀ as v, g as = some (true, v) -> apartA E rec f0 as = some v) (hft : E.foot f0 = false := by rfl) : TOk E (Tadd T f0 g) rec := by
  intro f as t v h1 h2
  unfold Tadd at h1
  split at h1
  . rename_i hb
    rw [Nat.eq_of_beq_eq_true hb]
    split at h1
    . rename_i c v0 hg
      cases h1
      cases c with
      | false => cases h2
      | true => cases h2; exact ⟨fun _ => h as _ hg, fun h3 => by rw [hft] at h3; cases h3⟩
    . cases h1
  . exact hT f as t v h1 h2
theorem Tadd_ok {E : Env} {T : Table} {n K d f0 : Nat} {g : List PV -> Option (Bool × PV)} (hT : TOk E T (runA E n K)) (hp : ∀ as, E.pure f0 as = none) (h : ∀ as v, g as = some (true, v) -> ∃ H, apartS E T H n d f0 as = some v) (hft : E.foot f0 = false := by rfl) : TOk E (Tadd T f0 g) (runA E n (K + (d + 1))) :=
  Tadd_of (hT.le (runA_le' n (by omega))) (fun as v hg => by
    obtain ⟨H, h⟩ := h as v hg
    exact apartS_ok hT (hp as) h) hft
theorem Tadd_run {E : Env} {T : Table} {n K f0 : Nat} {g : List PV -> Option (Bool × PV)} (hT : TOk E T (runA E n K)) (h : ∀ as v, g as = some (true, v) -> apartA E (runA E n K) f0 as = some v) (hft : E.foot f0 = false := by rfl) : TOk E (Tadd T f0 g) (runA E n K) := Tadd_of hT h hft
theorem Tadd_ok2 {E : Env} {T T' : Table} {n K K' d f0 : Nat} {g : List PV -> Option (Bool × PV)} (hT : TOk E T (runA E n K)) (hT' : TOk E T' (runA E n K')) (hp : ∀ as, E.pure f0 as = none) (h : ∀ as v, g as = some (true, v) -> ∃ H, apartS E T' H n d f0 as = some v) (hft : E.foot f0 = false := by rfl) : TOk E (Tadd T f0 g) (runA E n (K + (K' + (d + 1)))) :=
  Tadd_of (hT.le (runA_le' n (by omega))) (fun as v hg => by
    obtain ⟨H, h⟩ := h as v hg
    exact apartA_le (runA_le' n (by omega)) (apartS_ok hT' (hp as) h)) hft
theorem TaddT_ok2 {E : Env} {T T' : Table} {n K K' d f0 : Nat} {g : List PV -> Option Tr} (hT : TOk E T (runA E n K)) (hT' : TOk E T' (runA E n K')) (hp : ∀ as, E.pure f0 as = none) (h : ∀ as t v, g as = some t -> t.val = some v -> ∃ H, apartS E T' H n d f0 as = some v) (hft : E.foot f0 = false := by rfl) : TOk E (TaddT T f0 g) (runA E n (K + (K' + (d + 1)))) :=
  TaddT_of (hT.le (runA_le' n (by omega))) (fun as t v hg hv => by
    obtain ⟨H, h⟩ := h as t v hg hv
    exact apartA_le (runA_le' n (by omega)) (apartS_ok hT' (hp as) h)) hft
theorem footSR_ok {E : Env} {T : Table} {H : FuncId -> Hint} {n K d : Nat} (hT : TOk E T (runA E n K)) {f : FuncId} {xs : List PV} {v : PV} (h : footSR E T H n d f xs = some v) : footP (runA E n (K + (d + 1))) f xs = some v := by
  unfold footSR at h
  unfold footP
  cases hsp : splitLast xs with
  | none => simp [hsp] at h
  | some q =>
    obtain ⟨as, e⟩ := q
    simp only [hsp] at h ⊢
    cases hs : decS e with
    | none => simp [hs] at h
    | some σs =>
      simp only [hs] at h ⊢
      obtain ⟨x, σ, h1, h2⟩ := recS_ok hT (d + 1) _ _ _ _ _ _ h
      unfold lastF at h2
      obtain ⟨v2, σ2, e1, e2, h2⟩ := footTS_ok h2
      have h3 : footR (runA E n (K + (d + 1))) f as σs = some (v2, σ2) := by
        unfold footR
        simp only [h1, if_pos e1, e2]
      simp only [h3]
      exact h2
theorem TaddF_of {E : Env} {T : Table} {rec : Rec} {f0 : Nat} {g : List PV -> Option Tr} (hT : TOk E T rec) (h : ∀ as t v, g as = some t -> t.val = some v -> footP rec f0 as = some v) (hap : E.apart f0 = false := by rfl) : TOk E (TaddT T f0 g) rec := by
  intro f as t v h1 h2
  unfold TaddT at h1
  split at h1
  . rename_i hb
    rw [Nat.eq_of_beq_eq_true hb]
    exact ⟨fun h3 => (by rw [hap] at h3; cases h3), fun _ => h as t v h1 h2⟩
  . exact hT f as t v h1 h2
theorem TaddF_ok2 {E : Env} {T T' : Table} {n K K' d f0 : Nat} {g : List PV -> Option Tr} (hT : TOk E T (runA E n K)) (hT' : TOk E T' (runA E n K')) (h : ∀ as t v, g as = some t -> t.val = some v -> ∃ H, footSR E T' H n d f0 as = some v) (hap : E.apart f0 = false := by rfl) : TOk E (TaddT T f0 g) (runA E n (K + (K' + (d + 1)))) :=
  TaddF_of (hT.le (runA_le' n (by omega))) (fun as t v hg hv => by
    obtain ⟨H, h⟩ := h as t v hg hv
    exact footP_le (runA_le' n (by omega)) (footSR_ok hT' h)) hap
def bodyOf (fn : Func) : Code := fn.body.getD .skip
def loopS (E : Env) (T : Table) (H : FuncId -> Hint) (n d : Nat) (f : FuncId) (fn : Func) (p : List Nat) (pat : List Bool) (n0 m : Nat) (s : Slots) (σ : Store) : Option PV :=
  iterS E 0 pat n0 (codeS E T (recS E T H n d) (H f) 0 n (subC (bodyOf fn) (p ++ [0]))) m s σ (afterS E T (recS E T H n d) (H f) 0 n (bodyOf fn) p (endK E fn (lastK E f)))
def loopSF (E : Env) (T : Table) (H : FuncId -> Hint) (n d nf : Nat) (f : FuncId) (fn : Func) (p : List Nat) (pat : List Bool) (n0 m : Nat) (s : Slots) (σ : Store) : Option PV :=
  iterS E 0 pat n0 (codeS E T (recS E T H n d) (H f) 0 n (subC (bodyOf fn) (p ++ [0]))) m s σ (afterS E T (recS E T H n d) (H f) 0 n (bodyOf fn) p (endK E fn (lastF nf)))
end
end Go.Proofs.YtaofbpldflcjmaaDoor.Am
