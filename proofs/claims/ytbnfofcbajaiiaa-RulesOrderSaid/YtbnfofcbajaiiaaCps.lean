/- The interpreter's code with what follows handed on: what it cannot decide stands at the head. And: more known of the calls, more known of the code. -/
import Derived.Test.YtbnfofcbajaiiaaRun1
set_option linter.unusedVariables false
set_option linter.unusedSimpArgs false
namespace Go.Proofs.Ytbnfofcbajaiiaa.Am

def then2 {A B R : Type} (x : Option (A × B)) (k : A → B → Option R) : Option R :=
  match x with
  | some (a, b) => k a b
  | none => none

def then3 {R : Type} (x : Option (Out × Slots × Store)) (k : Out → Slots → Store → Option R) : Option R :=
  match x with
  | some (o, s, σ) => k o s σ
  | none => none

/-- A slot that holds an unknown truth, once it is known. -/
def setB (s : Slots) (t : Tmp) (b : Bool) : Slots := s.set t (some (.bool b))

def setO (s : Slots) (x : Operand) (b : Bool) : Slots :=
  match x with
  | .tmp t => setB s t b
  | _ => s

theorem setB_eq {s : Slots} {t : Tmp} {b : Bool} (h : s[t]? = some (some (.bool b))) : setB s t b = s := by
  unfold setB
  apply List.ext_getElem?
  intro j
  by_cases hj : t = j
  · subst hj
    rw [List.getElem?_set_self (List.getElem?_eq_some_iff.1 h).1, h]
  · rw [List.getElem?_set_ne hj]

theorem setO_eq {s : Slots} {x : Operand} {b : Bool} (h : evalA s x = some (.bool b)) : setO s x b = s := by
  cases x with
  | tmp t =>
    simp only [evalA] at h
    split at h
    · rename_i v hv
      cases h
      exact setB_eq hv
    · cases h
  | _ => rfl

/-- The slot of the operation that guards one. -/
def guardSlot (ops : Array Oper) (o : Oper) : Option Tmp := o.guard.bind fun g => (ops[g.1]?).bind (·.dst)

def wantedK {R : Type} (ops : Array Oper) (s : Slots) (o : Oper) (kt kf : Slots → Option R) : Option R :=
  match o.guard with
  | none => kt s
  | some (j, want) => match (ops[j]?).bind (·.dst) with
    | some d => match s[d]? with
      | some (some (.bool b)) => match want with
        | true => bif b then kt (setB s d true) else kf (setB s d false)
        | false => bif b then kf (setB s d true) else kt (setB s d false)
      | some (some (.tup _)) => kf s
      | _ => none
    | none => none

def opK {R : Type} (E : Env) (rec : Rec) (fl : Nat) (tight : Bool) (ev : Operand → Option PV) (σ : Store) (o : Op) (k : PV → Store → Option R) : Option R :=
  match o with
  | .pick c a b => match tight with
    | true => then2 (opA E rec fl true ev σ (.pick c a b)) k
    | false => match ev c with
      | some (.bool t) => bif t then then2 ((ev a).map fun v => (v, σ)) k else then2 ((ev b).map fun v => (v, σ)) k
      | _ => none
  | o => then2 (opA E rec fl tight ev σ o) k

def opsK {R : Type} (E : Env) (rec : Rec) (fl : Nat) (ops : Array Oper) (tight : List Bool) : List Oper → Nat → Slots → Store → (Slots → Store → Option R) → Option R
  | [], _, s, σ, k => k s σ
  | o :: rest, i, s, σ, k =>
    wantedK ops s o
      (fun s => opK E rec fl (tight.getD i true) (evalA (maskS (o.looksAt ops) s)) σ o.op fun v σ1 => opsK E rec fl ops tight rest (i + 1) (putA s o.dst v) σ1 k)
      (fun s => opsK E rec fl ops tight rest (i + 1) (putA s o.dst (.tup [])) σ k)

def opsDK {R : Type} (E : Env) (rec : Rec) (fl : Nat) (ops : Array Oper) (b : List Nat) (tight : List Bool) : List Oper → Nat → List (Option Nat) → Slots → Store → (Slots → Store → Option R) → Option R
  | [], _, _, s, σ, k => k s σ
  | o :: rest, i, fs, s, σ, k =>
    wantedK ops s o
      (fun s => opK E rec fl (tight.getD i true) (evalA (maskS (o.looksAt ops) s)) σ o.op fun v σ1 =>
        match besideOk b i o.op (footOf (evalA (maskS (o.looksAt ops) s)) o.op) v σ ops.toList fs with
        | true => opsDK E rec fl ops b tight rest (i + 1) (fs ++ [footOf (evalA (maskS (o.looksAt ops) s)) o.op]) (putA s o.dst v) σ1 k
        | false => none)
      (fun s => opsDK E rec fl ops b tight rest (i + 1) (fs ++ [none]) (putA s o.dst (.tup [])) σ k)

def iterK {R : Type} (body : Slots → Store → (Out → Slots → Store → Option R) → Option R) : Nat → Slots → Store → (Out → Slots → Store → Option R) → Option R
  | 0, _, _, _ => none
  | n + 1, s, σ, k => body s σ fun o s1 σ1 => match o with
    | .norm => iterK body n s1 σ1 k
    | .exit j => k (.exit j) s1 σ1
    | .ret => k .ret s1 σ1

def codeK {R : Type} (E : Env) (rec : Rec) (fl n : Nat) : Code → Slots → Store → (Out → Slots → Store → Option R) → Option R
  | .skip, s, σ, k => k .norm s σ
  | .region _ ops false, s, σ, k => opsK E rec fl ops (noTight ops) ops.toList 0 s σ (k .norm)
  | .region _ ops true, s, σ, k => if pairsOk ops (masks ops) then opsDK E rec fl ops (masks ops) (tightOf ops (masks ops)) ops.toList 0 [] s σ (k .norm) else none
  | .seq a b, s, σ, k => codeK E rec fl n a s σ fun o s1 σ1 => match o with
    | .norm => codeK E rec fl n b s1 σ1 k
    | .exit j => k (.exit j) s1 σ1
    | .ret => k .ret s1 σ1
  | .cond c x y, s, σ, k => match evalA s c with
    | some (.bool b) => bif b then codeK E rec fl n x (setO s c true) σ k else codeK E rec fl n y (setO s c false) σ k
    | _ => none
  | .block id body, s, σ, k => codeK E rec fl n body s σ fun o s1 σ1 => match o with
    | .norm => k .norm s1 σ1
    | .exit j => if j = id then k .norm s1 σ1 else k (.exit j) s1 σ1
    | .ret => k .ret s1 σ1
  | .loop body, s, σ, k => iterK (codeK E rec fl n body) n s σ k
  | .exit id, s, σ, k => k (.exit id) s σ
  | .ret, s, σ, k => k .ret s σ
  | _, _, _, _ => none

theorem wantedK_eq {R : Type} (ops : Array Oper) (s : Slots) (o : Oper) (kt kf : Slots → Option R) : wantedK ops s o kt kf = match wantedA ops (maskS (o.looksAt ops) s) o with
    | some true => kt s
    | some false => kf s
    | none => none := by
  unfold wantedK wantedA
  cases hg : o.guard with
  | none => rfl
  | some g =>
    obtain ⟨j, want⟩ := g
    simp only
    cases hd : (ops[j]?).bind (·.dst) with
    | none => rfl
    | some d =>
      have hin : d ∈ o.looksAt ops := by simp [Oper.looksAt, hg, hd]
      have hm : ∀ v, (maskS (o.looksAt ops) s)[d]? = some (some v) ↔ s[d]? = some (some v) := fun v => by
        unfold maskS
        rw [maskGo_get, Nat.zero_add]
        exact ⟨fun h => h.1, fun h => ⟨h, hin⟩⟩
      simp only
      cases hs : s[d]? with
      | none =>
        cases hx : (maskS (o.looksAt ops) s)[d]? with
        | none => rfl
        | some v => cases v with
          | none => rfl
          | some v => rw [(hm v).1 hx] at hs; cases hs
      | some v =>
        cases v with
        | none =>
          cases hx : (maskS (o.looksAt ops) s)[d]? with
          | none => rfl
          | some v => cases v with
            | none => rfl
            | some v => rw [(hm v).1 hx] at hs; cases hs
        | some v =>
          rw [(hm v).2 hs]
          cases v with
          | bool b => cases b <;> cases want <;> simp [setB_eq hs]
          | _ => rfl

theorem opK_eq {R : Type} {E : Env} {rec : Rec} {fl : Nat} {tight : Bool} {ev : Operand → Option PV} {σ : Store} {o : Op} {k : PV → Store → Option R} : opK E rec fl tight ev σ o k = then2 (opA E rec fl tight ev σ o) k := by
  cases o with
  | pick c a b =>
    cases tight with
    | true => rfl
    | false =>
      simp only [opK, opA, Bool.false_eq_true, if_false, stepA, isPure, if_true, pureA]
      cases hc : ev c with
      | none => rfl
      | some v =>
        cases v with
        | bool t => cases t <;> rfl
        | _ => rfl
  | _ => rfl

theorem opsK_eq {R : Type} {E : Env} {rec : Rec} {fl : Nat} {ops : Array Oper} {tight : List Bool} : ∀ (rest : List Oper) (i : Nat) (s : Slots) (σ : Store) (k : Slots → Store → Option R),
    opsK E rec fl ops tight rest i s σ k = then2 (opsA E rec fl ops tight rest i s σ) k
  | [], i, s, σ, k => rfl
  | o :: rest, i, s, σ, k => by
    simp only [opsK, opsA, wantedK_eq, opK_eq]
    cases hw : wantedA ops (maskS (o.looksAt ops) s) o with
    | none => rfl
    | some b =>
      cases b with
      | true =>
        simp only
        cases ho : opA E rec fl (tight.getD i true) (evalA (maskS (o.looksAt ops) s)) σ o.op with
        | none => rfl
        | some r =>
          obtain ⟨v, σ1⟩ := r
          simp only [then2]
          exact opsK_eq rest (i + 1) _ _ k
      | false => exact opsK_eq rest (i + 1) _ _ k

theorem opsDK_eq {R : Type} {E : Env} {rec : Rec} {fl : Nat} {ops : Array Oper} {b : List Nat} {tight : List Bool} : ∀ (rest : List Oper) (i : Nat) (fs : List (Option Nat)) (s : Slots) (σ : Store) (k : Slots → Store → Option R),
    opsDK E rec fl ops b tight rest i fs s σ k = then2 (opsD E rec fl ops b tight rest i fs s σ) k
  | [], i, fs, s, σ, k => rfl
  | o :: rest, i, fs, s, σ, k => by
    simp only [opsDK, opsD, wantedK_eq, opK_eq]
    cases hw : wantedA ops (maskS (o.looksAt ops) s) o with
    | none => rfl
    | some t =>
      cases t with
      | true =>
        simp only
        cases ho : opA E rec fl (tight.getD i true) (evalA (maskS (o.looksAt ops) s)) σ o.op with
        | none => rfl
        | some r =>
          obtain ⟨v, σ1⟩ := r
          simp only [then2]
          cases hb : besideOk b i o.op (footOf (evalA (maskS (o.looksAt ops) s)) o.op) v σ ops.toList fs with
          | true => simp only [if_true]; exact opsDK_eq rest (i + 1) _ _ _ k
          | false => rfl
      | false => exact opsDK_eq rest (i + 1) _ _ _ k

theorem iterK_eq {R : Type} {body : Slots → Store → Option (Out × Slots × Store)} {bodyK : Slots → Store → (Out → Slots → Store → Option R) → Option R} (hb : ∀ s σ k, bodyK s σ k = then3 (body s σ) k) :
    ∀ (n : Nat) (s : Slots) (σ : Store) (k : Out → Slots → Store → Option R), iterK bodyK n s σ k = then3 (iterA body n s σ) k
  | 0, s, σ, k => rfl
  | n + 1, s, σ, k => by
    simp only [iterK, iterA, hb]
    cases h : body s σ with
    | none => rfl
    | some r =>
      obtain ⟨o, s1, σ1⟩ := r
      cases o with
      | norm => simp only [then3]; exact iterK_eq hb n s1 σ1 k
      | exit j => rfl
      | ret => rfl

theorem codeK_eq {R : Type} {E : Env} {rec : Rec} {fl n : Nat} : ∀ (c : Code) (s : Slots) (σ : Store) (k : Out → Slots → Store → Option R), codeK E rec fl n c s σ k = then3 (codeA E rec fl n c s σ) k := by
  intro c
  induction c with
  | skip => intro s σ k; rfl
  | region id ops d =>
    intro s σ k
    cases d with
    | false =>
      simp only [codeK, codeA, opsK_eq]
      cases opsA E rec fl ops (noTight ops) ops.toList 0 s σ <;> rfl
    | true =>
      simp only [codeK, codeA]
      split
      · rw [opsDK_eq]
        cases opsD E rec fl ops (masks ops) (tightOf ops (masks ops)) ops.toList 0 [] s σ <;> rfl
      · rfl
  | seq a b iha ihb =>
    intro s σ k
    simp only [codeK, codeA, iha]
    cases h : codeA E rec fl n a s σ with
    | none => rfl
    | some r =>
      obtain ⟨o, s1, σ1⟩ := r
      cases o with
      | norm => simp only [then3]; exact ihb s1 σ1 k
      | exit j => rfl
      | ret => rfl
  | cond c x y ihx ihy =>
    intro s σ k
    simp only [codeK, codeA]
    split
    · rename_i b hb
      cases b with
      | true => simp only [cond_true, hb, setO_eq hb]; exact ihx s σ k
      | false => simp only [cond_false, hb, setO_eq hb]; exact ihy s σ k
    · rename_i hn
      split
      · rename_i hb; exact absurd hb (hn true)
      · rename_i hb; exact absurd hb (hn false)
      · rfl
  | block id body ih =>
    intro s σ k
    simp only [codeK, codeA, ih]
    cases h : codeA E rec fl n body s σ with
    | none => rfl
    | some r =>
      obtain ⟨o, s1, σ1⟩ := r
      cases o with
      | norm => rfl
      | exit j =>
        simp only [then3]
        split <;> rfl
      | ret => rfl
  | loop body ih =>
    intro s σ k
    simp only [codeK, codeA]
    exact iterK_eq ih n s σ k
  | exit id => intro s σ k; rfl
  | ret => intro s σ k; rfl
  | _ => intro s σ k; rfl

/-- A function's body, its parameters laid; its end. -/
def bodyK (E : Env) (rec : Rec) (fl n : Nat) (fn : Func) (c : Code) (args : List PV) (σ : Store) : Option (PV × Store) :=
  codeK E rec fl n c (args.map some ++ List.replicate (fn.ntmps - args.length) none) σ fun o s1 σ1 => match o with
    | .norm => endA E fn s1 σ1
    | .ret => endA E fn s1 σ1
    | .exit _ => none

theorem enter_of {E : Env} {rec : Rec} {fl n : Nat} {f : FuncId} {fn : Func} {c : Code} {args : List PV} {σ : Store} (hf : E.P.funcs[f]? = some fn) (hc : fn.body = some c) (hl : args.length ≤ fn.ntmps) :
    enterA E rec n f args σ fl = bodyK E rec fl n fn c args σ := by
  unfold enterA bodyK
  rw [codeK_eq]
  simp only [hf, hc, if_pos hl]
  cases h : codeA E rec fl n c (args.map some ++ List.replicate (fn.ntmps - args.length) none) σ with
  | none => rfl
  | some r =>
    obtain ⟨o, s1, σ1⟩ := r
    cases o <;> rfl

/-! ### more known of the calls -/

/-- Of a function that is called apart, its result alone counts. -/
def Rec.le (E : Env) (r1 r2 : Rec) : Prop := ∀ f args σ fl v σ1, r1 f args σ fl = some (v, σ1) → if E.apart f then ∃ σ2, r2 f args σ fl = some (v, σ2) else r2 f args σ fl = some (v, σ1)

theorem Rec.le.of {E : Env} {r1 r2 : Rec} (h : ∀ f args σ fl p, r1 f args σ fl = some p → r2 f args σ fl = some p) : Rec.le E r1 r2 := by
  intro f args σ fl v σ1 h1
  split
  · exact ⟨σ1, h _ _ _ _ _ h1⟩
  · exact h _ _ _ _ _ h1

theorem callA_le {E : Env} {r1 r2 : Rec} (h : Rec.le E r1 r2) {fl : Nat} {σ : Store} {f : FuncId} {args : List PV} {p : PV × Store} (hc : callA E r1 fl σ f args = some p) : callA E r2 fl σ f args = some p := by
  unfold callA at hc ⊢
  cases hx : E.ext f with
  | some x => simpa [hx] using hc
  | none =>
    simp only [hx] at hc ⊢
    cases hf : E.P.funcs[f]? with
    | none => simp [hf] at hc
    | some fn =>
      simp only [hf] at hc ⊢
      split at hc
      · cases hc
      · rename_i hn
        rw [if_neg hn]
        split at hc
        · rename_i hap
          rw [if_pos hap]
          split at hc
          · rename_i ho
            rw [if_pos ho]
            split at hc
            · rename_i v σ1 hv
              have := h _ _ _ _ _ _ hv
              rw [if_pos hap] at this
              obtain ⟨σ2, h2⟩ := this
              rw [h2]
              exact hc
            · cases hc
          · cases hc
        · rename_i hap
          rw [if_neg hap]
          have hex : ∀ args σ, r1 f args σ fl = some p → r2 f args σ fl = some p := by
            intro args σ h1
            obtain ⟨v, σ1⟩ := p
            have := h _ _ _ _ _ _ h1
            rwa [if_neg hap] at this
          split at hc
          · rename_i hs
            rw [if_pos hs]
            split at hc
            · rename_i as σ1 ha
              exact hex _ _ hc
            · cases hc
          · rename_i hs
            rw [if_neg hs]
            exact hex _ _ hc

theorem memA_le {E : Env} {r1 r2 : Rec} (h : Rec.le E r1 r2) {fl : Nat} {σ : Store} {ev : Operand → Option PV} {o : Op} {p : PV × Store} (hc : memA E r1 fl ev σ o = some p) : memA E r2 fl ev σ o = some p := by
  cases o with
  | call c =>
    simp only [memA] at hc ⊢
    cases ha : evalAll ev c.args.toList with
    | none => simp [ha] at hc
    | some args =>
      simp only [ha] at hc ⊢
      cases hk : c.callee with
      | builtin b => simpa [hk] using hc
      | value f =>
        simp only [hk] at hc ⊢
        cases hv : ev f with
        | none => simp [hv] at hc
        | some x =>
          simp only [hv] at hc ⊢
          split at hc
          · exact callA_le h hc
          · cases hc
      | invoke _ _ => simp [hk] at hc
  | _ => exact hc

theorem opA_le {E : Env} {r1 r2 : Rec} (h : Rec.le E r1 r2) {fl : Nat} {tight : Bool} {σ : Store} {ev : Operand → Option PV} {o : Op} {p : PV × Store} (hc : opA E r1 fl tight ev σ o = some p) : opA E r2 fl tight ev σ o = some p := by
  have hs : ∀ fl p, stepA E r1 fl ev σ o = some p → stepA E r2 fl ev σ o = some p := by
    intro fl p hc
    unfold stepA at hc ⊢
    split at hc
    · rename_i hp; rw [if_pos hp]; exact hc
    · rename_i hp; rw [if_neg hp]; exact memA_le h hc
  unfold opA at hc ⊢
  split at hc
  · rename_i ht
    rw [if_pos ht]
    split at hc
    · rename_i v σ1 hv
      rw [hs _ _ hv]
      exact hc
    · cases hc
  · rename_i ht
    rw [if_neg ht]
    exact hs _ _ hc

theorem opsA_le {E : Env} {r1 r2 : Rec} (h : Rec.le E r1 r2) {fl : Nat} {ops : Array Oper} {tight : List Bool} : ∀ (rest : List Oper) (i : Nat) (s : Slots) (σ : Store) (p : Slots × Store),
    opsA E r1 fl ops tight rest i s σ = some p → opsA E r2 fl ops tight rest i s σ = some p
  | [], i, s, σ, p, hc => hc
  | o :: rest, i, s, σ, p, hc => by
    simp only [opsA] at hc ⊢
    split at hc
    · rename_i hw
      split at hc
      · rename_i v σ1 ho
        simp only [hw, opA_le h ho]
        exact opsA_le h rest (i + 1) _ _ p hc
      · cases hc
    · rename_i hw
      exact opsA_le h rest (i + 1) _ _ p hc
    · cases hc

theorem opsD_le {E : Env} {r1 r2 : Rec} (h : Rec.le E r1 r2) {fl : Nat} {ops : Array Oper} {b : List Nat} {tight : List Bool} : ∀ (rest : List Oper) (i : Nat) (fs : List (Option Nat)) (s : Slots) (σ : Store) (p : Slots × Store),
    opsD E r1 fl ops b tight rest i fs s σ = some p → opsD E r2 fl ops b tight rest i fs s σ = some p
  | [], i, fs, s, σ, p, hc => hc
  | o :: rest, i, fs, s, σ, p, hc => by
    simp only [opsD] at hc ⊢
    split at hc
    · rename_i hw
      split at hc
      · rename_i v σ1 ho
        simp only [hw, opA_le h ho]
        split at hc
        · rename_i hb
          rw [if_pos hb]
          exact opsD_le h rest (i + 1) _ _ _ p hc
        · cases hc
      · cases hc
    · rename_i hw
      exact opsD_le h rest (i + 1) _ _ _ p hc
    · cases hc

theorem iterA_le {b1 b2 : Slots → Store → Option (Out × Slots × Store)} (h : ∀ s σ p, b1 s σ = some p → b2 s σ = some p) : ∀ (n : Nat) (s : Slots) (σ : Store) (p : Out × Slots × Store), iterA b1 n s σ = some p → iterA b2 n s σ = some p
  | 0, s, σ, p, hc => hc
  | n + 1, s, σ, p, hc => by
    simp only [iterA] at hc ⊢
    cases hb : b1 s σ with
    | none => simp [hb] at hc
    | some r =>
      rw [h s σ r hb]
      rw [hb] at hc
      obtain ⟨o, s1, σ1⟩ := r
      cases o with
      | norm => exact iterA_le h n s1 σ1 p hc
      | exit j => exact hc
      | ret => exact hc

theorem codeA_le {E : Env} {r1 r2 : Rec} (h : Rec.le E r1 r2) {fl n : Nat} : ∀ (c : Code) (s : Slots) (σ : Store) (p : Out × Slots × Store), codeA E r1 fl n c s σ = some p → codeA E r2 fl n c s σ = some p := by
  intro c
  induction c with
  | region id ops d =>
    intro s σ p hc
    cases d with
    | false =>
      simp only [codeA] at hc ⊢
      cases ho : opsA E r1 fl ops (noTight ops) ops.toList 0 s σ with
      | none => simp [ho] at hc
      | some r => rw [opsA_le h _ _ _ _ _ ho]; rw [ho] at hc; exact hc
    | true =>
      simp only [codeA] at hc ⊢
      split at hc
      · rename_i hp
        rw [if_pos hp]
        cases ho : opsD E r1 fl ops (masks ops) (tightOf ops (masks ops)) ops.toList 0 [] s σ with
        | none => simp [ho] at hc
        | some r => rw [opsD_le h _ _ _ _ _ _ ho]; rw [ho] at hc; exact hc
      · cases hc
  | seq a b iha ihb =>
    intro s σ p hc
    simp only [codeA] at hc ⊢
    cases ha : codeA E r1 fl n a s σ with
    | none => simp [ha] at hc
    | some r =>
      rw [iha _ _ _ ha]
      rw [ha] at hc
      obtain ⟨o, s1, σ1⟩ := r
      cases o with
      | norm => exact ihb _ _ _ hc
      | exit j => exact hc
      | ret => exact hc
  | cond c x y ihx ihy =>
    intro s σ p hc
    simp only [codeA] at hc ⊢
    split at hc
    · exact ihx _ _ _ hc
    · exact ihy _ _ _ hc
    · cases hc
  | block id body ih =>
    intro s σ p hc
    simp only [codeA] at hc ⊢
    cases ha : codeA E r1 fl n body s σ with
    | none => simp [ha] at hc
    | some r =>
      rw [ih _ _ _ ha]
      rw [ha] at hc
      exact hc
  | loop body ih =>
    intro s σ p hc
    simp only [codeA] at hc ⊢
    exact iterA_le ih n s σ p hc
  | _ => intro s σ p hc; exact hc

theorem enterA_le' {E : Env} {r1 r2 : Rec} (h : Rec.le E r1 r2) (n : Nat) : ∀ f args σ fl p, enterA E r1 n f args σ fl = some p → enterA E r2 n f args σ fl = some p := by
  intro f args σ fl p hc
  unfold enterA at hc ⊢
  split at hc
  · rename_i fn hf
    split at hc
    · rename_i c hb
      split at hc
      · rename_i hl
        rw [if_pos hl]
        cases ha : codeA E r1 fl n c (args.map some ++ List.replicate (fn.ntmps - args.length) none) σ with
        | none => simp [ha] at hc
        | some r =>
          rw [codeA_le h _ _ _ _ ha]
          rw [ha] at hc
          exact hc
      · cases hc
    · cases hc
  · cases hc

theorem enterA_le {E : Env} {r1 r2 : Rec} (h : Rec.le E r1 r2) (n : Nat) : Rec.le E (enterA E r1 n) (enterA E r2 n) := .of (enterA_le' h n)

theorem runA_le {E : Env} (n : Nat) : ∀ k, Rec.le E (runA E n k) (runA E n (k + 1))
  | 0 => .of fun f args σ fl p h => by cases h
  | k + 1 => enterA_le (runA_le n k) n

/-- A function's result alone. -/
def bodyV (E : Env) (rec : Rec) (fl n : Nat) (fn : Func) (c : Code) (args : List PV) (σ : Store) : Option PV :=
  codeK E rec fl n c (args.map some ++ List.replicate (fn.ntmps - args.length) none) σ fun o s1 σ1 => match o with
    | .norm => then2 (endA E fn s1 σ1) fun v _ => some v
    | .ret => then2 (endA E fn s1 σ1) fun v _ => some v
    | .exit _ => none

theorem enter_value {E : Env} {rec : Rec} {fl n : Nat} {f : FuncId} {fn : Func} {c : Code} {args : List PV} {σ : Store} {v : PV} (hf : E.P.funcs[f]? = some fn) (hc : fn.body = some c) (hl : args.length ≤ fn.ntmps)
    (h : bodyV E rec fl n fn c args σ = some v) : ∃ σ1, enterA E rec n f args σ fl = some (v, σ1) := by
  unfold bodyV at h
  rw [codeK_eq] at h
  unfold enterA
  simp only [hf, hc, if_pos hl]
  cases ha : codeA E rec fl n c (args.map some ++ List.replicate (fn.ntmps - args.length) none) σ with
  | none => rw [ha] at h; cases h
  | some r =>
    rw [ha] at h
    obtain ⟨o, s1, σ1⟩ := r
    have key : ∀ x : Option (PV × Store), then2 x (fun v _ => some v) = some v → ∃ σ1, x = some (v, σ1) := by
      intro x hx
      cases x with
      | none => cases hx
      | some y => obtain ⟨a, b⟩ := y; simp only [then2, Option.some.injEq] at hx; exact ⟨b, by rw [hx]⟩
    cases o with
    | norm => exact key _ h
    | ret => exact key _ h
    | exit j => cases h

end Go.Proofs.Ytbnfofcbajaiiaa.Am
