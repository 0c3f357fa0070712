/- The trace of a region in the order of the text, and what it says of each order. -/
import Derived.Test.YtaofbpldflcjmaaDoorMMRs
import Derived.Test.YtaofbpldflcjmaaDoorMMSt
import Derived.Test.YtaofbpldflcjmaaDoorMZDraw1
set_option linter.unusedVariables false
set_option linter.unusedSimpArgs false
namespace Go.Proofs.YtaofbpldflcjmaaDoor.Am
section
variable {E : Env} {fl : Nat} {rec : Rec} {ops : Array Oper} {tight : List Bool}
structure Ran (E : Env) (rec : Rec) (fl : Nat) (ops : Array Oper) (tight : List Bool) (foot : Nat -> Option Nat) (p : Slots × Store) (i : Nat) (o : Oper) (v : PV) (q : Slots × Store) : Prop where
  slots : q.1 = putA p.1 o.dst v
  does : (wantedA ops (maskS (o.looksAt ops) p.1) o = some true /\ opA E rec fl (tight.getD i true) (evalA (maskS (o.looksAt ops) p.1)) p.2 o.op = some (v, q.2) /\ foot i = footOf (evalA (maskS (o.looksAt ops) p.1)) o.op /\ (isLoad o.op = true -> oldV p.2.length v = true)) ∨
    (wantedA ops (maskS (o.looksAt ops) p.1) o = some false /\ v = .tup [] /\ q.2 = p.2 /\ foot i = none)
  apart : ∀ (k : Nat) (y : Oper), k < i -> ops[k]? = some y -> beside (masks ops) i k o.op y.op = true -> foot i = none ∨ foot i ≠ foot k ∨ entryPair o.op y.op = true
theorem trace : ∀ (rest : List Oper) (i : Nat) (foot0 : Nat -> Option Nat) {fs : List (Option Nat)} {s s' : Slots} {σ σ' : Store}, opsD E rec fl ops (masks ops) tight rest i fs s σ = some (s', σ') -> fs.length = i -> (∀ k, k < i -> fs[k]? = some (foot0 k)) ->
    ∃ (st : Nat -> Slots × Store) (val : Nat -> PV) (foot : Nat -> Option Nat), st i = (s, σ) /\ st (i + rest.length) = (s', σ') /\ (∀ k, k < i -> foot k = foot0 k) /\
      ∀ (k : Nat) (o : Oper), rest[k]? = some o -> Ran E rec fl ops tight foot (st (i + k)) (i + k) o (val (i + k)) (st (i + k + 1))
  | [], i, foot0, fs, s, s', σ, σ', h, _, _ => by
    cases h
    exact ⟨fun _ => (s, σ), fun _ => .nils, foot0, rfl, rfl, fun _ _ => rfl, fun k o h => by simp at h⟩
  | o :: rest, i, foot0, fs, s, s', σ, σ', h, hfs, hfoot => by
    unfold opsD at h
    have key : ∃ v σ1 f, opsD E rec fl ops (masks ops) tight rest (i + 1) (fs ++ [f]) (putA s o.dst v) σ1 = some (s', σ') /\
        (∀ foot : Nat -> Option Nat, foot i = f -> (∀ k, k < i -> foot k = foot0 k) -> Ran E rec fl ops tight foot (s, σ) i o v (putA s o.dst v, σ1)) := by
      split at h
      . rename_i hw
        split at h
        . rename_i v σ1 ho
          split at h
          . rename_i hb
            simp only [besideOk, Bool.and_eq_true, Bool.or_eq_true, Bool.not_eq_true'] at hb
            refine ⟨v, σ1, _, h, fun foot e1 e2 => ⟨rfl, .inl ⟨hw, ho, e1, fun hl => ?_⟩, fun k y hk hy hbe => ?_⟩⟩
            . rcases hb.1 with h1 | h1
              . rw [hl] at h1; cases h1
              . exact h1
            . rw [e1, e2 k hk]
              exact footOk_ok ops.toList 0 fs hb.2 k y (foot0 k) (by simpa using hy) (hfoot k hk) (by rwa [Nat.zero_add])
          . cases h
        . cases h
      . rename_i hw
        exact ⟨.tup [], σ, none, h, fun foot e1 e2 => ⟨rfl, .inr ⟨hw, rfl, rfl, e1⟩, fun k y hk hy hbe => .inl e1⟩⟩
      . cases h
    obtain ⟨v, σ1, f, ho, hr⟩ := key
    obtain ⟨st, val, foot, h1, h2, h3, h4⟩ := trace rest (i + 1) (fun j => if j = i then f else foot0 j) ho (by simp [hfs]) (fun k hk => by
      by_cases e : k = i
      . subst e
        rw [List.getElem?_append_right (by omega)]
        simp [hfs]
      . rw [List.getElem?_append_left (by omega), hfoot k (by omega)]
        simp [e])
    have hfi : foot i = f := by rw [h3 i (by omega)]; simp
    have hfl : ∀ k, k < i -> foot k = foot0 k := fun k hk => by
      rw [h3 k (by omega)]
      simp [show k ≠ i by omega]
    refine ⟨fun j => if j = i then (s, σ) else st j, fun j => if j = i then v else val j, foot, by simp, ?_, hfl, ?_⟩
    . dsimp only
      rw [if_neg (by simp), <- h2]
      congr 1
      simp
      omega
    . intro k o' hk
      dsimp only
      cases k with
      | zero =>
        simp at hk
        subst hk
        rw [if_pos (by omega), if_pos (by omega), if_neg (by omega)]
        simpa [h1] using hr foot hfi hfl
      | succ k =>
        have := h4 k o' (by simpa using hk)
        rw [if_neg (by omega), if_neg (by omega), if_neg (by omega)]
        rwa [show i + 1 + k = i + (k + 1) by omega] at this
theorem tight_load {i : Nat} {o : Oper} (ho : ops[i]? = some o) (hp : isLoad o.op = true) : (tightOf ops (masks ops)).getD i true = false := by
  have h1 := tightGo_ok (ops := ops) (b := masks ops) ops.toList 0 i o (by simpa using ho)
  unfold tightOf
  rw [List.getD_eq_getElem?_getD, h1]
  simp [hp]
theorem tight_pure {i : Nat} {o : Oper} (ho : ops[i]? = some o) (hp : isPure o.op = true) : (tightOf ops (masks ops)).getD i true = false := by
  have h1 := tightGo_ok (ops := ops) (b := masks ops) ops.toList 0 i o (by simpa using ho)
  unfold tightOf
  rw [List.getD_eq_getElem?_getD, h1]
  simp [hp]
theorem opA_pure {ev : Operand -> Option PV} {σ σ' τ : Store} {o : Op} {v : PV} (hp : isPure o = true) (h : opA E rec fl false ev σ o = some (v, σ')) : opA E rec fl false ev τ o = some (v, τ) := by
  simp only [opA, Bool.false_eq_true, if_false, stepA, hp, if_true] at h ⊢
  cases hq : pureA E ev o with
  | none => simp [hq] at h
  | some x => simp [hq] at h ⊢; exact h.1
theorem getD_false {L : Array Bool} {i : Nat} (h : L.getD i true = false) : L.getD i false = false := by
  by_cases hi : i < L.size
  . simpa [Array.getD, hi] using h
  . simp [Array.getD, hi] at h
variable {st : Nat -> Slots × Store} {val : Nat -> PV} {foot : Nat -> Option Nat} {s : Slots}
def Firm (ops : Array Oper) (j : Nat) : Prop := ∃ o, ops[j]? = some o /\ isPure o.op = false /\ isLoad o.op = false /\ (tightOf ops (masks ops)).getD j true = false
theorem not_firm {i : Nat} {o : Oper} (ho : ops[i]? = some o) (hn : ¬ Firm ops i) : isPure o.op = true ∨ isLoad o.op = true ∨ (isPure o.op = false /\ isLoad o.op = false /\ (tightOf ops (masks ops)).getD i true = true) := by
  cases hp : isPure o.op with
  | true => exact .inl rfl
  | false =>
    cases hl : isLoad o.op with
    | true => exact .inr (.inl rfl)
    | false =>
      cases ht : (tightOf ops (masks ops)).getD i true with
      | true => exact .inr (.inr ⟨rfl, rfl, rfl⟩)
      | false => exact absurd ⟨o, ho, hp, hl, ht⟩ hn
abbrev Textual (E : Env) (rec : Rec) (fl : Nat) (ops : Array Oper) (foot : Nat -> Option Nat) (st : Nat -> Slots × Store) (val : Nat -> PV) : Prop :=
  ∀ (i : Nat) (o : Oper), ops[i]? = some o -> Ran E rec fl ops (tightOf ops (masks ops)) foot (st i) i o (val i) (st (i + 1))
theorem pure_same (hran : Textual E rec fl ops foot st val) {i : Nat} {o : Oper} (ho : ops[i]? = some o) (hp : isPure o.op = true) : (st (i + 1)).2 = (st i).2 := by
  rcases (hran i o ho).does with ⟨_, h, _⟩ | ⟨_, _, h, _⟩
  . rw [tight_pure ho hp] at h
    have := opA_pure (τ := (st i).2) hp h
    rw [h, Option.some.injEq, Prod.mk.injEq] at this
    exact this.2
  . exact h
theorem load_at {ev : Operand -> Option PV} {σ σ' τ : Store} {o : Op} {v : PV} {fl' : Nat} (hp : isLoad o = true) (hs : ∀ id, footOf ev o = some id -> τ[id]? = σ[id]?) (h : opA E rec fl false ev σ o = some (v, σ')) :
    σ' = σ /\ stepA E rec fl' ev τ o = some (v, τ) /\ ∀ id, footOf ev o = some id -> id < σ.length := by
  cases o with
  | load t a =>
    simp only [opA, Bool.false_eq_true, if_false, stepA, isPure, memA] at h ⊢
    simp only [footOf] at hs ⊢
    cases ha : ev a with
    | none => simp [ha] at h
    | some p =>
      simp only [ha] at h hs ⊢
      cases hl : loadAt E σ t p with
      | none => simp [hl] at h
      | some x =>
        simp [hl] at h
        obtain ⟨rfl, rfl⟩ := h
        have hid : ∀ id b f, p = .ptr id b f -> id < σ.length := by
          intro id b f e
          subst e
          unfold loadAt loadRaw at hl
          cases hg : getMem σ id with
          | none => simp [cellsAt, hg] at hl; obtain ⟨q, hl, _⟩ := hl; split at hl <;> (try split at hl) <;> simp_all
          | some m =>
            unfold getMem at hg
            split at hg
            . rename_i m' hm
              exact (List.getElem?_eq_some_iff.1 hm).1
            . cases hg
        refine ⟨rfl, ?_, fun id he => ?_⟩
        . have : loadAt E τ t p = loadAt E σ t p := by
            cases p with
            | ptr id b f =>
              have e : getMem τ id = getMem σ id := by unfold getMem; rw [hs id rfl]
              simp only [loadAt, loadRaw, cellsAt, e]
            | _ => rfl
          rw [this, hl]
          rfl
        . cases p with
          | ptr id' b f => cases he; exact hid _ _ _ rfl
          | _ => cases he
  | lookup t x kk ok =>
    simp only [opA, Bool.false_eq_true, if_false, stepA, isPure, memA] at h ⊢
    simp only [footOf] at hs ⊢
    cases hx : ev x with
    | none => simp [hx] at h
    | some p =>
      cases hk : ev kk with
      | none => simp [hx, hk] at h
      | some q =>
        simp only [hx, hk] at h hs ⊢
        cases hl : lookA E σ t p q ok with
        | none => simp [hl] at h
        | some r =>
          simp [hl] at h
          obtain ⟨rfl, rfl⟩ := h
          have e : lookA E τ t p q ok = lookA E σ t p q ok := by
            cases p with
            | mp id =>
              have e : getMap τ id = getMap σ id := by unfold getMap; rw [hs id rfl]
              simp only [lookA, e]
            | _ => rfl
          refine ⟨rfl, by rw [e, hl]; rfl, fun id he => ?_⟩
          cases p with
          | mp id' =>
            cases he
            cases hg : getMap σ id with
            | some m => exact (List.getElem?_eq_some_iff.1 (getMap_get hg).1).1
            | none =>
              exfalso
              unfold lookA at hl
              simp only [hg, Option.map_none] at hl
              split at hl
              . split at hl
                . cases hl
                . cases hl
              . cases hl
          | _ => cases he
  | slice t x lo hi mx =>
    simp only [opA, Bool.false_eq_true, if_false, stepA, isPure, memA] at h ⊢
    simp only [footOf] at hs ⊢
    cases hx : ev x with
    | none => simp [hx] at h
    | some p =>
      cases h1 : evalOpt ev lo with
      | none => simp [hx, h1] at h
      | some l =>
        cases h2 : evalOpt ev hi with
        | none => simp [hx, h1, h2] at h
        | some hh =>
          cases h3 : evalOpt ev mx with
          | none => simp [hx, h1, h2, h3] at h
          | some mm =>
            simp only [hx, h1, h2, h3] at h hs ⊢
            cases hl : sliceA E σ t p l hh mm with
            | none => simp [hl] at h
            | some r =>
              simp [hl] at h
              obtain ⟨rfl, rfl⟩ := h
              have e : sliceA E τ t p l hh mm = sliceA E σ t p l hh mm := by
                cases p with
                | osl id b c es len xc =>
                  have e : getMem τ id = getMem σ id := by unfold getMem; rw [hs id rfl]
                  have e2 : ∀ s, sliceSl τ s (.osl id b c es len xc) l hh mm = sliceSl σ s (.osl id b c es len xc) l hh mm := fun s => by simp only [sliceSl, e]
                  unfold sliceA
                  generalize E.P.underlying t = u
                  cases u with
                  | none => rfl
                  | some d => cases d <;> first | rfl | (dsimp only; simp only [e2])
                | _ =>
                  unfold sliceA
                  generalize E.P.underlying t = u
                  cases u with
                  | none => rfl
                  | some d => cases d <;> rfl
              refine ⟨rfl, by rw [e, hl]; rfl, fun id he => ?_⟩
              cases p with
              | osl id' b c es len xc =>
                cases he
                cases hg : getMem σ id with
                | some m =>
                  unfold getMem at hg
                  split at hg
                  . rename_i m' hm
                    exact (List.getElem?_eq_some_iff.1 hm).1
                  . cases hg
                | none =>
                  exfalso
                  unfold sliceA at hl
                  split at hl
                  . cases hl
                  . split at hl
                    . rename_i e2; cases e2
                    . split at hl
                      . split at hl
                        . simp [sliceSl, hg] at hl
                        . cases hl
                      . cases hl
                    . split at hl
                      . split at hl
                        . cases hl
                        . split at hl
                          . split at hl
                            . split at hl
                              . split at hl
                                . cases hl
                                . cases hl
                              . cases hl
                            . cases hl
                          . cases hl
                      . cases hl
                    . cases hl
              | _ => cases he
  | _ => cases hp
theorem load_same (hran : Textual E rec fl ops foot st val) {i : Nat} {o : Oper} (ho : ops[i]? = some o) (hp : isLoad o.op = true) : (st (i + 1)).2 = (st i).2 := by
  rcases (hran i o ho).does with ⟨_, h, _⟩ | ⟨_, _, h, _⟩
  . rw [tight_load ho hp] at h
    exact (load_at (fl' := fl) (τ := (st i).2) hp (fun _ _ => rfl) h).1
  . exact h
theorem grows (hran : Textual E rec fl ops foot st val) {i : Nat} {o : Oper} (ho : ops[i]? = some o) (hn : ¬ Firm ops i) : ∃ new, (st (i + 1)).2 = (st i).2 ++ new := by
  rcases not_firm ho hn with hp | hp | ⟨hp, _, ht⟩
  . exact ⟨[], by rw [pure_same hran ho hp, List.append_nil]⟩
  . exact ⟨[], by rw [load_same hran ho hp, List.append_nil]⟩
  . rcases (hran i o ho).does with ⟨_, h, _⟩ | ⟨_, _, h, _⟩
    . rw [ht] at h
      simp only [opA, if_true] at h
      split at h
      . split at h
        . simp only [Option.some.injEq, Prod.mk.injEq] at h
          exact ⟨_, h.2.symm⟩
        . cases h
      . cases h
    . exact ⟨[], by rw [h, List.append_nil]⟩
theorem appendA_keep {σ σ' : Store} {e : TypeId} {x v : PV} {n : Nat} {new : List PV} (h : appendA E fl σ e x n new = some (v, σ')) {id : Nat} (hid : ∀ b c es len xc, x ≠ .osl id b c es len xc) (hlt : id < σ.length) : σ'[id]? = σ[id]? := by
  unfold appendA at h
  split at h
  . simp only at h
    split at h
    . split at h
      . split at h <;> first | (cases h; rfl) | (cases h; done)
      . split at h
        . split at h
          . cases h; rw [List.getElem?_append_left hlt]
          . cases h
        . split at h
          . cases h; rw [List.getElem?_append_left hlt]
          . cases h
        . rename_i id' b c es len
          have hne : id' ≠ id := fun e => hid b c es len none (by rw [e])
          split at h
          . split at h
            . split at h
              . cases h; rw [List.getElem?_set_ne hne]
              . split at h
                . cases h; rw [List.getElem?_set_ne hne]
                . cases h
            . cases h
          . cases h
        . cases h
    . cases h
  . cases h
theorem append_keep {σ σ' : Store} {ats : Array TypeId} {v : PV} {id : Nat} (hlt : id < σ.length) : ∀ (as : List PV), builtinA E fl σ .append ats as = some (v, σ') ->
    (match (some as : Option (List PV)) with | some (.osl id _ _ _ _ _ :: _) => some id | _ => none) ≠ some id -> σ'[id]? = σ[id]?
  | [], h, _ => by simp [builtinA] at h
  | [_], h, _ => by simp [builtinA] at h
  | _ :: _ :: _ :: _, h, _ => by simp [builtinA] at h
  | [x, y], h, hid => by
    simp only [builtinA] at h
    split at h
    . split at h
      . split at h
        . exact appendA_keep h (fun b c es len xc e => hid (by subst e; rfl)) hlt
        . cases h
      . cases h
    . cases h
theorem store_keep {ev : Operand -> Option PV} {σ σ' : Store} {o : Op} {v : PV} (hp : isStore o = true) (h : opA E rec fl false ev σ o = some (v, σ')) {id : Nat} (hid : footOf ev o ≠ some id) (hlt : id < σ.length) : σ'[id]? = σ[id]? := by
  cases o with
  | call c =>
    obtain ⟨callee, args, ats⟩ := c
    cases callee with
    | value f => cases hp
    | invoke i m => cases hp
    | builtin b =>
      cases b <;> first | (cases hp; done) | skip
      simp only [opA, Bool.false_eq_true, if_false, stepA, isPure, memA] at h
      simp only [footOf] at hid
      split at h
      . rename_i as has
        rw [has] at hid
        exact append_keep hlt _ h hid
      . cases h
  | store t a x =>
    simp only [opA, Bool.false_eq_true, if_false, stepA, isPure, memA] at h
    simp only [footOf] at hid
    split at h
    . rename_i p q hp1 hq1
      rw [hp1] at hid
      cases hs : storeAt E fl σ t p q with
      | none => simp [hs] at h
      | some σ1 =>
        simp [hs] at h
        obtain ⟨_, rfl⟩ := h
        unfold storeAt at hs
        split at hs
        . rename_i id' b f
          split at hs
          . split at hs
            . cases hs
              have : id' ≠ id := fun e => hid (by rw [e])
              rw [List.getElem?_set_ne this]
            . cases hs
          . cases hs
        . cases hs
    . cases h
  | mapUpdate t x kk y =>
    simp only [opA, Bool.false_eq_true, if_false, stepA, isPure, memA] at h
    simp only [footOf] at hid
    split at h
    . rename_i p q z hp1 hq1 hz1
      rw [hp1] at hid
      cases hs : updateA E fl σ t p q z with
      | none => simp [hs] at h
      | some σ1 =>
        simp [hs] at h
        obtain ⟨_, rfl⟩ := h
        unfold updateA at hs
        split at hs
        . rename_i kt et id' ht
          have hne : id' ≠ id := fun e => hid (by rw [e])
          split at hs
          . split at hs
            . simp only [Option.map_eq_some_iff] at hs
              obtain ⟨m', _, rfl⟩ := hs
              rw [List.getElem?_set_ne hne]
            . cases hs
          . cases hs
        . cases hs
    . cases h
  | mapEntry t x kk =>
    simp only [opA, Bool.false_eq_true, if_false, stepA, isPure, memA] at h
    simp only [footOf] at hid
    split at h
    . rename_i p q hp1 hq1
      rw [hp1] at hid
      unfold entryA at h
      split at h
      . rename_i kt et id' ht
        have hne : id' ≠ id := fun e => hid (by rw [e])
        split at h
        . split at h
          . split at h
            . split at h
              . split at h
                . cases h; rfl
                . cases h
              . cases h
            . split at h
              . cases h
                rw [List.getElem?_set_ne hne]
              . cases h
            . cases h
          . cases h
        . cases h
      . cases h
    . cases h
  | entryStore t x b y =>
    simp only [opA, Bool.false_eq_true, if_false, stepA, isPure, memA] at h
    simp only [footOf] at hid
    split at h
    . rename_i p q z hp1 hq1 hz1
      rw [hp1] at hid
      cases hs : entryStoreA fl σ p q z with
      | none => simp [hs] at h
      | some σ1 =>
        simp [hs] at h
        obtain ⟨_, rfl⟩ := h
        unfold entryStoreA at hs
        split at hs
        . rename_i id' kd n
          have hne : id' ≠ id := fun e => hid (by rw [e])
          split at hs
          . split at hs
            . split at hs
              . split at hs
                . cases hs
                  rw [List.getElem?_set_ne hne]
                . cases hs
              . cases hs
            . cases hs
          . cases hs
        . cases hs
    . cases h
  | _ => cases hp
inductive More (E : Env) (t : TypeId) : Option Ob -> Option Ob -> Prop
  | refl (a : Option Ob) : More E t a a
  | step {a : Option Ob} {m m' : MapO} {kt et : TypeId} {z k : PV} (hk : keyT E t = some (kt, et)) (hz : zeroT E.P et = some z) (ho : keyOk E 50 kt k = true) (h : More E t a (some (.map m))) (hi : m.iter = none) (hi' : m'.iter = none)
      (he : m'.es = m.es ++ [(k, z)]) : More E t a (some (.map m'))
theorem More.trans {t : TypeId} {a b c : Option Ob} (h : More E t a b) (k : More E t b c) : More E t a c := by
  induction k with
  | refl => exact h
  | step hk hz ho _ hi hi' he ih => exact .step hk hz ho ih hi hi' he
theorem More.ents {t kt et : TypeId} {z : PV} (hk : keyT E t = some (kt, et)) (hz : zeroT E.P et = some z) {a b : Option Ob} (h : More E t a b) :
    a = b ∨ ∃ (m m' : MapO) (ex : List (PV × PV)), a = some (.map m) /\ b = some (.map m') /\ m.iter = none /\ m'.iter = none /\ m'.es = m.es ++ ex /\ ∀ e ∈ ex, e.2 = z /\ keyOk E 50 kt e.1 = true := by
  induction h with
  | refl => exact .inl rfl
  | @step m m' kt' et' z' k hk' hz' ho _ hi hi' he ih =>
    rw [hk] at hk'; cases hk'
    rw [hz] at hz'; cases hz'
    rcases ih with rfl | ⟨m0, m1, ex, h1, h2, h3, h4, h5, h6⟩
    . exact .inr ⟨m, m', [(k, z)], rfl, rfl, hi, hi', he, fun e hm => by simp only [List.mem_singleton] at hm; subst hm; exact ⟨rfl, ho⟩⟩
    . cases h2
      refine .inr ⟨m0, m', ex ++ [(k, z)], h1, rfl, h3, hi', by rw [he, h5, List.append_assoc], fun e hm => ?_⟩
      rcases List.mem_append.1 hm with hm | hm
      . exact h6 e hm
      . simp only [List.mem_singleton] at hm; subst hm; exact ⟨rfl, ho⟩
theorem More.some {t : TypeId} {a b : Option Ob} (h : More E t a b) (ha : a.isSome = true) : b.isSome = true := by
  cases h with
  | refl => exact ha
  | step => rfl
theorem find_app {t : TypeId} {k : PV} : ∀ (es ex : List (PV × PV)) (i : Nat), findM E t k (es ++ ex) i = match findM E t k es i with
    | some (some j) => some (some j)
    | some none => findM E t k ex (i + es.length)
    | none => none
  | [], ex, i => by simp [findM]
  | e :: es, ex, i => by
    simp only [List.cons_append, findM]
    cases eqA E 50 t k e.1 with
    | none => rfl
    | some b => cases b with
      | true => rfl
      | false =>
        simp only
        rw [find_app es ex (i + 1), List.length_cons, show i + 1 + es.length = i + (es.length + 1) by omega]
theorem find_ex {t : TypeId} {k : PV} (ho : keyOk E 50 t k = true) : ∀ (ex : List (PV × PV)) (i : Nat), (∀ e ∈ ex, keyOk E 50 t e.1 = true) -> ∃ r, findM E t k ex i = some r /\ ∀ j, r = some j -> i <= j /\ j < i + ex.length
  | [], i, _ => ⟨none, rfl, fun j h => by cases h⟩
  | e :: ex, i, h => by
    obtain ⟨b, hb⟩ := eqA_total 50 t k e.1 ho (h e (by simp))
    simp only [findM, hb]
    cases b with
    | true => exact ⟨some i, rfl, fun j h => by cases h; simp⟩
    | false =>
      obtain ⟨r, h1, h2⟩ := find_ex ho ex (i + 1) fun e he => h e (by simp [he])
      refine ⟨r, h1, fun j hj => ?_⟩
      have := h2 j hj
      simp only [List.length_cons]
      omega
theorem find_lt {t : TypeId} {k : PV} : ∀ (es : List (PV × PV)) (i : Nat) {j : Nat}, findM E t k es i = some (some j) -> i <= j /\ j < i + es.length
  | [], i, j, h => by cases h
  | e :: es, i, j, h => by
    simp only [findM] at h
    split at h
    . cases h; simp
    . have := find_lt es (i + 1) h
      simp only [List.length_cons]
      omega
    . cases h
theorem look_more {t : TypeId} {id : Nat} {k r : PV} {σ τ : Store} (hm : More E t σ[id]? τ[id]?) : lookA E σ t (.mp id) k false = some r ↔ lookA E τ t (.mp id) k false = some r := by
  unfold lookA
  cases hk : keyT E t with
  | none => simp
  | some p =>
    obtain ⟨kt, et⟩ := p
    simp only
    cases ho : keyOk E 50 kt k with
    | false => simp
    | true =>
      simp only [if_true]
      cases hz : zeroT E.P et with
      | none =>
        have : σ[id]? = τ[id]? := by
          generalize σ[id]? = a at hm
          generalize τ[id]? = b at hm
          cases hm with
          | refl => rfl
          | step hk' hz' => rw [hk] at hk'; cases hk'; rw [hz] at hz'; cases hz'
        have e : getMap τ id = getMap σ id := by unfold getMap; rw [this]
        rw [e]
      | some z =>
        rcases hm.ents hk hz with h | ⟨m, m', ex, h1, h2, h3, h4, h5, h6⟩
        . have e : getMap τ id = getMap σ id := by unfold getMap; rw [h]
          rw [e]
        . have e1 : getMap σ id = some m := by unfold getMap; simp only [h1, h3]
          have e2 : getMap τ id = some m' := by unfold getMap; simp only [h2, h4]
          simp only [e1, e2, Option.map_some, h5]
          rw [find_app]
          cases hf : findM E kt k m.es 0 with
          | none => simp
          | some q => cases q with
            | some j =>
              have hj := find_lt _ _ hf
              simp only
              rw [List.getElem?_append_left (by omega)]
            | none =>
              simp only
              obtain ⟨q, hq, hb⟩ := find_ex (E := E) ho ex (0 + m.es.length) fun e he => (h6 e he).2
              rw [hq]
              cases q with
              | none => rfl
              | some j =>
                have hj := hb j rfl
                simp only
                rw [List.getElem?_append_right (by omega)]
                have hlt : j - m.es.length < ex.length := by omega
                rw [List.getElem?_eq_getElem hlt]
                have := (h6 ex[j - m.es.length] (List.getElem_mem hlt)).1
                simp only [this, Bool.false_eq_true, if_false]
def Near (E : Env) (o : Op) (a b : Option Ob) : Prop := match o with
  | .lookup t _ _ false => More E t a b
  | _ => a = b
theorem Near.refl {o : Op} (a : Option Ob) : Near E o a a := by
  unfold Near
  split
  . exact .refl _
  . rfl
theorem Near.of_eq {o : Op} {a b : Option Ob} (h : a = b) : Near E o a b := h ▸ .refl a
theorem Near.cases {o : Op} : (∃ t x k, o = .lookup t x k false) ∨ ∀ a b : Option Ob, Near E o a b ↔ a = b := by
  by_cases hn : ∃ t x k, o = .lookup t x k false
  . exact .inl hn
  . refine .inr fun a b => ?_
    unfold Near
    split
    . exact absurd ⟨_, _, _, rfl⟩ hn
    . exact Iff.rfl
theorem Near.trans {o : Op} {a b c : Option Ob} (h : Near E o a b) (k : Near E o b c) : Near E o a c := by
  rcases Near.cases (E := E) (o := o) with ⟨t, x, q, rfl⟩ | hn
  . exact More.trans (t := t) h k
  . rw [hn] at h k ⊢
    exact h.trans k
theorem Near.some {o : Op} {a b : Option Ob} (h : Near E o a b) (ha : a.isSome = true) : b.isSome = true := by
  rcases Near.cases (E := E) (o := o) with ⟨t, x, q, rfl⟩ | hn
  . exact More.some (t := t) h ha
  . rw [hn] at h
    exact h ▸ ha
theorem load_near {ev : Operand -> Option PV} {σ σ' τ : Store} {o : Op} {v : PV} {fl' : Nat} (hp : isLoad o = true) (hs : ∀ id, footOf ev o = some id -> Near E o σ[id]? τ[id]? ∨ Near E o τ[id]? σ[id]?) (h : opA E rec fl false ev σ o = some (v, σ')) :
    stepA E rec fl' ev τ o = some (v, τ) := by
  by_cases hn : ∃ t x k, o = .lookup t x k false
  . obtain ⟨t, x, k, rfl⟩ := hn
    simp only [opA, Bool.false_eq_true, if_false, stepA, isPure, memA] at h ⊢
    simp only [footOf] at hs
    cases hx : ev x with
    | none => simp [hx] at h
    | some p =>
      cases hk : ev k with
      | none => simp [hx, hk] at h
      | some q =>
        simp only [hx, hk] at h hs ⊢
        cases hl : lookA E σ t p q false with
        | none => simp [hl] at h
        | some r =>
          simp [hl] at h
          obtain ⟨rfl, rfl⟩ := h
          have e : lookA E τ t p q false = some r := by
            cases p with
            | mp id =>
              rcases hs id rfl with h1 | h1
              . exact (look_more h1).1 hl
              . exact (look_more h1).2 hl
            | _ => exact hl
          rw [e]; rfl
  . refine (load_at (fl' := fl') hp (fun id hid => ?_) h).2.1
    have key : ∀ {a b : Option Ob}, Near E o a b -> a = b := by
      intro a b h
      unfold Near at h
      split at h
      . exact absurd ⟨_, _, _, rfl⟩ hn
      . exact h
    rcases hs id hid with h1 | h1
    . exact (key h1).symm
    . exact key h1
theorem entry_more {ev : Operand -> Option PV} {σ σ' : Store} {t : TypeId} {x k : Operand} {v : PV} (h : opA E rec fl false ev σ (.mapEntry t x k) = some (v, σ')) {id : Nat} (hid : footOf ev (.mapEntry t x k) = some id) : More E t σ[id]? σ'[id]? := by
  simp only [opA, Bool.false_eq_true, if_false, stepA, isPure, memA] at h
  simp only [footOf] at hid
  split at h
  . rename_i p q hx hk
    rw [hx] at hid
    cases p with
    | mp id' =>
      simp only [Option.some.injEq] at hid
      subst hid
      unfold entryA at h
      cases hkt : keyT E t with
      | none => simp [hkt] at h
      | some u =>
        obtain ⟨kt, et⟩ := u
        simp only [hkt] at h
        split at h
        . rename_i hc
          simp only [Bool.and_eq_true] at hc
          cases hg : getMap σ id' with
          | none => simp [hg] at h
          | some m =>
            obtain ⟨g1, g2⟩ := getMap_get hg
            simp only [hg] at h
            split at h
            . split at h
              . split at h
                . cases h; exact .refl _
                . cases h
              . cases h
            . split at h
              . rename_i z hz
                cases h
                have hlt := (List.getElem?_eq_some_iff.1 g1).1
                rw [List.getElem?_set_self hlt, g1]
                exact .step hkt hz hc.1 (.refl _) g2 g2 rfl
              . cases h
            . cases h
        . cases h
    | _ => cases hid
  . cases h
theorem keptN (hran : Textual E rec fl ops foot st val) {o : Op} {id : Nat} (a : Nat) (hid : id < (st a).2.length) : ∀ (k : Nat), a + k <= ops.size -> (∀ j, a <= j -> j < a + k -> id < (st j).2.length -> Firm ops j -> Near E o (st j).2[id]? (st (j + 1)).2[id]?) -> Near E o (st a).2[id]? (st (a + k)).2[id]?
  | 0, _, _ => .refl _
  | k + 1, hk, hn => by
    have h1 := keptN hran a hid k (by omega) fun j h1 h2 => hn j h1 (by omega)
    have hlt : id < (st (a + k)).2.length := by
      have := h1.some (by simp [hid])
      obtain ⟨x, hx⟩ := Option.isSome_iff_exists.1 this
      exact (List.getElem?_eq_some_iff.1 hx).1
    refine h1.trans ?_
    show Near E o _ (st (a + k + 1)).2[id]?
    by_cases hf : Firm ops (a + k)
    . exact hn (a + k) (by omega) (by omega) hlt hf
    . obtain ⟨new, hnew⟩ := grows hran (o := ops[a + k]'(by omega)) (by simp) hf
      rw [hnew, List.getElem?_append_left hlt]
      exact .refl _
theorem kept (hran : Textual E rec fl ops foot st val) {id : Nat} (a : Nat) (hid : id < (st a).2.length) : ∀ (k : Nat), a + k <= ops.size -> (∀ j, a <= j -> j < a + k -> id < (st j).2.length -> Firm ops j -> (st (j + 1)).2[id]? = (st j).2[id]?) -> (st (a + k)).2[id]? = (st a).2[id]?
  | 0, _, _ => rfl
  | k + 1, hk, hn => by
    have h1 := kept hran a hid k (by omega) fun j h1 h2 => hn j h1 (by omega)
    have hlt : id < (st (a + k)).2.length := by
      have : (st (a + k)).2[id]? = some (st a).2[id] := by rw [h1]; simp [hid]
      exact (List.getElem?_eq_some_iff.1 this).1
    rw [<- h1]
    show (st (a + k + 1)).2[id]? = _
    by_cases hf : Firm ops (a + k)
    . exact hn (a + k) (by omega) (by omega) hlt hf
    . obtain ⟨new, hnew⟩ := grows hran (o := ops[a + k]'(by omega)) (by simp) hf
      rw [hnew, List.getElem?_append_left hlt]
theorem grow_range (hran : Textual E rec fl ops foot st val) (a : Nat) : ∀ (k : Nat), a + k <= ops.size -> (∀ j, a <= j -> j < a + k -> ¬ Firm ops j) -> ∃ more, (st (a + k)).2 = (st a).2 ++ more
  | 0, _, _ => ⟨[], by simp⟩
  | k + 1, hk, hn => by
    obtain ⟨m1, h1⟩ := grow_range hran a k (by omega) fun j h1 h2 => hn j h1 (by omega)
    obtain ⟨m2, h2⟩ := grows hran (o := ops[a + k]'(by omega)) (by simp) (hn (a + k) (by omega) (by omega))
    exact ⟨m1 ++ m2, by rw [show a + (k + 1) = a + k + 1 by omega, h2, h1, List.append_assoc]⟩
theorem grow_range' (hran : Textual E rec fl ops foot st val) {a b : Nat} (hab : a <= b) (hb : b <= ops.size) (hn : ∀ j, a <= j -> j < b -> ¬ Firm ops j) : ∃ more, (st b).2 = (st a).2 ++ more := by
  have := grow_range hran a (b - a) (by omega) fun j h1 h2 => hn j h1 (by omega)
  rwa [show a + (b - a) = b by omega] at this
theorem next_firm (ops : Array Oper) : ∀ (k p : Nat), p + k = ops.size -> ∃ e, p <= e /\ e <= ops.size /\ (e = ops.size ∨ Firm ops e) /\ ∀ j, p <= j -> j < e -> ¬ Firm ops j
  | 0, p, h => ⟨p, Nat.le_refl _, by omega, .inl (by omega), fun j h1 h2 => by omega⟩
  | k + 1, p, h => by
    by_cases hf : Firm ops p
    . exact ⟨p, Nat.le_refl _, by omega, .inr hf, fun j h1 h2 => by omega⟩
    . obtain ⟨e, h1, h2, h3, h4⟩ := next_firm ops k (p + 1) (by omega)
      refine ⟨e, by omega, h2, h3, fun j h5 h6 => ?_⟩
      by_cases hj : j = p
      . subst hj; exact hf
      . exact h4 j (by omega) h6
theorem mono_of {len : Nat -> Nat} {e : Nat} (h : ∀ j, j < e -> len j <= len (j + 1)) (a : Nat) : ∀ (b : Nat), a <= b -> b <= e -> len a <= len b
  | 0, h1, _ => by rw [show a = 0 by omega]; exact Nat.le_refl _
  | b + 1, h1, h2 => by
    by_cases hb : a = b + 1
    . subst hb; exact Nat.le_refl _
    . exact Nat.le_trans (mono_of h a b (by omega) (by omega)) (h b (by omega))
theorem putA_length (s : Slots) (d : Option Tmp) (v : PV) : (putA s d v).length = s.length := by cases d <;> simp [putA]
theorem putA_ne {s : Slots} {d : Option Tmp} {v : PV} {t : Tmp} (h : d ≠ some t) : (putA s d v)[t]? = s[t]? := by
  cases d with
  | none => rfl
  | some d => simp only [putA]; rw [List.getElem?_set_ne (fun e => h (by rw [e]))]
theorem slots_length (h0 : (st 0).1 = s) (hran : ∀ (i : Nat) (o : Oper), ops[i]? = some o -> Ran E rec fl ops tight foot (st i) i o (val i) (st (i + 1))) : ∀ (j : Nat), j <= ops.size -> (st j).1.length = s.length
  | 0, _ => by rw [h0]
  | j + 1, hj => by rw [(hran j (ops[j]'(by omega)) (by simp)).slots, putA_length, slots_length h0 hran j (by omega)]
theorem slots_before (h0 : (st 0).1 = s) (hran : ∀ (i : Nat) (o : Oper), ops[i]? = some o -> Ran E rec fl ops tight foot (st i) i o (val i) (st (i + 1))) {d : Tmp} : ∀ (j : Nat), j <= ops.size -> (∀ h o, h < j -> ops[h]? = some o -> o.dst ≠ some d) -> (st j).1[d]? = s[d]?
  | 0, _, _ => by rw [h0]
  | j + 1, hj, hn => by
    have ho : ops[j]? = some (ops[j]'(by omega)) := by simp
    rw [(hran j _ ho).slots, putA_ne (hn j _ (by omega) ho)]
    exact slots_before h0 hran j (by omega) fun h o h1 => hn h o (by omega)
theorem slots_after (hc : Checks ops) (h0 : (st 0).1 = s) (hran : ∀ (i : Nat) (o : Oper), ops[i]? = some o -> Ran E rec fl ops tight foot (st i) i o (val i) (st (i + 1))) {d : Tmp} {h : Nat} {o : Oper} (ho : ops[h]? = some o) (hd : o.dst = some d) :
    ∀ (k : Nat), h + 1 + k <= ops.size -> d < s.length -> (st (h + 1 + k)).1[d]? = some (some (val h))
  | 0, hk, hl => by
    have := slots_length h0 hran h (by omega)
    simp only [Nat.add_zero]
    rw [(hran h o ho).slots, hd]
    simp only [putA]
    rw [List.getElem?_set_self (show d < (st h).1.length by rw [this]; exact hl)]
  | k + 1, hk, hl => by
    have ho' : ops[h + 1 + k]? = some (ops[h + 1 + k]'(by omega)) := by simp
    have := slots_after hc h0 hran ho hd k (by omega) hl
    show (st (h + 1 + k + 1)).1[d]? = _
    rw [(hran _ _ ho').slots, putA_ne, this]
    intro e
    have := hc.dsts _ _ _ _ d ho ho' hd e
    omega
structure Inv (ops : Array Oper) (val : Nat -> PV) (s : Slots) (len : Nat -> Nat) (e : Nat) (Γ : Sealed) (ρ : Ren) (L : Array Bool) (a : Act) : Prop where
  size : a.tmps.size = s.length
  done : ∀ (h : Nat) (o : Oper) (d : Tmp), ops[h]? = some o -> o.dst = some d -> L.getD h false = true -> d < s.length -> ∃ u, a.tmps[d]? = some u /\ Rep Γ ρ (val h) u /\ oldV (len (min (h + 1) e)) (val h) = true
  rest : ∀ (d : Tmp) (v : PV), (∀ h o, ops[h]? = some o -> o.dst = some d -> L.getD h false = false) -> s[d]? = some (some v) -> ∃ u, a.tmps[d]? = some u /\ Rep Γ ρ v u /\ oldV (len 0) v = true
variable {Γ Γ' : Sealed} {ρ ρ' : Ren} {L : Array Bool} {a : Act} {len : Nat -> Nat} {e : Nat}
theorem Inv.mono (h : Inv ops val s len e Γ ρ L a) (hle : Le Γ ρ Γ' ρ') : Inv ops val s len e Γ' ρ' L a :=
  ⟨h.size, fun k o d h1 h2 h3 h4 => let ⟨u, h5, h6, h7⟩ := h.done k o d h1 h2 h3 h4; ⟨u, h5, h6.mono hle, h7⟩, fun d v h1 h2 => let ⟨u, h5, h6, h7⟩ := h.rest d v h1 h2; ⟨u, h5, h6.mono hle, h7⟩⟩
theorem Inv.on {e' : Nat} (h : Inv ops val s len e Γ ρ L a) (he : e <= e') (hG : ∀ j, j < e' -> len j <= len (j + 1)) : Inv ops val s len e' Γ ρ L a :=
  ⟨h.size, fun k o d h1 h2 h3 h4 => let ⟨u, h5, h6, h7⟩ := h.done k o d h1 h2 h3 h4; ⟨u, h5, h6, oldV_le (mono_of hG _ _ (by omega) (by omega)) _ h7⟩, h.rest⟩
theorem Inv.put (h : Inv ops val s len e Γ ρ L a) (hc : Checks ops) {i : Nat} {o : Oper} (ho : ops[i]? = some o) (hL : i < L.size) {r : Value} (hr : Rep Γ ρ (val i) r) (hold : oldV (len (min (i + 1) e)) (val i) = true) : Inv ops val s len e Γ ρ (L.setIfInBounds i true) (a.put o.dst r) := by
  have hne : ∀ (d : Tmp), o.dst ≠ some d -> (a.put o.dst r).tmps[d]? = a.tmps[d]? := by
    intro d hd
    cases e : o.dst with
    | none => rfl
    | some d' =>
      simp only [Act.put]
      rw [Array.getElem?_setIfInBounds_ne (fun x => hd (by rw [e, x]))]
  refine ⟨by cases e : o.dst <;> simp [Act.put, h.size], fun k o' d h1 h2 h3 h4 => ?_, fun d v h1 h2 => ?_⟩
  . by_cases hd : o.dst = some d
    . have := hc.dsts k i o' o d h1 ho h2 hd
      subst this
      refine ⟨r, ?_, hr, hold⟩
      rw [hd]
      simp [Act.put, h.size, h4]
    . rw [hne d hd]
      refine h.done k o' d h1 h2 ?_ h4
      rcases getD_set.1 h3 with h5 | ⟨rfl, _⟩
      . exact h5
      . rw [ho] at h1; cases h1; exact absurd h2 hd
  . have hd : o.dst ≠ some d := by
      intro e
      have := h1 i o ho e
      rw [<- Bool.not_eq_true, getD_set] at this
      exact this (.inr ⟨rfl, hL⟩)
    rw [hne d hd]
    refine h.rest d v (fun k o' h3 h4 => ?_) h2
    have := h1 k o' h3 h4
    rw [<- Bool.not_eq_true, getD_set] at this
    rw [<- Bool.not_eq_true]
    exact fun e => this (.inl e)
theorem slots_at (h : Inv ops val s len e Γ ρ L a) (hG : ∀ j, j < e -> len j <= len (j + 1)) (hc : Checks ops) (hcl : Closed ops L) (h0 : (st 0).1 = s) (hran : ∀ (i : Nat) (o : Oper), ops[i]? = some o -> Ran E rec fl ops tight foot (st i) i o (val i) (st (i + 1)))
    {i : Nat} {o : Oper} (ho : ops[i]? = some o) (hr : i ∈ Region.ready .any ops L) : a.tmps.size = (maskS (o.looksAt ops) (st i).1).length /\ ∀ (t : Nat) (v : PV), (maskS (o.looksAt ops) (st i).1)[t]? = some (some v) ->
      ∃ u, a.tmps[t]? = some u /\ Rep Γ ρ v u /\ oldV (len (min i e)) v = true := by
  have hlt : i < ops.size := (Array.getElem?_eq_some_iff.1 ho).1
  have hui : L.getD i false = false := getD_false (mem_ready.1 hr).1
  have hsz := slots_length h0 hran i (by omega)
  refine ⟨by rw [maskS_length, hsz]; exact h.size, fun t v ht => ?_⟩
  have hrest : (∀ h o, ops[h]? = some o -> o.dst = some t -> L.getD h false = false) -> s[t]? = some (some v) -> ∃ u, a.tmps[t]? = some u /\ Rep Γ ρ v u /\ oldV (len (min i e)) v = true := by
    intro h1 h2
    obtain ⟨u, h3, h4, h5⟩ := h.rest t v h1 h2
    exact ⟨u, h3, h4, oldV_le (mono_of hG _ _ (Nat.zero_le _) (by omega)) _ h5⟩
  obtain ⟨hv, hm⟩ := maskS_get.1 ht
  by_cases hex : ∃ (k : Nat) (o' : Oper), ops[k]? = some o' /\ o'.dst = some t
  . obtain ⟨k, o', hk, hd⟩ := hex
    have hkl : k < ops.size := (Array.getElem?_eq_some_iff.1 hk).1
    have hord : k = i ∨ ordered (masks ops) k i = true := by
      by_cases hki : k = i
      . exact .inl hki
      . rcases hc.pairs k i o' o hk ho hki with h1 | h1
        . exact .inr h1
        . exfalso
          unfold slotsApart at h1
          simp only [hd, Bool.and_eq_true, Bool.not_eq_true', List.contains_eq_mem, decide_eq_false_iff_not] at h1
          exact h1.1 hm
    by_cases hki : k < i
    . have hL : L.getD k false = true := ready_anc hcl hr (ordered_anc (hord.resolve_left (by omega)) hki)
      have hts : t < s.length := by
        rw [<- hsz]; exact (List.getElem?_eq_some_iff.1 hv).1
      have := slots_after hc h0 hran hk hd (i - (k + 1)) (by omega) hts
      rw [show k + 1 + (i - (k + 1)) = i by omega, hv] at this
      cases this
      obtain ⟨u, h3, h4, h5⟩ := h.done k o' t hk hd hL hts
      exact ⟨u, h3, h4, oldV_le (mono_of hG _ _ (by omega) (by omega)) _ h5⟩
    . have huk : L.getD k false = false := by
        rcases hord with rfl | hord
        . exact hui
        . cases hb : L.getD k false with
          | false => rfl
          | true =>
            by_cases e : k = i
            . subst e; rw [hui] at hb; cases hb
            . have := hcl i k hb (ordered_anc' hord (by omega))
              rw [hui] at this; cases this
      refine hrest (fun k' o'' h1 h2 => ?_) ?_
      . have := hc.dsts k' k o'' o' t h1 hk h2 hd
        subst this; exact huk
      . rw [<- slots_before h0 hran i (by omega) fun k' o'' h1 h2 h3 => ?_]
        . exact hv
        . have := hc.dsts k' k o'' o' t h2 hk h3 hd
          omega
  . refine hrest (fun k' o'' h1 h2 => (hex ⟨k', o'', h1, h2⟩).elim) ?_
    rw [<- slots_before h0 hran i (by omega) fun k' o'' h1 h2 h3 => hex ⟨k', o'', h2, h3⟩]
    exact hv
theorem slots_end (h : Inv ops val s len e Γ ρ L a) (hc : Checks ops) (h0 : (st 0).1 = s) (hran : ∀ (i : Nat) (o : Oper), ops[i]? = some o -> Ran E rec fl ops tight foot (st i) i o (val i) (st (i + 1)))
    (hall : ∀ j, j < ops.size -> L.getD j false = true) : SlotsOk Γ ρ (st ops.size).1 a := by
  have hsz := slots_length h0 hran ops.size (Nat.le_refl _)
  refine ⟨by rw [hsz]; exact h.size, fun t v hv => ?_⟩
  by_cases hex : ∃ (k : Nat) (o' : Oper), ops[k]? = some o' /\ o'.dst = some t
  . obtain ⟨k, o', hk, hd⟩ := hex
    have hkl : k < ops.size := (Array.getElem?_eq_some_iff.1 hk).1
    have hts : t < s.length := by
      rw [<- hsz]; exact (List.getElem?_eq_some_iff.1 hv).1
    have := slots_after hc h0 hran hk hd (ops.size - (k + 1)) (by omega) hts
    rw [show k + 1 + (ops.size - (k + 1)) = ops.size by omega, hv] at this
    cases this
    obtain ⟨u, h3, h4, _⟩ := h.done k o' t hk hd (hall k hkl) hts
    exact ⟨u, h3, h4⟩
  . have hb := slots_before h0 hran ops.size (Nat.le_refl _) fun k' o'' h1 h2 h3 => hex ⟨k', o'', h2, h3⟩
    obtain ⟨u, h3, h4, _⟩ := h.rest t v (fun k' o'' h1 h2 => (hex ⟨k', o'', h1, h2⟩).elim) (hb.symm.trans hv)
    exact ⟨u, h3, h4⟩
theorem all_listed (hc : Checks ops) (hsz : L.size = ops.size) (h : Region.ready .any ops L = []) : ∀ j, j < ops.size -> L.getD j false = true := by
  intro j
  induction j using Nat.strongRecOn with
  | _ j ih =>
    intro hj
    cases hb : L.getD j false with
    | true => rfl
    | false =>
      have hl : j < L.size := by omega
      have ht : L.getD j true = false := by simpa [Array.getD, hl] using hb
      have ho : ops[j]? = some ops[j] := by simp [hj]
      have : j ∈ Region.ready .any ops L := mem_ready.2 ⟨ht, _, ho, fun e he hb => ih e.on (hc.edges j _ ho e he hb) (by have := hc.edges j _ ho e he hb; omega)⟩
      rw [h] at this
      simp at this
end
end Go.Proofs.YtaofbpldflcjmaaDoor.Am
