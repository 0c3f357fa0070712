/- A region that draws its order: whichever it draws, the interpreter's order answers for it. -/
import Derived.Test.YtaofbpldflcjmaaDoorMZDraw2
set_option linter.unusedVariables false
set_option linter.unusedSimpArgs false
namespace Go.Proofs.YtaofbpldflcjmaaDoor.Am
section
variable {E : Env} {fl : Nat} {Γ : Sealed} {ρ : Ren} {σ : Store} {w : World}
theorem count_set_lt : ∀ (l : List Bool) (i : Nat), l[i]? = some false -> (l.set i true).count false + 1 = l.count false
  | [], i, h => by simp at h
  | x :: l, 0, h => by
    simp at h
    subst h
    simp
  | x :: l, i + 1, h => by
    have := count_set_lt l i (by simpa using h)
    simp only [List.set_cons_succ, List.count_cons]
    omega
structure At (E : Env) (fl : Nat) (ops : Array Oper) (st : Nat -> Slots × Store) (val : Nat -> PV) (s : Slots) (ds : Act) (Γ0 : Sealed) (ρ0 : Ren) (σ0 : Store) (w0 : World) (L : Array Bool) (a : Act) (w : World) (Γ : Sealed) (ρ : Ren) (e : Nat) : Prop where
  sz : L.size = ops.size
  cl : Closed ops L
  he : e <= ops.size
  hend : e = ops.size ∨ Firm ops e
  hF : ∀ j, Firm ops j -> (L.getD j false = true ↔ j < e)
  hI : Inv ops val s (fun j => (st j).2.length) e Γ ρ L a
  hd : a.defers = ds.defers
  hR : Rel E fl Γ ρ (st e).2 w
  hP : Post fl Γ0 ρ0 σ0 w0 Γ ρ (st e).2 w
  hD : ∀ i, i < e -> L.getD i false = false -> ∀ id, (st i).2.length <= id -> id < (st (i + 1)).2.length -> ρ id = none
  hG : ∀ j, j < e -> (st j).2.length <= (st (j + 1)).2.length
  hK : ∀ c, c <= e -> (∀ j, c <= j -> j < e -> ¬ Firm ops j) -> ∀ (id : Nat) (l : Loc) (m : Ob), id < (st c).2.length -> ρ id = some l -> (st e).2[id]? = some m -> obOld (st c).2.length m = true
variable {rec : Rec} {ops : Array Oper} {st : Nat -> Slots × Store} {val : Nat -> PV} {foot : Nat -> Option Nat} {s : Slots} {ds : Act} {L : Array Bool} {a : Act} {e : Nat} {Γ' : Sealed} {ρ' : Ren} {w' : World}
theorem mem_old (h : Rel E fl Γ ρ σ w) {id : Nat} {l : Loc} {ob : Ob} (hl : ρ id = some l) (hm : σ[id]? = some ob) : obOld σ.length ob = true := by
  obtain ⟨ob', ho, hk⟩ := h.mem id l hl
  rw [hm] at ho
  cases ho
  exact hk.isOld fun id l hl => h.id_lt hl
theorem rep_mp {id : Nat} {v : Value} (h : Rep Γ ρ (.mp id) v) : ∃ l, ρ id = some l := by
  cases h with
  | mp l h hz => exact ⟨l, h⟩
theorem rep_ptr {id b f : Nat} {v : Value} (h : Rep Γ ρ (.ptr id b f) v) : ∃ l, ρ id = some l := by
  cases h with
  | ptr l h hl => exact ⟨l, h⟩
  | ptrOld l h hl ad => exact ⟨l, h⟩
theorem rep_osl {id b c e n : Nat} {x : Option Nat} {v : Value} (h : Rep Γ ρ (.osl id b c e n x) v) : ∃ l, ρ id = some l := by
  cases h with
  | osl l cap h hl hc hx ho => exact ⟨l, h⟩
  | oslOld l h hl a cap hc hx => exact ⟨l, h⟩
theorem go_on (hran : Textual E rec fl ops foot st val) (hR0 : Rel E fl Γ ρ σ w) (hfl : fl <= σ.length) {p : Nat} (hp : p <= ops.size) (hpf : p = 0 ∨ ∃ q, p = q + 1 /\ Firm ops q) (hsz : L.size = ops.size) (hcl : Closed ops L)
    (hF : ∀ j, Firm ops j -> (L.getD j false = true ↔ j < p)) (hI : Inv ops val s (fun j => (st j).2.length) p Γ' ρ' L a) (hd : a.defers = ds.defers) (hR : Rel E fl Γ' ρ' (st p).2 w') (hP : Post fl Γ ρ σ w Γ' ρ' (st p).2 w')
    (hlow : ∀ i, i < p -> L.getD i false = false -> (st (i + 1)).2 = (st i).2) (hG : ∀ j, j < p -> (st j).2.length <= (st (j + 1)).2.length) : ∃ e, At E fl ops st val s ds Γ ρ σ w L a w' Γ' ρ' e := by
  obtain ⟨e, h1, h2, h3, h4⟩ := next_firm ops (ops.size - p) p (by omega)
  obtain ⟨more, hmore⟩ := grow_range' hran h1 h2 h4
  have hG' : ∀ j, j < e -> (st j).2.length <= (st (j + 1)).2.length := by
    intro j hj
    by_cases hjp : j < p
    . exact hG j hjp
    . obtain ⟨new, hn⟩ := grows hran (o := ops[j]'(by omega)) (by simp) (h4 j (by omega) hj)
      rw [hn]
      simp
  have hm := mono_of (len := fun j => (st j).2.length) hG'
  refine ⟨e, hsz, hcl, h2, h3, fun j hj => ?_, hI.on h1 hG', hd, ?_, ?_, fun i hi hL id k1 k2 => ?_, hG', fun c hc hno id l m k1 k2 k3 => ?_⟩
  . rw [hF j hj]
    constructor
    . intro h; omega
    . intro h
      rcases Nat.lt_or_ge j p with h5 | h5
      . exact h5
      . exact absurd hj (h4 j h5 h)
  . rw [hmore]; exact hR.pad
  . rw [hmore]; exact hP.pad hR0 hfl
  . rcases Nat.lt_or_ge i p with h5 | h5
    . rw [hlow i h5 hL] at k2
      omega
    . cases hn : ρ' id with
      | none => rfl
      | some l =>
        have h6 := hR.id_lt hn
        have h7 := hm p i h5 (by omega)
        omega
  . have hid := hR.id_lt k2
    rw [hmore, List.getElem?_append_left hid] at k3
    have hold := mem_old hR k2 k3
    rcases Nat.lt_or_ge c p with h5 | h5
    . rcases hpf with h6 | ⟨q, rfl, h6⟩
      . omega
      . exact absurd h6 (hno q (by omega) (by omega))
    . exact obOld_le (hm p c h5 hc) _ hold
theorem step_ok (hE : E.Ok) (hrec : SoundRec E rec) (hc : Checks ops) (h0 : (st 0).1 = s) (hran : Textual E rec fl ops foot st val) (hR0 : Rel E fl Γ ρ σ w) (hfl : fl <= σ.length) (hst0 : (st 0).2 = σ)
    (hA : At E fl ops st val s ds Γ ρ σ w L a w' Γ' ρ' e) {i : Nat} {o : Oper} (ho : ops[i]? = some o) (hr : i ∈ Region.ready .any ops L) {Q : Exit -> Act -> World -> Prop} {K : Act -> World -> Prop}
    (hK : ∀ (r : Value) (w2 : World) (Γ2 : Sealed) (ρ2 : Ren) (e2 : Nat), At E fl ops st val s ds Γ ρ σ w (L.setIfInBounds i true) (a.put o.dst r) w2 Γ2 ρ2 e2 -> K (a.put o.dst r) w2) : wpOp E.P ops Q i K a w' := by
  have hlt : i < ops.size := (Array.getElem?_eq_some_iff.1 ho).1
  have hui : L.getD i false = false := getD_false (mem_ready.1 hr).1
  have hLi : i < L.size := by have := hA.sz; omega
  have hcl' := closed_set hA.cl hr
  have hsz' : (L.setIfInBounds i true).size = ops.size := by simpa using hA.sz
  have hd' : ∀ r, (a.put o.dst r).defers = ds.defers := fun r => by rw [<- hA.hd]; cases o.dst <;> rfl
  have hm := mono_of (len := fun j => (st j).2.length) hA.hG
  obtain ⟨hsl, hsv⟩ := slots_at hA.hI hA.hG hc hA.cl h0 hran ho hr
  have hs : SlotsOk Γ' ρ' (maskS (o.looksAt ops) (st i).1) a := ⟨hsl, fun t v ht => let ⟨u, k1, k2, _⟩ := hsv t v ht; ⟨u, k1, k2⟩⟩
  have stay : ∀ (r : Value), ¬ Firm ops i -> Rep Γ' ρ' (val i) r -> oldV (st (min (i + 1) e)).2.length (val i) = true -> K (a.put o.dst r) w' := by
    intro r hn hrep hold
    refine hK r w' Γ' ρ' e ⟨hsz', hcl', hA.he, hA.hend, fun j hj => ?_, hA.hI.put hc ho hLi hrep hold, hd' r, hA.hR, hA.hP, fun j hj hL => hA.hD j hj ?_, hA.hG, hA.hK⟩
    . rw [<- hA.hF j hj, getD_set]
      constructor
      . rintro (h | ⟨rfl, _⟩)
        . exact h
        . exact absurd hj hn
      . exact .inl
    . cases hb : L.getD j false with
      | false => rfl
      | true => rw [getD_set.2 (.inl hb)] at hL; cases hL
  have firm : Firm ops i -> i = e := by
    intro hf
    have h1 : ¬ i < e := fun h => by have := (hA.hF i hf).2 h; rw [hui] at this; cases this
    rcases hA.hend with h2 | h2
    . omega
    . rcases Nat.lt_or_ge e i with h3 | h3
      . exfalso
        obtain ⟨oe, k1, k2, kl, k3⟩ := h2
        obtain ⟨oi, k4, k5, kl', k6⟩ := hf
        rcases loose_ordered k1 k4 (by omega) k3 k2 kl k5 with hq | hq
        . have := ready_anc hA.cl hr (ordered_anc hq h3)
          have := (hA.hF e ⟨oe, k1, k2, kl, k3⟩).1 this
          omega
        . rw [kl'] at hq; cases hq.1
      . omega
  have past : ∀ (r : Value) (w2 : World) (Γ2 : Sealed) (ρ2 : Ren), Firm ops i -> Rep Γ2 ρ2 (val i) r -> Rel E fl Γ2 ρ2 (st (i + 1)).2 w2 -> Post fl Γ' ρ' (st i).2 w' Γ2 ρ2 (st (i + 1)).2 w2 -> K (a.put o.dst r) w2 := by
    intro r w2 Γ2 ρ2 hf hrep hR2 hP2
    have hie := firm hf
    subst hie
    have hG2 : ∀ j, j < i + 1 -> (st j).2.length <= (st (j + 1)).2.length := by
      intro j hj
      by_cases hji : j = i
      . subst hji; exact hP2.len
      . exact hA.hG j (by omega)
    have q1 : ∀ j, Firm ops j -> ((L.setIfInBounds i true).getD j false = true ↔ j < i + 1) := by
      intro j hj
      rw [getD_set]
      have := hA.hF j hj
      constructor
      . rintro (h | ⟨rfl, _⟩)
        . have := this.1 h; omega
        . omega
      . intro h
        by_cases hji : j = i
        . exact .inr ⟨hji, hLi⟩
        . exact .inl (this.2 (by omega))
    have q2 : oldV (st (min (i + 1) (i + 1))).2.length (val i) = true := by
      rw [Nat.min_self]
      exact hrep.isOld fun id l hl => hR2.id_lt hl
    have q3 : ∀ j, j < i + 1 -> (L.setIfInBounds i true).getD j false = false -> (st (j + 1)).2 = (st j).2 := by
      intro j hj hL
      have hji : j ≠ i := fun e => by rw [getD_set.2 (.inr ⟨e, hLi⟩)] at hL; cases hL
      have hLj : L.getD j false = false := by
        cases hb : L.getD j false with
        | false => rfl
        | true => rw [getD_set.2 (.inl hb)] at hL; cases hL
      have hoj : ops[j]? = some (ops[j]'(by omega)) := by simp
      cases hp : isPure (ops[j]'(by omega)).op with
      | true => exact pure_same hran hoj hp
      | false =>
        obtain ⟨oi, k4, k5, kl, k6⟩ := hf
        rcases loose_ordered k4 hoj (by omega) k6 k5 kl hp with hq | hq
        . have := ready_anc hA.cl hr (ordered_anc (i := j) (j := i) (by rw [ordered_symm]; exact hq) (by omega))
          rw [hLj] at this; cases this
        . exact load_same hran hoj hq.1
    obtain ⟨e2, hA2⟩ := go_on (ds := ds) hran hR0 hfl (p := i + 1) (by omega) (.inr ⟨i, rfl, hf⟩) hsz' hcl' q1
      (((hA.hI.mono hP2.le).on (Nat.le_succ i) hG2).put hc ho hLi hrep q2) (hd' r) hR2 (hA.hP.trans hP2) q3 hG2
    exact hK r w2 Γ2 ρ2 e2 hA2
  unfold wpOp
  simp only [ho]
  rcases (hran i o ho).does with ⟨k1, k2, kfoot, kold⟩ | ⟨k1, k2, k3, _⟩
  . rw [wantedA_ok k1 hs, if_pos rfl]
    refine .inl ?_
    by_cases hf : Firm ops i
    . have hie := firm hf
      obtain ⟨oi, k4, k5, kl, k6⟩ := hf
      rw [k6] at k2
      simp only [opA, Bool.false_eq_true, if_false] at k2
      subst hie
      have hlen : fl <= (st i).2.length := Nat.le_trans hfl hA.hP.len
      refine stepA_ok hE hrec hA.hR hlen hs.env k2 _ _ fun r w2 hmv => ?_
      obtain ⟨Γ2, ρ2, hrep, hR2, hP2⟩ := hmv
      exact past r w2 Γ2 ρ2 ⟨oi, k4, k5, kl, k6⟩ hrep hR2 hP2
    . have hcut : SlotsOk Γ' (cutR (st (min i e)).2.length ρ') (maskS (o.looksAt ops) (st i).1) a :=
        ⟨hsl, fun t v ht => let ⟨u, q1, q2, q3⟩ := hsv t v ht; ⟨u, q1, q2.old (fun id hid => cutR_lt hid) q3⟩⟩
      rcases not_firm ho hf with hp | hp | ⟨hp, hpl, ht⟩
      . rw [tight_pure ho hp] at k2
        simp only [opA, Bool.false_eq_true, if_false, stepA, hp, if_true] at k2
        cases hq : pureA E (evalA (maskS (o.looksAt ops) (st i).1)) o.op with
        | none => simp [hq] at k2
        | some q =>
          simp [hq] at k2
          obtain ⟨rfl, _⟩ := k2
          obtain ⟨r, q1, q2⟩ := pureA_ok hE hcut.env hq
          refine StepOk.value (K := fun r' w2 => r' = r /\ w2 = w') (q2 w') ⟨rfl, rfl⟩ _ _ fun r' w2 hk => ?_
          obtain ⟨rfl, rfl⟩ := hk
          exact stay _ hf (q1.mono (cut_le _)) (oldV_le (hm _ _ (by omega) (by omega)) _ (q1.isOld fun id l hl => (cutR_some hl).1))
      . have hpi : isPure o.op = false := by
          cases ho' : o.op with
          | load t a => rfl
          | lookup t a b ok => rfl
          | slice t a b c d => rfl
          | _ => rw [ho'] at hp; cases hp
        rw [tight_load ho hp] at k2
        have hloc := (load_at (fl' := fl) (τ := (st i).2) hp (fun _ _ => rfl) k2).2.2
        have hstep1 : ∀ (id j : Nat) (oj : Oper), footOf (evalA (maskS (o.looksAt ops) (st i).1)) o.op = some id -> id < (st j).2.length -> ops[j]? = some oj -> (tightOf ops (masks ops)).getD j true = false -> isStore oj.op = true ->
            (foot j = none ∨ foot j ≠ foot i ∨ entryPair oj.op o.op = true) -> Near E o.op (st j).2[id]? (st (j + 1)).2[id]? := by
          intro id j oj hid hjl j1 j3 hst hap
          have hfoot : foot i = some id := kfoot.trans hid
          rcases (hran j oj j1).does with ⟨_, q2, q3, _⟩ | ⟨_, _, q3, _⟩
          . rw [j3] at q2
            by_cases hfj : footOf (evalA (maskS (oj.looksAt ops) (st j).1)) oj.op = some id
            . rcases hap with h | h | h
              . rw [q3, hfj] at h; cases h
              . exact absurd (q3.trans (hfj.trans hfoot.symm)) h
              . unfold entryPair at h
                split at h
                . rename_i e1 e2; rw [e1] at hst; cases hst
                . rename_i e1 e2
                  rw [e1] at q2 hfj
                  have ht := Nat.eq_of_beq_eq_true h
                  subst ht
                  rw [e2]
                  exact entry_more q2 hfj
                . cases h
            . exact .of_eq (store_keep hst q2 hfj hjl).symm
          . rw [q3]; exact .refl _
        have hsame : ∀ id, footOf (evalA (maskS (o.looksAt ops) (st i).1)) o.op = some id -> Near E o.op (st i).2[id]? (st e).2[id]? ∨ Near E o.op (st e).2[id]? (st i).2[id]? := by
          intro id hid
          have hfoot : foot i = some id := kfoot.trans hid
          rcases Nat.le_total i e with hle | hle
          . refine .inl ?_
            have := keptN hran (o := o.op) (id := id) i (hloc id hid) (e - i) (by have := hA.he; omega) fun j h1 h2 hjl hj => ?_
            . rwa [show i + (e - i) = e by omega] at this
            . obtain ⟨oj, j1, j2, jl, j3⟩ := hj
              have hji : j ≠ i := fun e => by subst e; rw [ho] at j1; cases j1; rw [hp] at jl; cases jl
              have hno : ordered (masks ops) j i = false := by
                cases hb : ordered (masks ops) j i with
                | false => rfl
                | true =>
                  have := hA.cl i j ((hA.hF j ⟨oj, j1, j2, jl, j3⟩).2 (by omega)) (ordered_anc' hb (by omega))
                  rw [hui] at this; cases this
              rcases loose_ordered j1 ho hji j3 j2 jl hpi with hq | hq
              . rw [hno] at hq; cases hq
              . exact hstep1 id j oj hid hjl j1 j3 hq.2 ((hran j oj j1).apart i o (by omega) ho (by simp [beside, hno, hq.1, hq.2]))
          . have hlt' : id < (st e).2.length := by
              cases hop : o.op with
              | load t a =>
                rw [hop] at hid
                simp only [footOf] at hid
                cases ha : evalA (maskS (o.looksAt ops) (st i).1) a with
                | none => simp [ha] at hid
                | some p =>
                  rw [ha] at hid
                  have hrep := hs.env a p ha
                  cases p with
                  | ptr id' b f =>
                    simp only [Option.some.injEq] at hid
                    subst hid
                    obtain ⟨l, h⟩ := rep_ptr hrep
                    exact hA.hR.id_lt h
                  | _ => cases hid
              | lookup t a b ok =>
                rw [hop] at hid
                simp only [footOf] at hid
                cases ha : evalA (maskS (o.looksAt ops) (st i).1) a with
                | none => simp [ha] at hid
                | some p =>
                  rw [ha] at hid
                  have hrep := hs.env a p ha
                  cases p with
                  | mp id' =>
                    simp only [Option.some.injEq] at hid
                    subst hid
                    obtain ⟨l, h⟩ := rep_mp hrep
                    exact hA.hR.id_lt h
                  | _ => cases hid
              | slice t a b c d =>
                rw [hop] at hid
                simp only [footOf] at hid
                cases ha : evalA (maskS (o.looksAt ops) (st i).1) a with
                | none => simp [ha] at hid
                | some p =>
                  rw [ha] at hid
                  have hrep := hs.env a p ha
                  cases p with
                  | osl id' b c es len xc =>
                    simp only [Option.some.injEq] at hid
                    subst hid
                    obtain ⟨l, h⟩ := rep_osl hrep
                    exact hA.hR.id_lt h
                  | _ => cases hid
              | _ => rw [hop] at hp; cases hp
            refine .inr ?_
            have := keptN hran (o := o.op) (id := id) e hlt' (i - e) (by omega) fun j h1 h2 hjl hj => ?_
            . rwa [show e + (i - e) = i by omega] at this
            . obtain ⟨oj, j1, j2, jl, j3⟩ := hj
              have hno : ordered (masks ops) j i = false := by
                cases hb : ordered (masks ops) j i with
                | false => rfl
                | true =>
                  have := (hA.hF j ⟨oj, j1, j2, jl, j3⟩).1 (ready_anc hA.cl hr (ordered_anc hb (by omega)))
                  omega
              rcases loose_ordered j1 ho (by omega) j3 j2 jl hpi with hq | hq
              . rw [hno] at hq; cases hq
              . refine hstep1 id j oj hid hjl j1 j3 hq.2 ?_
                rcases (hran i o ho).apart j oj (by omega) j1 (by rw [beside, ordered_symm, hno]; simp [hq.1, hq.2]) with h | h | h
                . rw [hfoot] at h; cases h
                . exact .inr (.inl fun he => h he.symm)
                . refine .inr (.inr ?_)
                  unfold entryPair at h ⊢
                  split at h
                  . rename_i e1 e2; have ht := Nat.eq_of_beq_eq_true h; subst ht; simp only [e1, e2]; exact Nat.beq_refl _
                  . rename_i e1 e2; rw [e1] at hp; cases hp
                  . cases h
        have hstep := load_near (fl' := (st e).2.length) hp hsame k2
        have hlen : fl <= (st e).2.length := Nat.le_trans hfl hA.hP.len
        refine stepA_ok hE hrec (hA.hR.raise hlen) (Nat.le_refl _) hs.env hstep _ _ fun r w2 hmv => ?_
        obtain ⟨Γ1, ρ1, hrep, hR1, hP1⟩ := hmv
        have hρ : ρ1 = ρ' := by
          funext id
          by_cases hid : id < (st e).2.length
          . exact hP1.low id hid
          . cases h1 : ρ1 id with
            | some l => exact absurd (hR1.id_lt h1) hid
            | none => cases h2 : ρ' id with
              | none => rfl
              | some l => exact absurd (hA.hR.id_lt h2) hid
        subst hρ
        have hR2 := hA.hR.widen hR1 hP1
        have hold : oldV (st (min (i + 1) e)).2.length (val i) = true := by
          rcases Nat.lt_or_ge i e with h1 | h1
          . rw [Nat.min_eq_left (by omega)]
            exact oldV_le (hA.hG i h1) _ (kold hp)
          . rw [Nat.min_eq_right (by omega)]
            exact hrep.isOld fun id l hl => hR1.id_lt hl
        refine hK r w2 Γ1 _ e ⟨hsz', hcl', hA.he, hA.hend, fun j hj => ?_, (hA.hI.mono hP1.le).put hc ho hLi hrep hold, hd' r, hR2, hA.hP.trans (hP1.mono hlen), fun j hj hL => hA.hD j hj ?_, hA.hG, hA.hK⟩
        . rw [<- hA.hF j hj, getD_set]
          constructor
          . rintro (h | ⟨rfl, _⟩)
            . exact h
            . exact absurd hj hf
          . exact .inl
        . cases hb : L.getD j false with
          | false => rfl
          | true => rw [getD_set.2 (.inl hb)] at hL; cases hL
      . have hie : i < e := by
          rcases Nat.lt_or_ge i e with h1 | h1
          . exact h1
          . exfalso
            rcases hA.hend with h2 | h2
            . omega
            . rcases Nat.lt_or_ge e i with h3 | h3
              . obtain ⟨oe, j1, j2, jl, j3⟩ := h2
                rcases loose_ordered j1 ho (by omega) j3 j2 jl hp with hq | hq
                . have := ready_anc hA.cl hr (ordered_anc hq h3)
                  have := (hA.hF e ⟨oe, j1, j2, jl, j3⟩).1 this
                  omega
                . rw [hpl] at hq; cases hq.1
              . exact hf (by rw [show i = e by omega]; exact h2)
        have hno : ∀ j, i <= j -> j < e -> ¬ Firm ops j := by
          intro j h1 h2 hj
          have h3 := (hA.hF j hj).2 h2
          by_cases hji : j = i
          . subst hji; exact hf hj
          . obtain ⟨oj, j1, j2, jl, j3⟩ := hj
            rcases loose_ordered j1 ho (by omega) j3 j2 jl hp with hq | hq
            . have := hA.cl i j h3 (ordered_anc' hq (by omega))
              rw [hui] at this; cases this
            . rw [hpl] at hq; cases hq.1
        obtain ⟨new, hnew⟩ := grows hran ho hf
        obtain ⟨more, hmore⟩ := grow_range' hran (a := i + 1) (b := e) (by omega) hA.he fun j h1 h2 => hno j (by omega) h2
        have hall : (st e).2 = (st i).2 ++ (new ++ more) := by rw [hmore, hnew, List.append_assoc]
        have hlen : fl <= (st i).2.length := by
          have h1 := hm 0 i (Nat.zero_le _) (by omega)
          simp only [hst0] at h1
          omega
        have hRe : Rel E fl Γ' ρ' ((st i).2 ++ (new ++ more)) w' := by rw [<- hall]; exact hA.hR
        have hkeep := hA.hK i (by omega) hno
        have hRc := hRe.cut hE hlen fun id l m h1 h2 h3 => hkeep id l m h1 h2 (by rw [hall, List.getElem?_append_left h1]; exact h3)
        rw [Nat.min_eq_left (by omega)] at hcut
        rw [ht] at k2
        obtain ⟨_, hstep⟩ := tight_ok hE hrec hRc hlen hcut.env k2
        refine hstep _ _ fun r w2 hmv => ?_
        obtain ⟨Γ1, ρ1, hrep, hR1, hP1⟩ := hmv
        rw [hnew] at hR1 hP1
        have hnone : ∀ id, (st i).2.length <= id -> id < ((st i).2 ++ new).length -> ρ' id = none := fun id h1 h2 => hA.hD i hie hui id h1 (by rw [hnew]; exact h2)
        obtain ⟨hR2, hP2, hle1⟩ := join_ok hRe hlen hnone hR1 hP1
        rw [<- hall] at hR2 hP2
        rw [<- hnew] at hR2 hP2 hle1 hR1
        have hin : ∀ id, (st i).2.length <= id -> id < (st (i + 1)).2.length -> joinR (st i).2.length (st (i + 1)).2.length ρ' ρ1 id = ρ1 id := fun id h1 h2 => by simp only [joinR, if_pos (And.intro h1 h2)]
        have hout : ∀ id, ¬ ((st i).2.length <= id /\ id < (st (i + 1)).2.length) -> joinR (st i).2.length (st (i + 1)).2.length ρ' ρ1 id = ρ' id := fun id h1 => by simp only [joinR, if_neg h1]
        refine hK r w2 Γ1 _ e ⟨hsz', hcl', hA.he, hA.hend, fun j hj => ?_, (hA.hI.mono hP2.le).put hc ho hLi (hrep.mono hle1) ?_, hd' r, hR2, hA.hP.trans hP2, fun j hj hL id h1 h2 => ?_, hA.hG, fun c hce hnc id l m h1 h2 h3 => ?_⟩
        . rw [<- hA.hF j hj, getD_set]
          constructor
          . rintro (h | ⟨rfl, _⟩)
            . exact h
            . exact absurd hj hf
          . exact .inl
        . rw [Nat.min_eq_left (by omega)]
          exact hrep.isOld fun id l hl => hR1.id_lt hl
        . have hji : j ≠ i := fun e => by rw [getD_set.2 (.inr ⟨e, hLi⟩)] at hL; cases hL
          have hLj : L.getD j false = false := by
            cases hb : L.getD j false with
            | false => rfl
            | true => rw [getD_set.2 (.inl hb)] at hL; cases hL
          rw [hout id ?_]
          . exact hA.hD j hj hLj id h1 h2
          . rintro ⟨h3, h4⟩
            rcases Nat.lt_or_ge j i with h5 | h5
            . have := hm (j + 1) i (by omega) (by omega)
              omega
            . have := hm (i + 1) j (by omega) (by omega)
              omega
        . by_cases hb : (st i).2.length <= id /\ id < (st (i + 1)).2.length
          . rw [hin id hb.1 hb.2] at h2
            have h4 : (st (i + 1)).2[id]? = some m := by
              rw [hmore, List.getElem?_append_left hb.2] at h3
              exact h3
            have h5 := mem_old hR1 h2 h4
            rcases Nat.lt_or_ge i c with h6 | h6
            . exact obOld_le (hm (i + 1) c (by omega) hce) _ h5
            . have := hm c i h6 (by omega)
              omega
          . rw [hout id hb] at h2
            exact hA.hK c hce hnc id l m h1 h2 h3
  . rw [wantedA_ok k1 hs, if_neg (by simp)]
    have hrep : Rep Γ' ρ' (val i) undef := by rw [k2]; exact rep_undef
    by_cases hf : Firm ops i
    . have hie := firm hf
      refine past undef w' Γ' ρ' hf hrep ?_ ?_
      . rw [k3, hie]; exact hA.hR
      . rw [k3]; exact .refl _ _ _ _ _
    . refine stay undef hf hrep ?_
      rw [k2]
      rfl
theorem drawn_ok (hE : E.Ok) (hrec : SoundRec E rec) {Q : Exit -> Act -> World -> Prop} (hc : Checks ops) (h0 : (st 0).1 = s) (hran : Textual E rec fl ops foot st val) (hR0 : Rel E fl Γ ρ σ w) (hfl : fl <= σ.length) (hst0 : (st 0).2 = σ)
    (hQ : ∀ a' w' Γ' ρ', SlotsOk Γ' ρ' (st ops.size).1 a' -> a'.defers = ds.defers -> Rel E fl Γ' ρ' (st ops.size).2 w' -> Post fl Γ ρ σ w Γ' ρ' (st ops.size).2 w' -> Q .normal a' w') :
    ∀ (fuel : Nat) (L : Array Bool) (a : Act) (w' : World) (Γ' : Sealed) (ρ' : Ren) (e : Nat), L.toList.count false <= fuel -> At E fl ops st val s ds Γ ρ σ w L a w' Γ' ρ' e -> wpAny E.P .any ops Q fuel L a w' := by
  have hfin : ∀ (L : Array Bool) (a : Act) (w' : World) (Γ' : Sealed) (ρ' : Ren) (e : Nat), (∀ j, j < ops.size -> L.getD j false = true) -> At E fl ops st val s ds Γ ρ σ w L a w' Γ' ρ' e -> Q .normal a w' := by
    intro L a w' Γ' ρ' e hall hA
    have he : e = ops.size := by
      rcases hA.hend with h | h
      . exact h
      . obtain ⟨o, ho, h1⟩ := h
        have := (hA.hF e ⟨o, ho, h1⟩).1 (hall e (Array.getElem?_eq_some_iff.1 ho).1)
        omega
    subst he
    exact hQ a w' Γ' ρ' (slots_end hA.hI hc h0 hran hall) hA.hd hA.hR hA.hP
  intro fuel
  induction fuel with
  | zero =>
    intro L a w' Γ' ρ' e hcnt hA
    have hsz := hA.sz
    have hall : ∀ j, j < ops.size -> L.getD j false = true := by
      intro j hj
      cases hb : L.getD j false with
      | true => rfl
      | false =>
        exfalso
        have hl : j < L.size := by omega
        have h1 : false ∈ L.toList := by
          have : L[j] = false := by simpa [Array.getD, hl] using hb
          rw [<- this]
          simp
        have := List.count_pos_iff.2 h1
        omega
    refine ⟨?_, hfin L a w' Γ' ρ' e hall hA⟩
    apply List.eq_nil_iff_forall_not_mem.2
    intro j hj
    obtain ⟨h1, o, ho, _⟩ := mem_ready.1 hj
    have := hall j (Array.getElem?_eq_some_iff.1 ho).1
    rw [getD_false h1] at this
    cases this
  | succ fuel ih =>
    intro L a w' Γ' ρ' e hcnt hA
    have hsz := hA.sz
    refine ⟨fun hr => hfin L a w' Γ' ρ' e (all_listed hc hsz hr) hA, fun i hi => ?_⟩
    obtain ⟨h1, o, ho, _⟩ := mem_ready.1 hi
    have hlt : i < ops.size := (Array.getElem?_eq_some_iff.1 ho).1
    have hcnt' : (L.setIfInBounds i true).toList.count false <= fuel := by
      have hL : L.toList[i]? = some false := by
        have hl : i < L.size := by omega
        have := getD_false h1
        simpa [Array.getD, hl] using this
      have := count_set_lt L.toList i hL
      rw [Array.toList_setIfInBounds]
      omega
    exact step_ok hE hrec hc h0 hran hR0 hfl hst0 hA ho hi fun r w2 Γ2 ρ2 e2 hA2 => ih _ _ w2 Γ2 ρ2 e2 hcnt' hA2
theorem draw_ok (hE : E.Ok) {rec : Rec} (hrec : SoundRec E rec) {id : Nat} {ops : Array Oper} {Q : Exit -> Act -> World -> Prop} (hp : pairsOk ops (masks ops) = true) {s s' : Slots} {σ' : Store} {a : Act}
    (h : opsD E rec fl ops (masks ops) (tightOf ops (masks ops)) ops.toList 0 [] s σ = some (s', σ')) (hR : Rel E fl Γ ρ σ w) (hfl : fl <= σ.length) (hs : SlotsOk Γ ρ s a)
    (hQ : ∀ a' w' Γ' ρ', SlotsOk Γ' ρ' s' a' -> a'.defers = a.defers -> Rel E fl Γ' ρ' σ' w' -> Post fl Γ ρ σ w Γ' ρ' σ' w' -> Q .normal a' w') : (Code.region id ops true).wp E.P Q a w := by
  refine wp_region_any hE.mixed ?_
  obtain ⟨st, val, foot, h1, h2, _, h3⟩ := trace ops.toList 0 (fun _ => none) h rfl (fun k hk => absurd hk (Nat.not_lt_zero k))
  have hran : Textual E rec fl ops foot st val := by
    intro i o ho
    have := h3 i o (by simpa using ho)
    simpa using this
  have h2' : st ops.size = (s', σ') := by simpa using h2
  have hno : ∀ j, (Array.replicate ops.size false).getD j false = false := by
    intro j
    by_cases hj : j < ops.size <;> simp [Array.getD, hj]
  have hw : ∀ b, b < w.heap.size -> ({ w with drawn := w.drawn + 1 } : World).heap[b]? = w.heap[b]? := fun b _ => rfl
  have hP : Post fl Γ ρ σ w Γ ρ σ { w with drawn := w.drawn + 1 } :=
    { Post.refl fl Γ ρ σ w with frame := fun _ _ _ => rfl, size := Nat.le_refl _, os := rfl, tape := rfl, output := ⟨rfl, fun _ => Nat.le_succ _⟩ }
  obtain ⟨e, hA⟩ := go_on (s := s) (ds := a) (a := a) (L := Array.replicate ops.size false) hran hR hfl (p := 0) (Nat.zero_le _) (.inl rfl) (by simp) (fun i j hj => by rw [hno] at hj; cases hj) (fun j _ => by rw [hno]; simp)
    ⟨hs.1, fun k o d _ _ hk => (by rw [hno] at hk; cases hk), fun d v _ hv => by
      obtain ⟨u, k1, k2⟩ := hs.2 d v hv
      exact ⟨u, k1, k2, k2.isOld fun id l hl => by rw [h1]; exact hR.id_lt hl⟩⟩ rfl (by rw [h1]; exact hR.world hw) (by rw [h1]; exact hP) (fun i hi => absurd hi (Nat.not_lt_zero i)) (fun i hi => absurd hi (Nat.not_lt_zero i))
  refine drawn_ok (ds := a) hE hrec (checks_ok hp) (by rw [h1]) hran hR hfl (by rw [h1]) ?_ ops.size _ a _ Γ ρ e (by simp) hA
  rw [h2']
  exact hQ
end
end Go.Proofs.YtaofbpldflcjmaaDoor.Am
