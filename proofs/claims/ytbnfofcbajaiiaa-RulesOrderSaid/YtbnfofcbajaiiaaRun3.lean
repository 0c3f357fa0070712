/- Code, functions, the interpreter: the machine does what it does. -/
import Derived.Test.YtbnfofcbajaiiaaRun2
set_option linter.unusedVariables false
set_option linter.unusedSimpArgs false
namespace Go.Proofs.Ytbnfofcbajaiiaa.Am
section
variable {E : Env} {fl : Nat} {Γ : Sealed} {ρ : Ren} {σ : Store} {w : World}

def exitOf : Out → Exit
  | .norm => .normal
  | .exit id => .exit id
  | .ret => .ret

open Classical in
/-- The least number of which something is so. -/
noncomputable def least (p : Nat → Prop) : Nat := if h : ∃ n, p n ∧ ∀ m, m < n → ¬ p m then h.choose else 0

theorem least_spec {p : Nat → Prop} {n : Nat} (h : p n) : p (least p) ∧ least p ≤ n := by
  have hex : ∃ n, p n ∧ ∀ m, m < n → ¬ p m := by
    induction n using Nat.strongRecOn with
    | _ n ih =>
      by_cases hm : ∃ m, m < n ∧ p m
      · obtain ⟨m, h1, h2⟩ := hm
        exact ih m h1 h2
      · exact ⟨n, h, fun m h1 h2 => hm ⟨m, h1, h2⟩⟩
  unfold least
  rw [dif_pos hex]
  have hs := hex.choose_spec
  refine ⟨hs.1, ?_⟩
  rcases Nat.lt_or_ge n hex.choose with hlt | hge
  · exact absurd h (hs.2 n hlt)
  · exact hge

theorem wp_loop_fuel {P : Program} {Q : Exit → Act → World → Prop} {c : Code} {a : Act} {w : World} (I : Nat → Act → World → Prop) {n : Nat} (h0 : I n a w)
    (round : ∀ n a w, I n a w → c.wp P (Exit.then (fun a' w' => ∃ m, m < n ∧ I m a' w') Q) a w) : (Code.loop c).wp P Q a w := by
  refine wp_loop (fun a w => ∃ n, I n a w) (fun a w => least fun n => I n a w) ⟨n, h0⟩ fun a w hI => ?_
  obtain ⟨k, hk⟩ := hI
  have hl := least_spec (p := fun n => I n a w) hk
  refine wp_mono (round _ a w hl.1) fun e a' w' hq => ?_
  cases e with
  | normal =>
    obtain ⟨m, hm, hIm⟩ := hq
    exact ⟨⟨m, hIm⟩, Nat.lt_of_le_of_lt (least_spec (p := fun n => I n a' w') hIm).2 hm⟩
  | _ => exact hq

theorem codeA_ok (hE : E.Ok) {rec : Rec} (hrec : SoundRec E rec) (n : Nat) : ∀ (c : Code) {s s' : Slots} {σ σ' : Store} {out : Out} {Γ : Sealed} {ρ : Ren} {a : Act} {w : World} {Q : Exit → Act → World → Prop},
    codeA E rec fl n c s σ = some (out, s', σ') → Rel E fl Γ ρ σ w → fl ≤ σ.length → SlotsOk Γ ρ s a →
    (∀ a' w' Γ' ρ', SlotsOk Γ' ρ' s' a' → a'.defers = a.defers → Rel E fl Γ' ρ' σ' w' → Post fl Γ ρ σ w Γ' ρ' σ' w' → Q (exitOf out) a' w') → c.wp E.P Q a w := by
  intro c
  induction c with
  | skip =>
    intro s s' σ σ' out Γ ρ a w Q h hR hfl hs hQ
    simp only [codeA, Option.some.injEq, Prod.mk.injEq] at h
    obtain ⟨rfl, rfl, rfl⟩ := h
    exact wp_skip (hQ a w Γ ρ hs rfl hR (.refl _ _ _ _ _))
  | region id ops d =>
    intro s s' σ σ' out Γ ρ a w Q h hR hfl hs hQ
    cases d with
    | false =>
      simp only [codeA] at h
      cases ho : opsA E rec fl ops (noTight ops) ops.toList 0 s σ with
      | none => simp [ho] at h
      | some r =>
        obtain ⟨s1, σ1⟩ := r
        simp [ho] at h
        obtain ⟨rfl, rfl, rfl⟩ := h
        refine wp_region ?_
        have := opsA_ok hE hrec (Q := Q) ops.toList 0 ho (fun j hj => by simp [noTight, List.getElem?_replicate, hj]) (by simp) hR hfl hs hQ
        simpa [List.range_eq_range'] using this
    | true =>
      simp only [codeA] at h
      split at h
      · rename_i hp
        cases ho : opsD E rec fl ops (masks ops) (tightOf ops (masks ops)) ops.toList 0 [] s σ with
        | none => simp [ho] at h
        | some r =>
          obtain ⟨s1, σ1⟩ := r
          simp [ho] at h
          obtain ⟨rfl, rfl, rfl⟩ := h
          exact draw_ok hE hrec hp ho hR hfl hs hQ
      · cases h
  | seq x y ihx ihy =>
    intro s s' σ σ' out Γ ρ a w Q h hR hfl hs hQ
    simp only [codeA] at h
    refine wp_seq ?_
    split at h
    · rename_i s1 σ1 hx
      refine ihx hx hR hfl hs fun a1 w1 Γ1 ρ1 k1 k2 k3 k4 => ?_
      refine ihy h k3 (Nat.le_trans hfl k4.len) k1 fun a2 w2 Γ2 ρ2 m1 m2 m3 m4 => ?_
      exact hQ a2 w2 Γ2 ρ2 m1 (m2.trans k2) m3 (k4.trans m4)
    · rename_i hno
      refine ihx h hR hfl hs fun a1 w1 Γ1 ρ1 k1 k2 k3 k4 => ?_
      have := hQ a1 w1 Γ1 ρ1 k1 k2 k3 k4
      cases out with
      | norm => exact (hno s' σ' h).elim
      | exit id => exact this
      | ret => exact this
  | cond c x y ihx ihy =>
    intro s s' σ σ' out Γ ρ a w Q h hR hfl hs hQ
    simp only [codeA] at h
    split at h
    · rename_i hc
      have hv := hs.env c _ hc
      generalize hg : a.eval c = vc at hv
      cases hv
      exact wp_cond_true hg (ihx h hR hfl hs hQ)
    · rename_i hc
      have hv := hs.env c _ hc
      generalize hg : a.eval c = vc at hv
      cases hv
      exact wp_cond_false hg (ihy h hR hfl hs hQ)
    · cases h
  | block id body ih =>
    intro s s' σ σ' out Γ ρ a w Q h hR hfl hs hQ
    simp only [codeA] at h
    refine wp_block ?_
    split at h
    · rename_i j s1 σ1 hb
      split at h
      · rename_i hj
        cases h
        refine ih hb hR hfl hs fun a1 w1 Γ1 ρ1 k1 k2 k3 k4 => ?_
        have := hQ a1 w1 Γ1 ρ1 k1 k2 k3 k4
        simp only [exitOf, Exit.inBlock, hj, if_true]
        exact this
      · rename_i hj
        cases h
        refine ih hb hR hfl hs fun a1 w1 Γ1 ρ1 k1 k2 k3 k4 => ?_
        have := hQ a1 w1 Γ1 ρ1 k1 k2 k3 k4
        simp only [exitOf, Exit.inBlock, hj, if_false]
        exact this
    · rename_i hno
      refine ih h hR hfl hs fun a1 w1 Γ1 ρ1 k1 k2 k3 k4 => ?_
      have := hQ a1 w1 Γ1 ρ1 k1 k2 k3 k4
      cases out with
      | norm => exact this
      | exit j => exact absurd h (hno j s' σ')
      | ret => exact this
  | loop body ih =>
    intro s s' σ σ' out Γ ρ a w Q h hR hfl hs hQ
    simp only [codeA] at h
    refine wp_loop_fuel (fun m a1 w1 => ∃ s1 σ1 Γ1 ρ1, iterA (codeA E rec fl n body) m s1 σ1 = some (out, s', σ') ∧ SlotsOk Γ1 ρ1 s1 a1 ∧ a1.defers = a.defers ∧ Rel E fl Γ1 ρ1 σ1 w1 ∧ Post fl Γ ρ σ w Γ1 ρ1 σ1 w1) (n := n)
      ⟨s, σ, Γ, ρ, h, hs, rfl, hR, .refl _ _ _ _ _⟩ fun m a1 w1 hI => ?_
    obtain ⟨s1, σ1, Γ1, ρ1, i1, i2, i3, i4, i5⟩ := hI
    cases m with
    | zero => simp [iterA] at i1
    | succ m =>
      simp only [iterA] at i1
      split at i1
      · rename_i s2 σ2 hb
        refine ih hb i4 (Nat.le_trans hfl i5.len) i2 fun a2 w2 Γ2 ρ2 k1 k2 k3 k4 => ?_
        exact ⟨m, Nat.lt_succ_self m, s2, σ2, Γ2, ρ2, i1, k1, k2.trans i3, k3, i5.trans k4⟩
      · rename_i r hno
        refine ih i1 i4 (Nat.le_trans hfl i5.len) i2 fun a2 w2 Γ2 ρ2 k1 k2 k3 k4 => ?_
        have := hQ a2 w2 Γ2 ρ2 k1 (k2.trans i3) k3 (i5.trans k4)
        cases out with
        | norm => exact absurd i1 (hno s' σ')
        | exit id => exact this
        | ret => exact this
  | exit id =>
    intro s s' σ σ' out Γ ρ a w Q h hR hfl hs hQ
    simp only [codeA, Option.some.injEq, Prod.mk.injEq] at h
    obtain ⟨rfl, rfl, rfl⟩ := h
    exact wp_exit (hQ a w Γ ρ hs rfl hR (.refl _ _ _ _ _))
  | ret =>
    intro s s' σ σ' out Γ ρ a w Q h hR hfl hs hQ
    simp only [codeA, Option.some.injEq, Prod.mk.injEq] at h
    obtain ⟨rfl, rfl, rfl⟩ := h
    exact wp_ret (hQ a w Γ ρ hs rfl hR (.refl _ _ _ _ _))
  | _ =>
    intro s s' σ σ' out Γ ρ a w Q h hR hfl hs hQ
    simp [codeA] at h

theorem mapM_ok {P : Program} {f : ResultVar → Sem Value} {g : ResultVar → Option PV} {w : World} (hf : ∀ r p, g r = some p → ∃ v, (f r).run P w = .ok v w ∧ Rep Γ ρ p v) (E' : Env) (s : Slots) (σ : Store)
    (hg : ∀ r, resultA E' s σ r = g r) : ∀ (l : List ResultVar) (ps : List PV), resultsA E' s σ l = some ps → ∃ vs, (l.mapM f).run P w = .ok vs w ∧ Reps Γ ρ ps vs
  | [], ps, h => by cases h; exact ⟨[], by simp, .nil⟩
  | r :: l, ps, h => by
    unfold resultsA at h
    split at h
    · rename_i p ps' hp hps
      cases h
      rw [hg] at hp
      obtain ⟨v, h1, h2⟩ := hf r p hp
      obtain ⟨vs, h3, h4⟩ := mapM_ok hf E' s σ hg l ps' hps
      exact ⟨v :: vs, by simp [List.mapM_cons, h1, h3], .cons h2 h4⟩
    · cases h

theorem endA_ok (hR : Rel E fl Γ ρ σ w) {fn : Func} {s : Slots} {a : Act} {p : PV} {σ' : Store} (hs : SlotsOk Γ ρ s a) (h : endA E fn s σ = some (p, σ')) :
    σ' = σ ∧ ∃ v, (results fn a.tmps).run E.P w = .ok v w ∧ Rep Γ ρ p v := by
  have key : ∀ ps, resultsA E s σ fn.results.toList = some ps → ∃ vs : Array Value, (results fn a.tmps).run E.P w = .ok (if h : vs.size = 1 then vs[0] else .tuple vs) w ∧ Reps Γ ρ ps vs.toList := by
    intro ps hps
    have hh : ∀ F : ResultVar → Sem Value, (∀ r p, resultA E s σ r = some p → ∃ v, (F r).run E.P w = .ok v w ∧ Rep Γ ρ p v) →
        ∃ vs : Array Value, (fn.results.mapM F >>= fun vs => (pure (if h : vs.size = 1 then vs[0] else .tuple vs) : Sem Value)).run E.P w = .ok (if h : vs.size = 1 then vs[0] else .tuple vs) w ∧ Reps Γ ρ ps vs.toList := by
      intro F hF
      obtain ⟨vs, h1, h2⟩ := mapM_ok (P := E.P) hF E s σ (fun _ => rfl) fn.results.toList ps hps
      refine ⟨vs.toArray, ?_, by simpa using h2⟩
      rw [Array.mapM_eq_mapM_toList, Sem.run_bind, Sem.run_map, h1]
      simp
    unfold results
    refine hh _ ?_
    · intro r p hp
      cases r with
      | tmp t =>
        simp only [resultA] at hp
        split at hp
        · rename_i v hv
          cases hp
          obtain ⟨u, h1, h2⟩ := hs.2 t _ hv
          exact ⟨u, by simp [h1], h2⟩
        · cases hp
      | cell b t =>
        simp only [resultA] at hp
        split at hp
        · rename_i q hq
          obtain ⟨u, h1, h2⟩ := hs.2 b _ hq
          obtain ⟨r, k1, ⟨ad, e1, e2⟩, _⟩ := loadAt_ok hR hp h2
          subst e1
          exact ⟨r, by simp [h1, asAddr, e2], k1⟩
        · cases hp
  unfold endA at h
  split at h
  · rename_i v hv
    cases h
    obtain ⟨vs, h1, h2⟩ := key _ hv
    refine ⟨rfl, ?_⟩
    obtain ⟨u, us, e, h3, h4⟩ := h2.inv_cons
    have := h4.inv_nil
    subst this
    obtain ⟨l⟩ := vs
    simp at e
    subst e
    exact ⟨u, by simpa using h1, h3⟩
  · rename_i vs0 hno hv
    cases h
    obtain ⟨vs, h1, h2⟩ := key _ hv
    have hne : vs.size ≠ 1 := fun e => by
      have := h2.1
      simp [e] at this
      match vs0, this with
      | [x], _ => exact hno x rfl
    rw [dif_neg hne] at h1
    exact ⟨rfl, .tuple vs, h1, .tup (by simpa using h2.1) (fun j x v hx hv => h2.2 j x v hx (by simpa using hv))⟩
  · cases h

theorem enterA_ok (hE : E.Ok) {rec : Rec} (hrec : SoundRec E rec) (n : Nat) : SoundRec E (enterA E rec n) := by
  intro f args σ fl p σ' h hfl Γ ρ w vs hR hr
  unfold enterA at h
  split at h
  · rename_i fn hfn
    split at h
    · rename_i c hc
      split at h
      · rename_i hb
        have hlen : vs.length = args.length := hr.1
        refine calls_of_wp hfn hc ?_
        have hs : SlotsOk Γ ρ (args.map some ++ List.replicate (fn.ntmps - args.length) none) { tmps := vs.toArray ++ Array.replicate (fn.ntmps - vs.toArray.size) undef, defers := [] } := by
          refine ⟨by simp [hlen], fun t v ht => ?_⟩
          by_cases hlt : t < args.length
          · rw [List.getElem?_append_left (by simpa using hlt)] at ht
            simp only [List.getElem?_map, Option.map_eq_some_iff, Option.some.injEq] at ht
            obtain ⟨x, hx, rfl⟩ := ht
            obtain ⟨u, hu, hxu⟩ := hr.at hx
            refine ⟨u, ?_, hxu⟩
            rw [Array.getElem?_append_left (by simp; omega)]
            simpa using hu
          · rw [List.getElem?_append_right (by simp; omega)] at ht
            rw [List.getElem?_replicate] at ht
            split at ht <;> simp at ht
        have hpost : ∀ (s1 : Slots) (σ1 : Store) (out : Out), codeA E rec fl n c (args.map some ++ List.replicate (fn.ntmps - args.length) none) σ = some (out, s1, σ1) → endA E fn s1 σ1 = some (p, σ') → (out = .norm ∨ out = .ret) →
            c.wp E.P (bodyPost E.P fn fun e w' => ∃ r, e = .returned r ∧ Moves E fl Γ ρ σ w p σ' r w') { tmps := vs.toArray ++ Array.replicate (fn.ntmps - vs.toArray.size) undef, defers := [] } w := by
          intro s1 σ1 out hcode hend hout
          refine codeA_ok hE hrec n c hcode hR hfl hs fun a' w' Γ' ρ' k1 k2 k3 k4 => ?_
          obtain ⟨rfl, v, e1, e2⟩ := endA_ok k3 k1 hend
          have : bodyPost E.P fn (fun e w' => ∃ r, e = .returned r ∧ Moves E fl Γ ρ σ w p σ' r w') .normal a' w' := ⟨k2, v, e1, v, rfl, Γ', ρ', e2, k3, k4⟩
          rcases hout with rfl | rfl
          · exact this
          · exact this
        split at h
        · rename_i s1 σ1 hcode
          exact hpost s1 σ1 .norm hcode h (.inl rfl)
        · rename_i s1 σ1 hcode
          exact hpost s1 σ1 .ret hcode h (.inr rfl)
        · cases h
      · cases h
    · cases h
  · cases h

theorem runA_ok (hE : E.Ok) (n : Nat) : ∀ k, SoundRec E (runA E n k)
  | 0 => fun f args σ fl p σ' h => by cases h
  | k + 1 => enterA_ok hE (runA_ok hE n k) n

end
end Go.Proofs.Ytbnfofcbajaiiaa.Am
