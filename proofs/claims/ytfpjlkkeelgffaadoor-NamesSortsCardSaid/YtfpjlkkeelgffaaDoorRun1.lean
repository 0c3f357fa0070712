/- Slots; the operations of a region in the order of the text. -/
import Derived.Test.YtfpjlkkeelgffaaDoorStep2
import Derived.Test.YtfpjlkkeelgffaaDoorAm2
set_option linter.unusedVariables false
set_option linter.unusedSimpArgs false
namespace Go.Proofs.YtfpjlkkeelgffaaDoor.Am
section
variable {E : Env} {fl : Nat} {Γ : Sealed} {ρ : Ren} {σ : Store} {w : World}

def SlotsOk (Γ : Sealed) (ρ : Ren) (s : Slots) (a : Act) : Prop := a.tmps.size = s.length ∧ ∀ (t : Nat) (v : PV), s[t]? = some (some v) → ∃ u, a.tmps[t]? = some u ∧ Rep Γ ρ v u

theorem SlotsOk.mono {Γ' ρ'} (hle : Le Γ ρ Γ' ρ') {s : Slots} {a : Act} (h : SlotsOk Γ ρ s a) : SlotsOk Γ' ρ' s a :=
  ⟨h.1, fun t v ht => let ⟨u, h1, h2⟩ := h.2 t v ht; ⟨u, h1, h2.mono hle⟩⟩

theorem SlotsOk.env {s : Slots} {a : Act} (h : SlotsOk Γ ρ s a) : EnvOk Γ ρ (evalA s) a := by
  intro x p hx
  cases x with
  | tmp t =>
    simp only [evalA] at hx
    split at hx
    · rename_i v hv
      cases hx
      obtain ⟨u, h1, h2⟩ := h.2 t _ hv
      simpa [Act.eval, h1] using h2
    · cases hx
  | const v => exact (ofConst_rep hx).1
  | global g => cases hx; exact .glob g 0
  | func f => cases hx; exact .fn (.func f) (vs := #[]) (us := #[]) rfl rfl (fun j x v hx => by simp at hx) (fun j x v hx => by simp at hx)

theorem SlotsOk.put {s : Slots} {a : Act} (h : SlotsOk Γ ρ s a) {p : PV} {r : Value} (hr : Rep Γ ρ p r) (dst : Option Tmp) : SlotsOk Γ ρ (putA s dst p) (a.put dst r) := by
  cases dst with
  | none => exact h
  | some d =>
    refine ⟨by simp [putA, Act.put, h.1], fun t v ht => ?_⟩
    simp only [putA] at ht
    simp only [Act.put]
    by_cases hd : d = t
    · subst hd
      have hlt : d < s.length := by
        have := (List.getElem?_eq_some_iff.1 ht).1
        simpa using this
      rw [List.getElem?_set_self hlt] at ht
      cases ht
      exact ⟨r, by simp [h.1, hlt], hr⟩
    · rw [List.getElem?_set_ne hd] at ht
      obtain ⟨u, h1, h2⟩ := h.2 t v ht
      exact ⟨u, by rw [Array.getElem?_setIfInBounds_ne hd]; exact h1, h2⟩

theorem wantedA_ok {ops : Array Oper} {s : Slots} {a : Act} {o : Oper} {b : Bool} (h : wantedA ops s o = some b) (hs : SlotsOk Γ ρ s a) : Region.wanted o (yielded ops a.tmps) = b := by
  unfold wantedA at h
  unfold Region.wanted
  split at h
  · rename_i hg; cases h; simp [hg]
  · rename_i j want hg
    simp only [hg]
    split at h
    · rename_i d hd
      split at h
      · rename_i b' hb'
        cases h
        obtain ⟨u, h1, h2⟩ := hs.2 d _ hb'
        cases h2
        simp [yielded, hd, h1]
      · rename_i vs hb'
        cases h
        obtain ⟨u, h1, h2⟩ := hs.2 d _ hb'
        cases h2
        simp [yielded, hd, h1]
      · cases h
    · cases h

theorem rep_undef : Rep Γ ρ (.tup []) undef := .tup (vs := #[]) rfl (fun j x v hx => by simp at hx)

theorem maskGo_get (ls : List Tmp) : ∀ (s : Slots) (i j : Nat) (v : PV), (maskGo ls s i)[j]? = some (some v) ↔ (s[j]? = some (some v) ∧ i + j ∈ ls)
  | [], i, j, v => by simp [maskGo]
  | x :: s, i, 0, v => by
    simp only [maskGo, List.getElem?_cons_zero, Option.some.injEq, Nat.add_zero]
    by_cases h : i ∈ ls <;> simp [h]
  | x :: s, i, j + 1, v => by
    have := maskGo_get ls s (i + 1) j v
    simp only [maskGo, List.getElem?_cons_succ]
    rw [this, show i + 1 + j = i + (j + 1) by omega]

theorem maskGo_length (ls : List Tmp) : ∀ (s : Slots) (i : Nat), (maskGo ls s i).length = s.length
  | [], i => rfl
  | x :: s, i => by simp [maskGo, maskGo_length ls s]

theorem maskS_get {ls : List Tmp} {s : Slots} {j : Nat} {v : PV} : (maskS ls s)[j]? = some (some v) ↔ (s[j]? = some (some v) ∧ j ∈ ls) := by
  unfold maskS
  rw [maskGo_get, Nat.zero_add]

theorem maskS_length (ls : List Tmp) (s : Slots) : (maskS ls s).length = s.length := maskGo_length ls s 0

theorem SlotsOk.mask {s : Slots} {a : Act} (h : SlotsOk Γ ρ s a) (ls : List Tmp) : SlotsOk Γ ρ (maskS ls s) a :=
  ⟨by rw [maskS_length]; exact h.1, fun t v ht => h.2 t v (maskS_get.1 ht).1⟩

theorem opsA_ok (hE : E.Ok) {rec : Rec} (hrec : SoundRec E rec) {ops : Array Oper} {tight : List Bool} {Q : Exit → Act → World → Prop} : ∀ (rest : List Oper) (i : Nat) {s s' : Slots} {σ σ' : Store} {Γ : Sealed} {ρ : Ren} {a : Act} {w : World},
    opsA E rec fl ops tight rest i s σ = some (s', σ') → (∀ j, j < ops.size → tight.getD j true = false) → rest = ops.toList.drop i → Rel E fl Γ ρ σ w → fl ≤ σ.length → SlotsOk Γ ρ s a →
    (∀ a' w' Γ' ρ', SlotsOk Γ' ρ' s' a' → a'.defers = a.defers → Rel E fl Γ' ρ' σ' w' → Post fl Γ ρ σ w Γ' ρ' σ' w' → Q .normal a' w') → wpOps E.P ops Q (List.range' i rest.length) a w
  | [], i, s, s', σ, σ', Γ, ρ, a, w, h, _, _, hR, hfl, hs, hQ => by
    cases h
    exact hQ a w Γ ρ hs rfl hR (.refl _ _ _ _ _)
  | o :: rest, i, s, s', σ, σ', Γ, ρ, a, w, h, ht, hrest, hR, hfl, hs, hQ => by
    have hoi : ops[i]? = some o := by
      have h1 : (ops.toList.drop i)[0]? = some o := by rw [← hrest]; rfl
      simpa using h1
    have hlt : i < ops.size := (Array.getElem?_eq_some_iff.1 hoi).1
    have hrest' : rest = ops.toList.drop (i + 1) := by
      have : (o :: rest).tail = (ops.toList.drop i).tail := by rw [hrest]
      simpa [List.tail_drop] using this
    unfold opsA at h
    simp only [List.length_cons, List.range'_succ]
    rw [wpOps_cons]
    unfold wpOp
    simp only [hoi]
    split at h
    · rename_i hw
      rw [wantedA_ok hw (hs.mask _)]
      simp only [if_true]
      split at h
      · rename_i v σ1 hst
        rw [ht i hlt] at hst
        refine .inl (stepA_ok hE hrec hR hfl (hs.mask _).env hst _ _ fun r w' hm => ?_)
        obtain ⟨Γ1, ρ1, hr1, hR1, hp1⟩ := hm
        refine opsA_ok hE hrec rest (i + 1) h ht hrest' hR1 (Nat.le_trans hfl hp1.len) ((hs.mono hp1.le).put hr1 o.dst) fun a' w' Γ' ρ' k1 k2 k3 k4 => ?_
        exact hQ a' w' Γ' ρ' k1 (k2.trans (by cases o.dst <;> rfl)) k3 (hp1.trans k4)
      · cases h
    · rename_i hw
      rw [wantedA_ok hw (hs.mask _)]
      simp only [Bool.false_eq_true, if_false]
      refine opsA_ok hE hrec rest (i + 1) h ht hrest' hR hfl (hs.put rep_undef o.dst) fun a' w' Γ' ρ' k1 k2 k3 k4 => ?_
      exact hQ a' w' Γ' ρ' k1 (k2.trans (by cases o.dst <;> rfl)) k3 k4
    · cases h

end
end Go.Proofs.YtfpjlkkeelgffaaDoor.Am
