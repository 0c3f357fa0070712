/- Which objects a value names; a call with a store of its own. -/
import Derived.Test.YtfpjlkkeelgffaaDoorStep
set_option linter.unusedVariables false
set_option linter.unusedSimpArgs false
namespace Go.Proofs.YtfpjlkkeelgffaaDoor.Am
section
variable {E : Env} {fl : Nat} {Γ : Sealed} {ρ : Ren} {σ : Store} {w : World}

theorem oldL_get {n : Nat} : ∀ {xs : List PV} {j : Nat} {x : PV}, oldL n xs = true → xs[j]? = some x → oldV n x = true
  | [], j, x, _, h => by simp at h
  | y :: xs, 0, x, h, hx => by
    simp only [oldL, Bool.and_eq_true] at h
    simp at hx
    subst hx
    exact h.1
  | y :: xs, j + 1, x, h, hx => by
    simp only [oldL, Bool.and_eq_true] at h
    exact oldL_get h.2 (by simpa using hx)

theorem oldL_of {n : Nat} : ∀ {xs : List PV}, (∀ (j : Nat) (x : PV), xs[j]? = some x → oldV n x = true) → oldL n xs = true
  | [], _ => rfl
  | y :: xs, h => by
    simp only [oldL, Bool.and_eq_true]
    exact ⟨h 0 y rfl, oldL_of fun j x hx => h (j + 1) x (by simpa using hx)⟩

theorem Rep.old {ρ' : Ren} {n : Nat} (hρ : ∀ id, id < n → ρ' id = ρ id) {x : PV} {v : Value} (h : Rep Γ ρ' x v) : oldV n x = true → Rep Γ ρ x v := by
  induction h with
  | bool b => exact fun _ => .bool b
  | int k m => exact fun _ => .int k m
  | str l => exact fun _ => .str l
  | nilp => exact fun _ => .nilp
  | ptr l h hl => exact fun ho => .ptr l ((hρ _ (by simpa [oldV] using ho)).symm.trans h) hl
  | ptrOld l h hl a => exact fun ho => .ptrOld l ((hρ _ (by simpa [oldV] using ho)).symm.trans h) hl a
  | eptr b o vs h hr ih => exact fun ho => .eptr b o vs h fun j x hx => ih j x hx (oldL_get (by simpa [oldV] using ho) hx)
  | glob g off => exact fun _ => .glob g off
  | gptr t a h => exact fun _ => .gptr t a h
  | nils => exact fun _ => .nils
  | sl a cap vs hn hc hx h hr ih => exact fun ho => .sl a cap vs hn hc hx h fun j x hx => ih j x hx (oldL_get (by simpa [oldV] using ho) hx)
  | slNil hx => exact fun _ => .slNil hx
  | sln a cap => exact fun _ => .sln a cap
  | osl l cap h hl hc hx ho' => exact fun ho => .osl l cap ((hρ _ (by simpa [oldV] using ho)).symm.trans h) hl hc hx ho'
  | oslOld l h hl a cap hc hx => exact fun ho => .oslOld l ((hρ _ (by simpa [oldV] using ho)).symm.trans h) hl a cap hc hx
  | agg hn h ih => exact fun ho => .agg hn fun j x v hx hv => ih j x v hx hv (oldL_get (by simpa [oldV] using ho) hx)
  | fn f hn hm h h' ih ih' =>
    intro ho
    simp only [oldV, Bool.and_eq_true] at ho
    exact .fn f hn hm (fun j x v hx hv => ih j x v hx hv (oldL_get ho.1 hx)) (fun j x v hx hv => ih' j x v hx hv (oldL_get ho.2 hx))
  | nilfn => exact fun _ => .nilfn
  | iface t h ih => exact fun ho => .iface t (ih (by simpa [oldV] using ho))
  | nilif => exact fun _ => .nilif
  | tup hn h ih => exact fun ho => .tup hn fun j x v hx hv => ih j x v hx hv (oldL_get (by simpa [oldV] using ho) hx)
  | nilm => exact fun _ => .nilm
  | yld l => exact fun _ => .yld l
  | mp l h hz => exact fun ho => .mp l ((hρ _ (by simpa [oldV] using ho)).symm.trans h) hz

/-- A value names nothing that no object is named for. -/
theorem Rep.isOld {n : Nat} (hρ : ∀ id l, ρ id = some l → id < n) {x : PV} {v : Value} (h : Rep Γ ρ x v) : oldV n x = true := by
  induction h with
  | ptr l h hl => simp [oldV, hρ _ _ h]
  | ptrOld l h hl a => simp [oldV, hρ _ _ h]
  | osl l cap h hl hc hx ho => simp [oldV, hρ _ _ h]
  | oslOld l h hl a cap hc hx => simp [oldV, hρ _ _ h]
  | mp l h hz => simp [oldV, hρ _ _ h]
  | eptr b o vs h hr ih => simpa [oldV] using oldL_of ih
  | sl a cap vs hn hc hx h hr ih => simpa [oldV] using oldL_of ih
  | @agg xs vs hn h ih =>
    simp only [oldV]
    exact oldL_of fun j x hx => by
      have hlt := (List.getElem?_eq_some_iff.1 hx).1
      exact ih j x vs[j] hx (by simp [hn, hlt])
  | @fn f xs ys vs us hn hm h h' ih ih' =>
    simp only [oldV, Bool.and_eq_true]
    refine ⟨oldL_of fun j x hx => ?_, oldL_of fun j x hx => ?_⟩
    · have hlt := (List.getElem?_eq_some_iff.1 hx).1
      exact ih j x vs[j] hx (by simp [hn, hlt])
    · have hlt := (List.getElem?_eq_some_iff.1 hx).1
      exact ih' j x us[j] hx (by simp [hm, hlt])
  | iface t h ih => simpa [oldV] using ih
  | @tup xs vs hn h ih =>
    simp only [oldV]
    exact oldL_of fun j x hx => by
      have hlt := (List.getElem?_eq_some_iff.1 hx).1
      exact ih j x vs[j] hx (by simp [hn, hlt])
  | _ => rfl

theorem Reps.isOld {n : Nat} (hρ : ∀ id l, ρ id = some l → id < n) {xs : List PV} {vs : List Value} (h : Reps Γ ρ xs vs) : oldL n xs = true :=
  oldL_of fun j x hx => by
    have hlt := (List.getElem?_eq_some_iff.1 hx).1
    have := h.1
    exact (h.2 j x vs[j] hx (by simp [this, hlt])).isOld hρ

theorem Reps.old {ρ' : Ren} {n : Nat} (hρ : ∀ id, id < n → ρ' id = ρ id) {xs : List PV} {vs : List Value} (h : Reps Γ ρ' xs vs) (ho : oldL n xs = true) : Reps Γ ρ xs vs :=
  ⟨h.1, fun j x v hx hv => (h.2 j x v hx hv).old hρ (oldL_get ho hx)⟩

mutual
theorem oldV_le {n m : Nat} (hnm : n ≤ m) : ∀ (x : PV), oldV n x = true → oldV m x = true
  | .ptr id _ _, h => by simp only [oldV, decide_eq_true_eq] at h ⊢; omega
  | .osl id _ _ _ _ _, h => by simp only [oldV, decide_eq_true_eq] at h ⊢; omega
  | .mp id, h => by simp only [oldV, decide_eq_true_eq] at h ⊢; omega
  | .eptr cells _, h => by simp only [oldV] at h ⊢; exact oldL_le hnm cells h
  | .sl cells _ _ _, h => by simp only [oldV] at h ⊢; exact oldL_le hnm cells h
  | .agg cells, h => by simp only [oldV] at h ⊢; exact oldL_le hnm cells h
  | .tup cells, h => by simp only [oldV] at h ⊢; exact oldL_le hnm cells h
  | .fn _ a b, h => by simp only [oldV, Bool.and_eq_true] at h ⊢; exact ⟨oldL_le hnm a h.1, oldL_le hnm b h.2⟩
  | .iface _ v, h => by simp only [oldV] at h ⊢; exact oldV_le hnm v h
  | .bool _, _ => rfl
  | .int _ _, _ => rfl
  | .str _, _ => rfl
  | .nilp, _ => rfl
  | .glob _ _, _ => rfl
  | .gptr _, _ => rfl
  | .nils, _ => rfl
  | .sln _, _ => rfl
  | .nilfn, _ => rfl
  | .nilif, _ => rfl
  | .nilm, _ => rfl
  | .yld, _ => rfl
theorem oldL_le {n m : Nat} (hnm : n ≤ m) : ∀ (xs : List PV), oldL n xs = true → oldL m xs = true
  | [], _ => rfl
  | x :: xs, h => by
    simp only [oldL, Bool.and_eq_true] at h ⊢
    exact ⟨oldV_le hnm x h.1, oldL_le hnm xs h.2⟩
end

/-- An object names nothing that came to be after the first n objects. -/
def obOld (n : Nat) : Ob → Bool
  | .mem m => oldL n m.cells
  | .map m => match m.iter with
    | none => oldE n m.es
    | some (some id, _) => decide (id < n)
    | some (none, _) => true

theorem oldE_get {n : Nat} : ∀ {es : List (PV × PV)} {j : Nat} {e : PV × PV}, oldE n es = true → es[j]? = some e → oldV n e.1 = true ∧ oldV n e.2 = true
  | [], j, e, _, h => by simp at h
  | (k, v) :: es, 0, e, h, hx => by
    simp only [oldE, Bool.and_eq_true] at h
    simp at hx
    subst hx
    exact ⟨h.1, h.2.1⟩
  | (k, v) :: es, j + 1, e, h, hx => by
    simp only [oldE, Bool.and_eq_true] at h
    exact oldE_get h.2.2 (by simpa using hx)

theorem oldE_of {n : Nat} : ∀ {es : List (PV × PV)}, (∀ (j : Nat) (e : PV × PV), es[j]? = some e → oldV n e.1 = true ∧ oldV n e.2 = true) → oldE n es = true
  | [], _ => rfl
  | (k, v) :: es, h => by
    simp only [oldE, Bool.and_eq_true]
    exact ⟨(h 0 (k, v) rfl).1, (h 0 (k, v) rfl).2, oldE_of fun j e hx => h (j + 1) e (by simpa using hx)⟩

theorem EntsOk.old {ρ' : Ren} {n : Nat} {es : List (PV × PV)} {A : List MapEntry} (hρ : ∀ id, id < n → ρ' id = ρ id) (h : EntsOk Γ ρ' es A) (ho : oldE n es = true) : EntsOk Γ ρ es A :=
  ⟨h.1, fun j e a h1 h2 => ⟨(h.2 j e a h1 h2).1.old hρ (oldE_get ho h1).1, (h.2 j e a h1 h2).2.old hρ (oldE_get ho h1).2⟩⟩

theorem ObOk.old {ρ' : Ren} {n : Nat} {l : Loc} {ob : Ob} (hρ : ∀ id, id < n → ρ' id = ρ id) (h : ObOk Γ ρ' w l ob) (ho : obOld n ob = true) : ObOk Γ ρ w l ob := by
  cases ob with
  | mem m =>
    obtain ⟨k1, k2, k3, k4, k5, k6, C, T, k7, k8, k9⟩ := h
    exact ⟨k1, k2, k3, k4, k5, k6, C, T, k7, k8, k9.old hρ ho⟩
  | map m =>
    obtain ⟨k1, k2, k3⟩ := h
    simp only [obOld] at ho
    refine ⟨k1, k2, ?_⟩
    split at k3
    · rename_i hi
      rw [hi] at ho
      obtain ⟨A, a1, a2, a3⟩ := k3
      exact ⟨A, a1, a2, a3.old hρ ho⟩
    · rename_i o since seen last hi
      rw [hi] at ho
      obtain ⟨mo, a1, a2⟩ := k3
      refine ⟨mo, a1, ?_⟩
      cases o with
      | none => exact a2
      | some id =>
        obtain ⟨l', b1, b2⟩ := a2
        exact ⟨l', (hρ id (by simpa using ho)).symm.trans b1, b2⟩

theorem ObOk.isOld {n : Nat} {l : Loc} {ob : Ob} (hρ : ∀ id l, ρ id = some l → id < n) (h : ObOk Γ ρ w l ob) : obOld n ob = true := by
  cases ob with
  | mem m =>
    obtain ⟨_, _, _, _, _, _, C, T, _, _, k9⟩ := h
    exact k9.isOld hρ
  | map m =>
    obtain ⟨k1, k2, k3⟩ := h
    simp only [obOld]
    split at k3
    · rename_i hi
      rw [hi]
      obtain ⟨A, a1, a2, a3⟩ := k3
      refine oldE_of fun j e he => ?_
      have hlt : j < A.toList.length := by have := (List.getElem?_eq_some_iff.1 he).1; have := a3.1; omega
      have := a3.2 j e _ he (List.getElem?_eq_getElem hlt)
      exact ⟨this.1.isOld hρ, this.2.isOld hρ⟩
    · rename_i o since seen last hi
      rw [hi]
      obtain ⟨mo, a1, a2⟩ := k3
      cases o with
      | none => rfl
      | some id =>
        obtain ⟨l', b1, b2⟩ := a2
        simpa using hρ id l' b1

theorem oldE_le {n m : Nat} (hnm : n ≤ m) : ∀ (es : List (PV × PV)), oldE n es = true → oldE m es = true
  | [], _ => rfl
  | (k, v) :: es, h => by
    simp only [oldE, Bool.and_eq_true] at h ⊢
    exact ⟨oldV_le hnm k h.1, oldV_le hnm v h.2.1, oldE_le hnm es h.2.2⟩

theorem obOld_le {n m : Nat} (hnm : n ≤ m) (ob : Ob) (h : obOld n ob = true) : obOld m ob = true := by
  cases ob with
  | mem x => exact oldL_le hnm _ h
  | map x =>
    simp only [obOld] at h ⊢
    split at h
    · rename_i hi; exact oldE_le hnm _ h
    · rename_i id p hi
      simp only [decide_eq_true_eq] at h ⊢
      omega
    · rename_i p hi; rfl
/-- What is known, but for the objects. -/
theorem Rel.bare (hE : E.Ok) (h : Rel E fl Γ ρ σ w) : Rel E 0 Γ (fun _ => none) [] w := by
  refine ⟨h.fix, fun id l hl => (by cases hl), fun id l m hl => (by cases hl), fun i j li lj hi => (by cases hi), fun g cells hg => ?_, h.rock.move h.glob (fun _ _ _ h => h) (fun _ _ _ => rfl) (fun _ _ _ _ _ hl => by cases hl)⟩
  obtain ⟨vs, hv⟩ := h.glob g cells hg
  exact ⟨vs, fun j x hx => ⟨(hv j x hx).1, (hv j x hx).2.1, (hv j x hx).2.2.old (n := 0) (fun id hid => absurd hid (Nat.not_lt_zero id)) (oldL_get (hE.glob g cells hg) hx)⟩⟩

theorem bare_ok (h : Rel E fl Γ ρ σ w) {p : PV} {σ1 : Store} {r : Value} {w1 : World} (hm : Moves E 0 Γ (fun _ => none) [] w p σ1 r w1) (ho : oldV 0 p = true) : Moves E fl Γ ρ σ w p σ r w1 := by
  obtain ⟨Γ1, ρ1, hr1, hR1, hp⟩ := hm
  have hheap : ∀ b, b < w.heap.size → w1.heap[b]? = w.heap[b]? := fun b hb => hp.frame b hb fun id l hl => by cases hl
  have hfresh : ∀ b o, Γ b o = none → Γ1 b o ≠ none → w.heap.size ≤ b := by
    intro b o h1 h2
    rcases hp.fresh b o h1 h2 with h3 | ⟨id, l, m, h3, _⟩
    · exact h3
    · cases h3
  have hle : Le Γ ρ Γ1 ρ := ⟨hp.le.fix, fun _ l h => ⟨l, h, .inl rfl⟩⟩
  refine ⟨Γ1, ρ, hr1.old (n := 0) (fun id hid => absurd hid (Nat.not_lt_zero id)) ho, ⟨hR1.fix, fun id l hl => ?_, fun id l m hl hid hm hi o => ?_, h.inj, fun g cells hg => ?_, h.rock.move h.glob hle.fix (fun b hb _ => hheap b hb) (fun _ id l _ hn hl => hn id l hl)⟩, ?_⟩
  · obtain ⟨ob, hob, hk⟩ := h.mem id l hl
    exact ⟨ob, hob, hk.move hle (hheap _ (h.block_lt hl))⟩
  · cases hg : Γ1 l.block o with
    | none => rfl
    | some u =>
      have h3 := hfresh l.block o (h.apart id l m hl hid hm hi o) (by simp [hg])
      have := h.block_lt hl
      omega
  · obtain ⟨vs, hv⟩ := h.glob g cells hg
    exact ⟨vs, fun j x hx => ⟨hle.fix _ _ _ (hv j x hx).1, (hv j x hx).2.1, (hv j x hx).2.2.mono hle⟩⟩
  · exact { Post.refl fl Γ ρ σ w with le := hle, fresh := fun b o h1 h2 => .inl (hfresh b o h1 h2), frame := fun b hb _ => hheap b hb, size := hp.size, os := hp.os, tape := hp.tape, output := hp.output }

end
end Go.Proofs.YtfpjlkkeelgffaaDoor.Am
