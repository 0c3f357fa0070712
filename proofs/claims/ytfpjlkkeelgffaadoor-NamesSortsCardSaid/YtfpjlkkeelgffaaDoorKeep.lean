/- Part of the road on a part of the store: cutting what is known to what was there ahead of an operation, and joining what it made. -/
import Derived.Test.YtfpjlkkeelgffaaDoorStep2
import Derived.Test.YtfpjlkkeelgffaaDoorAm2
set_option linter.unusedVariables false
set_option linter.unusedSimpArgs false
namespace Go.Proofs.YtfpjlkkeelgffaaDoor.Am
section
variable {E : Env} {fl : Nat} {Γ : Sealed} {ρ : Ren} {σ : Store} {w : World}

theorem sameIce_get : ∀ {σ σ' : Store} {id : Nat} {m m' : Mem}, sameIce σ σ' = true → σ[id]? = some (.mem m) → σ'[id]? = some (.mem m') → m'.ice = m.ice ∧ m'.box = m.box
  | [], σ', id, m, m', _, h, _ => by simp at h
  | .mem n :: σ, [], id, m, m', _, _, h => by simp at h
  | .map n :: σ, [], id, m, m', _, _, h => by simp at h
  | .mem n :: σ, .map n' :: σ', id, m, m', h, _, _ => by simp [sameIce] at h
  | .map n :: σ, .mem n' :: σ', id, m, m', h, _, _ => by simp [sameIce] at h
  | .mem n :: σ, .mem n' :: σ', 0, m, m', h, h1, h2 => by
    simp only [sameIce, Bool.and_eq_true, beq_iff_eq] at h
    simp at h1 h2
    subst h1 h2
    exact ⟨h.1.symm, h.2.1.symm⟩
  | .map n :: σ, .map n' :: σ', 0, m, m', h, h1, h2 => by simp at h1
  | .mem n :: σ, .mem n' :: σ', id + 1, m, m', h, h1, h2 => by
    simp only [sameIce, Bool.and_eq_true] at h
    exact sameIce_get h.2.2 (by simpa using h1) (by simpa using h2)
  | .map n :: σ, .map n' :: σ', id + 1, m, m', h, h1, h2 => by
    simp only [sameIce] at h
    exact sameIce_get h (by simpa using h1) (by simpa using h2)

/-- What was there stands as it stood. -/
theorem stays {Γ' ρ' σ' w'} (hp : Post σ.length Γ ρ σ w Γ' ρ' σ' w') (hi : sameIce σ σ' = true) : σ ++ σ'.drop σ.length = σ' := by
  apply List.ext_getElem?
  intro j
  by_cases hj : j < σ.length
  · rw [List.getElem?_append_left hj]
    have h := hp.lowS j hj
    have hj' : j < σ'.length := Nat.lt_of_lt_of_le hj hp.len
    have e1 : σ[j]? = some σ[j] := by simp [hj]
    have e2 : σ'[j]? = some σ'[j] := by simp [hj']
    cases h1 : σ[j] with
    | map es =>
      rw [e1, h1] at h
      simp only [SameOb] at h
      rw [e1, h1]
      exact h
    | mem m =>
      rw [e1, h1] at h
      obtain ⟨m', hm', k1, k2, k3, k4⟩ := h.mem
      have k5 := sameIce_get hi (e1.trans (by rw [h1])) hm'
      rw [e1, h1, hm']
      cases m; cases m'
      simp_all
  · rw [List.getElem?_append_right (by omega), List.getElem?_drop]
    congr 1
    omega

theorem Rel.raise {fl' : Nat} (h : Rel E fl Γ ρ σ w) (hf : fl ≤ fl') : Rel E fl' Γ ρ σ w :=
  { h with apart := fun id l m hl hid => h.apart id l m hl (Nat.le_trans hf hid) }

def cutR (k : Nat) (ρ : Ren) : Ren := fun id => if id < k then ρ id else none

theorem cutR_some {k : Nat} {id : Nat} {l : Loc} (h : cutR k ρ id = some l) : id < k ∧ ρ id = some l := by
  unfold cutR at h
  split at h
  · exact ⟨by assumption, h⟩
  · cases h

theorem cutR_lt {k : Nat} {id : Nat} (h : id < k) : ρ id = cutR k ρ id := by unfold cutR; rw [if_pos h]

theorem cut_le (k : Nat) : Le Γ (cutR k ρ) Γ ρ := ⟨fun _ _ _ h => h, fun id l h => ⟨l, (cutR_some h).2, .inl rfl⟩⟩

theorem Rel.cut (hE : E.Ok) {more : Store} (h : Rel E fl Γ ρ (σ ++ more) w) (hf : fl ≤ σ.length) (hold : ∀ (id : Nat) (l : Loc) (ob : Ob), id < σ.length → ρ id = some l → σ[id]? = some ob → obOld σ.length ob = true) :
    Rel E fl Γ (cutR σ.length ρ) σ w := by
  refine ⟨h.fix, fun id l hl => ?_, fun id l m hl hid hm hi o => ?_, fun i j li lj hi hj => h.inj i j li lj (cutR_some hi).2 (cutR_some hj).2, fun g cells hg => ?_, h.rock.move h.glob (fun _ _ _ h => h) (fun _ _ _ => rfl) (fun b id l _ hn hl => hn id l (cutR_some hl).2)⟩
  · obtain ⟨h1, h2⟩ := cutR_some hl
    obtain ⟨ob, ho, hk⟩ := h.mem id l h2
    rw [List.getElem?_append_left h1] at ho
    exact ⟨ob, ho, hk.old (fun id hid => cutR_lt hid) (hold id l ob h1 h2 ho)⟩
  · obtain ⟨h1, h2⟩ := cutR_some hl
    exact h.apart id l m h2 hid (by rw [List.getElem?_append_left h1]; exact hm) hi o
  · obtain ⟨vs, hv⟩ := h.glob g cells hg
    exact ⟨vs, fun j x hx => ⟨(hv j x hx).1, (hv j x hx).2.1, (hv j x hx).2.2.old (n := 0) (fun id hid => absurd hid (Nat.not_lt_zero id)) (oldL_get (hE.glob g cells hg) hx)⟩⟩

theorem Rel.pad {more : Store} (h : Rel E fl Γ ρ σ w) : Rel E fl Γ ρ (σ ++ more) w := by
  refine ⟨h.fix, fun id l hl => ?_, fun id l m hl hid hm => h.apart id l m hl hid ?_, h.inj, h.glob, h.rock⟩
  · obtain ⟨ob, ho, hk⟩ := h.mem id l hl
    exact ⟨ob, by rw [List.getElem?_append_left (h.id_lt hl)]; exact ho, hk⟩
  · rwa [List.getElem?_append_left (h.id_lt hl)] at hm

theorem Post.pad {Γ' ρ' σ' w'} {more : Store} (hR : Rel E fl Γ ρ σ w) (hf : fl ≤ σ.length) (h : Post fl Γ ρ σ w Γ' ρ' σ' w') : Post fl Γ ρ σ w Γ' ρ' (σ' ++ more) w' := by
  have hget : ∀ id, id < σ.length → (σ' ++ more)[id]? = σ'[id]? := fun id hid => List.getElem?_append_left (Nat.lt_of_lt_of_le hid h.len)
  refine { h with lowS := fun id hid => ?_, fresh := fun b o h1 h2 => ?_, len := ?_, ice := fun id m h1 h2 => ?_ }
  · rw [hget id (by omega)]; exact h.lowS id hid
  · rcases h.fresh b o h1 h2 with h3 | ⟨id, l, m, h3, h4, h5, h6⟩
    · exact .inl h3
    · exact .inr ⟨id, l, m, h3, h4, by rw [hget id (hR.id_lt h3)]; exact h5, h6⟩
  · have := h.len
    simp
    omega
  · obtain ⟨m', h3, h4⟩ := h.ice id m h1 h2
    exact ⟨m', by rw [hget id (List.getElem?_eq_some_iff.1 h1).1]; exact h3, h4⟩

/-- What an operation made beside others, joined. -/
def joinR (a b : Nat) (ρ ρ1 : Ren) : Ren := fun id => if a ≤ id ∧ id < b then ρ1 id else ρ id

theorem join_ok {new more : Store} {Γ1 : Sealed} {ρ1 : Ren} {w1 : World} (h : Rel E fl Γ ρ (σ ++ (new ++ more)) w) (hf : fl ≤ σ.length) (hnone : ∀ id, σ.length ≤ id → id < (σ ++ new).length → ρ id = none)
    (h1 : Rel E σ.length Γ1 ρ1 (σ ++ new) w1) (hp : Post σ.length Γ (cutR σ.length ρ) σ w Γ1 ρ1 (σ ++ new) w1) :
    let ρ2 := joinR σ.length (σ ++ new).length ρ ρ1
    Rel E fl Γ1 ρ2 (σ ++ (new ++ more)) w1 ∧ Post fl Γ ρ (σ ++ (new ++ more)) w Γ1 ρ2 (σ ++ (new ++ more)) w1 ∧ Le Γ1 ρ1 Γ1 ρ2 := by
  intro ρ2
  have hnew : ∀ id, σ.length ≤ id → id < (σ ++ new).length → ρ2 id = ρ1 id := fun id ha hb => by simp only [ρ2, joinR, if_pos (And.intro ha hb)]
  have hold : ∀ id, ¬ (σ.length ≤ id ∧ id < (σ ++ new).length) → ρ2 id = ρ id := fun id hn => by simp only [ρ2, joinR, if_neg hn]
  have hlow : ∀ id, id < σ.length → ρ1 id = ρ id := fun id hid => (hp.low id hid).trans (cutR_lt hid).symm
  have hst : ∀ id, id < (σ ++ new).length → (σ ++ (new ++ more))[id]? = (σ ++ new)[id]? := fun id hid => by rw [← List.append_assoc, List.getElem?_append_left hid]
  have hle1 : Le Γ1 ρ1 Γ1 ρ2 := ⟨fun _ _ _ h => h, fun id l hl => ⟨l, by
    have hid := h1.id_lt hl
    by_cases ha : σ.length ≤ id
    · rw [hnew id ha hid]; exact hl
    · rw [hold id (fun hc => ha hc.1), ← hlow id (by omega)]; exact hl, .inl rfl⟩⟩
  have hle : Le Γ ρ Γ1 ρ2 := ⟨hp.le.fix, fun id l hl => ⟨l, by
    rw [hold id (fun hc => by rw [hnone id hc.1 hc.2] at hl; cases hl)]; exact hl, .inl rfl⟩⟩
  have hheap : ∀ b, b < w.heap.size → w1.heap[b]? = w.heap[b]? := fun b hb => hp.frame b hb fun id l hl _ => (cutR_some hl).1
  have hnewblk : ∀ id l, σ.length ≤ id → ρ1 id = some l → w.heap.size ≤ l.block := by
    intro id l ha hl
    rcases hp.blocks id l hl with ⟨l0, h0, _⟩ | h0
    · have := (cutR_some h0).1; omega
    · exact h0
  have hfresh : ∀ b o, Γ b o = none → Γ1 b o ≠ none → w.heap.size ≤ b ∨ ∃ (id : Nat) (l : Loc) (m : Mem), ρ id = some l ∧ l.block = b ∧ (σ ++ (new ++ more))[id]? = some (.mem m) ∧ m.ice = true := by
    intro b o k1 k2
    rcases hp.fresh b o k1 k2 with k3 | ⟨id, l, m, k3, k4, k5, k6⟩
    · exact .inl k3
    · obtain ⟨k7, k8⟩ := cutR_some k3
      exact .inr ⟨id, l, m, k8, k4, by rw [hst id (by simp; omega)]; exact k5, k6⟩
  refine ⟨⟨h1.fix, fun id l hl => ?_, fun id l m hl hid hm hi o => ?_, fun i j li lj hi hj e => ?_, fun g cells hg => ?_, ?_⟩, ?_, hle1⟩
  · by_cases hc : σ.length ≤ id ∧ id < (σ ++ new).length
    · rw [hnew id hc.1 hc.2] at hl
      obtain ⟨ob, ho, hk⟩ := h1.mem id l hl
      exact ⟨ob, by rw [hst id hc.2]; exact ho, hk.move hle1 rfl⟩
    · rw [hold id hc] at hl
      obtain ⟨ob, ho, hk⟩ := h.mem id l hl
      exact ⟨ob, ho, hk.move hle (hheap _ (h.block_lt hl))⟩
  · by_cases hc : σ.length ≤ id ∧ id < (σ ++ new).length
    · rw [hnew id hc.1 hc.2] at hl
      rw [hst id hc.2] at hm
      exact h1.apart id l m hl hc.1 hm hi o
    · rw [hold id hc] at hl
      cases hg : Γ1 l.block o with
      | none => rfl
      | some u =>
        rcases hfresh l.block o (h.apart id l m hl hid hm hi o) (by simp [hg]) with h3 | ⟨id', l', m', h3, h4, h5, h6⟩
        · have := h.block_lt hl; omega
        · have := h.inj id' id l' l h3 hl h4
          subst this
          rw [hm] at h5; cases h5; rw [hi] at h6; cases h6
  · by_cases hci : σ.length ≤ i ∧ i < (σ ++ new).length
    · rw [hnew i hci.1 hci.2] at hi
      by_cases hcj : σ.length ≤ j ∧ j < (σ ++ new).length
      · rw [hnew j hcj.1 hcj.2] at hj
        exact h1.inj i j li lj hi hj e
      · rw [hold j hcj] at hj
        have k1 := hnewblk i li hci.1 hi
        have k2 := h.block_lt hj
        omega
    · rw [hold i hci] at hi
      by_cases hcj : σ.length ≤ j ∧ j < (σ ++ new).length
      · rw [hnew j hcj.1 hcj.2] at hj
        have k1 := hnewblk j lj hcj.1 hj
        have k2 := h.block_lt hi
        omega
      · rw [hold j hcj] at hj
        exact h.inj i j li lj hi hj e
  · obtain ⟨vs, hv⟩ := h.glob g cells hg
    exact ⟨vs, fun j x hx => ⟨hle.fix _ _ _ (hv j x hx).1, (hv j x hx).2.1, (hv j x hx).2.2.mono hle⟩⟩
  · refine h.rock.move h.glob hp.le.fix (fun b hb _ => hheap b hb) (fun b id l hb hn hl => ?_)
    by_cases hc : σ.length ≤ id ∧ id < (σ ++ new).length
    · rw [hnew id hc.1 hc.2] at hl
      have := hnewblk id l hc.1 hl
      omega
    · rw [hold id hc] at hl
      exact hn id l hl
  · exact {
      le := hle
      blocks := fun id l' hl => by
        by_cases hc : σ.length ≤ id ∧ id < (σ ++ new).length
        · rw [hnew id hc.1 hc.2] at hl
          exact .inr (hnewblk id l' hc.1 hl)
        · rw [hold id hc] at hl
          exact .inl ⟨l', hl, rfl⟩
      low := fun id hid => hold id (fun hc => by omega)
      lowS := fun id _ => .refl _
      fresh := hfresh
      frame := fun b hb _ => hheap b hb
      size := hp.size
      os := hp.os
      tape := hp.tape
      output := hp.output
      len := Nat.le_refl _
      ice := fun id m k1 k2 => ⟨m, k1, k2⟩ }

/-- A tight operation, with its own store ahead of it. -/
theorem tight_ok (hE : E.Ok) {rec : Rec} (hrec : SoundRec E rec) (h : Rel E fl Γ ρ σ w) (hfl : fl ≤ σ.length) {ev : Operand → Option PV} {a : Act} (he : EnvOk Γ ρ ev a) {o : Oper} {p : PV} {σ' : Store}
    (hs : opA E rec fl true ev σ o.op = some (p, σ')) : (∃ new, σ' = σ ++ new) ∧ StepOk E.P o a w (Moves E σ.length Γ ρ σ w p σ') := by
  simp only [opA, if_true] at hs
  split at hs
  · rename_i v σ1 hv
    split at hs
    · rename_i hi
      cases hs
      refine ⟨⟨_, rfl⟩, (stepA_ok hE hrec (h.raise hfl) (Nat.le_refl _) he hv).mono fun r w' hm => ?_⟩
      obtain ⟨Γ1, ρ1, hr, hR, hP⟩ := hm
      rw [stays hP hi]
      exact ⟨Γ1, ρ1, hr, hR, hP⟩
    · cases hs
  · cases hs

end
end Go.Proofs.YtfpjlkkeelgffaaDoor.Am
