/- A call with the objects that its arguments reach, and no others. -/
import Derived.Test.YtfpjlkkeelgffaaDoorRen
import Derived.Test.YtfpjlkkeelgffaaDoorStep
set_option linter.unusedVariables false
set_option linter.unusedSimpArgs false
namespace Go.Proofs.YtfpjlkkeelgffaaDoor.Am
section
variable {E : Env} {fl : Nat} {Γ : Sealed} {ρ : Ren} {σ : Store} {w : World}

theorem nodupN_ok : ∀ (l : List Nat), nodupN l = true → l.Nodup
  | [], _ => List.nodup_nil
  | x :: xs, h => by
    simp only [nodupN, Bool.and_eq_true, Bool.not_eq_true'] at h
    refine List.nodup_cons.2 ⟨fun hm => ?_, nodupN_ok xs h.2⟩
    rw [(memN_iff x xs).2 hm] at h
    cases h.1

theorem placeN_none : ∀ (L : List Nat) (x i : Nat), placeN x L i = none → ∀ q : Nat, L[q]? ≠ some x
  | [], x, i, h, q => by simp
  | y :: ys, x, i, h, q => by
    simp only [placeN] at h
    split at h
    · cases h
    · rename_i hb
      cases q with
      | zero =>
        intro e
        simp at e
        subst e
        exact hb (Nat.beq_refl y)
      | succ q => simpa using placeN_none ys x (i + 1) h q

theorem renOb_ice {n : Nat} {L : List Nat} {m : Mem} {ob1 : Ob} (hr : renOb n L (.mem m) = some ob1) : ∃ m1 : Mem, ob1 = .mem m1 ∧ m1.ice = m.ice := by
  simp only [renOb] at hr
  split at hr
  · simp only [Option.map_eq_some_iff] at hr
    obtain ⟨cs, hcs, rfl⟩ := hr
    exact ⟨_, rfl, rfl⟩
  · split at hr
    · cases hr; exact ⟨m, rfl, rfl⟩
    · cases hr

theorem renL_reps {n : Nat} {L : List Nat} {xs ys : List PV} {vs : List Value} (h : Reps Γ ρ xs vs) (hr : renL n L xs = some ys) : Reps Γ (renR n L ρ) ys vs :=
  ⟨by rw [renL_len hr]; exact h.1, fun j y v hy hv => by
    obtain ⟨x, hx, e⟩ := renL_get hr hy
    exact (h.2 j x v hx hv).ren e⟩

/-- What came to be in a call, by new numbers, seen from where the call began. -/
theorem Post.rename {Γ0 : Sealed} {ρ0 : Ren} {σ0 : Store} {w0 : World} (h0 : Rel E 0 Γ0 ρ0 σ0 w0) (hp : Post 0 Γ0 ρ0 σ0 w0 Γ ρ σ w) (h : Rel E 0 Γ ρ σ w) {L : List Nat} {os : List Ob} {σ1 : Store}
    (hge : ∀ j ∈ L, σ0.length ≤ j) (hσ1 : renStore σ0.length L (σ.take σ0.length ++ os) = some σ1) :
    Post 0 Γ0 ρ0 σ0 w0 Γ (renR σ0.length L ρ) σ1 w := by
  have hlen0 : σ0.length ≤ σ.length := hp.len
  have hlow : ∀ id, id < σ0.length → (σ.take σ0.length ++ os)[id]? = σ[id]? := fun id hid => by
    rw [List.getElem?_append_left (by simp only [List.length_take]; omega), List.getElem?_take, if_pos hid]
  have hkeep : ∀ id (m : Mem), id < σ0.length → σ[id]? = some (.mem m) → ∃ m1 : Mem, σ1[id]? = some (.mem m1) ∧ m1.ice = m.ice := by
    intro id m hid hm
    obtain ⟨ob1, h1, h2⟩ := (renStore_get hσ1).1 _ ((hlow id hid).trans hm)
    obtain ⟨m1, rfl, h3⟩ := renOb_ice h2
    exact ⟨m1, h1, h3⟩
  refine { hp with le := ⟨hp.le.fix, fun id l hl => ?_⟩, blocks := fun id l hl => ?_, low := fun id hid => absurd hid (Nat.not_lt_zero id), lowS := fun id hid => absurd hid (Nat.not_lt_zero id), fresh := fun b o h1 h2 => ?_, len := ?_, ice := fun id m hm hi => ?_ }
  · obtain ⟨l', h1, h2⟩ := hp.le.ren id l hl
    exact ⟨l', (renR_old id (h0.id_lt hl)).trans h1, h2⟩
  · unfold renR at hl
    split at hl
    · exact hp.blocks id l hl
    · cases hq : L[id - σ0.length]? with
      | none => simp [hq] at hl
      | some id' =>
        rw [hq] at hl
        rcases hp.blocks id' l hl with ⟨l0, h1, h2⟩ | h1
        · have := h0.id_lt h1
          have := hge id' (List.mem_of_getElem? hq)
          omega
        · exact .inr h1
  · rcases hp.fresh b o h1 h2 with h3 | ⟨id, l, m, h3, h4, h5, h6⟩
    · exact .inl h3
    · obtain ⟨m1, d1, d2⟩ := hkeep id m (h0.id_lt h3) h5
      exact .inr ⟨id, l, m1, h3, h4, d1, d2.trans h6⟩
  · rw [(renStore_get (id := 0) hσ1).2]
    simp only [List.length_append, List.length_take]
    omega
  · obtain ⟨m', h1, h2⟩ := hp.ice id m hm hi
    obtain ⟨m1, d1, d2⟩ := hkeep id m' (List.getElem?_eq_some_iff.1 hm).1 h1
    exact ⟨m1, d1, d2.trans h2⟩

theorem setAll_len : ∀ (L : List Nat) (os : List Ob) (σ : Store), L.length ≤ os.length → (setAll σ L os).length = σ.length + (os.length - L.length)
  | [], os, σ, h => by simp [setAll]
  | id :: L, [], σ, h => by simp at h
  | id :: L, o :: os, σ, h => by
    simp only [setAll]
    rw [setAll_len L os (σ.set id o) (by simpa using h)]
    simp

theorem setAll_out : ∀ (L : List Nat) (os : List Ob) (σ : Store) (id : Nat), id < σ.length → ¬ id ∈ L → (setAll σ L os)[id]? = σ[id]?
  | [], os, σ, id, h, hm => by simp only [setAll]; exact List.getElem?_append_left h
  | x :: L, [], σ, id, h, hm => rfl
  | x :: L, o :: os, σ, id, h, hm => by
    simp only [setAll]
    rw [List.mem_cons, not_or] at hm
    rw [setAll_out L os (σ.set x o) id (by simpa using h) hm.2, List.getElem?_set_ne (Ne.symm hm.1)]

theorem setAll_in : ∀ (L : List Nat) (os : List Ob) (σ : Store) (q id : Nat), L.Nodup → L.length ≤ os.length → (∀ x ∈ L, x < σ.length) → L[q]? = some id → (setAll σ L os)[id]? = os[q]?
  | [], os, σ, q, id, hn, hl, hlt, hq => by simp at hq
  | x :: L, [], σ, q, id, hn, hl, hlt, hq => by simp at hl
  | x :: L, o :: os, σ, q, id, hn, hl, hlt, hq => by
    simp only [setAll]
    obtain ⟨n1, n2⟩ := List.nodup_cons.1 hn
    cases q with
    | zero =>
      simp at hq
      subst hq
      have := hlt x List.mem_cons_self
      rw [setAll_out L os (σ.set x o) x (by simpa using this) n1]
      simp [this]
    | succ q =>
      have := setAll_in L os (σ.set x o) q id n2 (by simpa using hl) (fun y hy => by simpa using hlt y (List.mem_cons_of_mem _ hy)) (by simpa using hq)
      simpa using this

theorem setAll_new : ∀ (L : List Nat) (os : List Ob) (σ : Store) (j : Nat), L.length ≤ os.length → (setAll σ L os)[σ.length + j]? = os[L.length + j]?
  | [], os, σ, j, hl => by simp only [setAll, List.length_nil, Nat.zero_add]; rw [List.getElem?_append_right (by omega), Nat.add_sub_cancel_left]
  | x :: L, [], σ, j, hl => by simp at hl
  | x :: L, o :: os, σ, j, hl => by
    simp only [setAll]
    have := setAll_new L os (σ.set x o) j (by simpa using hl)
    rw [List.length_set] at this
    rw [this, List.length_cons, show L.length + 1 + j = L.length + j + 1 from by omega, List.getElem?_cons_succ]

theorem backL_old {L : List Nat} {n k new id : Nat} (h : id < n) : (backL L n k new)[id]? = some ((placeN id L 0).getD (k + new)) := by
  unfold backL
  rw [List.getElem?_append_left (by simpa using h)]
  simp [h]

theorem backL_new {L : List Nat} {n k new id : Nat} (h : n ≤ id) : (backL L n k new)[id]? = if id - n < new then some (k + (id - n)) else none := by
  unfold backL
  rw [List.getElem?_append_right (by simpa using h)]
  simp only [List.length_map, List.length_range, List.getElem?_map]
  split
  · rename_i h1; simp [h1]
  · rename_i h1; simp [h1]

theorem reach_lt {σ : Store} {L : List Nat} {os : List Ob} (h : pickObs σ L = some os) : ∀ x ∈ L, x < σ.length := by
  intro x hx
  obtain ⟨q, hq⟩ := List.getElem?_of_mem hx
  obtain ⟨ob, _, h2⟩ := (pickObs_get (q := q) h).2 x hq
  exact (List.getElem?_eq_some_iff.1 h2).1

/-- What a call left in its few objects, put back. -/
theorem back_ok (hE : E.Ok) (h : Rel E fl Γ ρ σ w) (hfl : fl ≤ σ.length) {L : List Nat} (hnd : L.Nodup) (hge : ∀ x ∈ L, fl ≤ x) {os : List Ob} (hos : pickObs σ L = some os) {σs : Store} (hσs : renStore 0 L os = some σs)
    {v p : PV} {r : Value} {Γ1 : Sealed} {ρ2 : Ren} {σ2 σ3 : Store} {w1 : World} (hv : Rep Γ1 ρ2 v r) (h2 : Rel E 0 Γ1 ρ2 σ2 w1) (hp : Post 0 Γ (renR 0 L ρ) σs w Γ1 ρ2 σ2 w1)
    (hpv : renV 0 (backL L σ.length L.length (σ2.length - L.length)) v = some p) (hσ3 : renStore 0 (backL L σ.length L.length (σ2.length - L.length)) σ2 = some σ3) :
    Moves E fl Γ ρ σ w p (setAll σ L σ3) r w1 := by
  have hos_len := (pickObs_get (q := 0) hos).1
  have hσs_len : σs.length = L.length := by rw [(renStore_get (id := 0) hσs).2, hos_len]
  have hk : L.length ≤ σ2.length := by have := hp.len; omega
  have hσ3_len : σ3.length = σ2.length := (renStore_get (id := 0) hσ3).2
  have hk3 : L.length ≤ σ3.length := by omega
  have hlt := reach_lt hos
  have hs0 : ∀ q, renR 0 L ρ q = (L[q]?).bind ρ := fun q => by simp [renR]
  have hs : ∀ q l, renR 0 L ρ q = some l → ∃ id, L[q]? = some id ∧ ρ id = some l := fun q l hq => by
    rw [hs0] at hq
    cases e : L[q]? with
    | none => simp [e] at hq
    | some id => exact ⟨id, rfl, by simpa [e] using hq⟩
  have hplace : ∀ q id, L[q]? = some id → placeN id L 0 = some q := fun q id hq => by
    cases e : placeN id L 0 with
    | none => exact absurd hq (placeN_none L id 0 e q)
    | some q' =>
      obtain ⟨q2, e1, e2⟩ := placeN_ok L id 0 q' e
      have k1 := (List.getElem?_eq_some_iff.1 hq).1
      have := (List.getElem?_inj k1 hnd).1 (hq.trans e2.symm)
      rw [e1, this, Nat.zero_add]
  -- the places by the old numbers
  generalize hB : backL L σ.length L.length (σ2.length - L.length) = B at hpv hσ3
  have hb0 : ∀ id, renR 0 B ρ2 id = (B[id]?).bind ρ2 := fun q => by simp [renR]
  have hnone : ∀ q, σ2.length ≤ q → ρ2 q = none := fun q hq => by
    cases e : ρ2 q with
    | none => rfl
    | some l => have := h2.id_lt e; omega
  have hbIn : ∀ q id, L[q]? = some id → renR 0 B ρ2 id = ρ2 q := fun q id hq => by
    rw [hb0, ← hB, backL_old (hlt id (List.mem_of_getElem? hq)), hplace q id hq]
    rfl
  have hbOut : ∀ id, id < σ.length → ¬ id ∈ L → renR 0 B ρ2 id = none := fun id h1 h2' => by
    rw [hb0, ← hB, backL_old h1]
    cases e : placeN id L 0 with
    | none => exact hnone _ (by simp only [Option.getD_none]; omega)
    | some q =>
      obtain ⟨q2, _, e2⟩ := placeN_ok L id 0 q e
      exact absurd (List.mem_of_getElem? e2) h2'
  have hbAll : ∀ id l, renR 0 B ρ2 id = some l → ∃ q, ρ2 q = some l ∧ ((q < L.length ∧ L[q]? = some id) ∨ (L.length ≤ q ∧ id = σ.length + (q - L.length))) := by
    intro id l hl
    by_cases h1 : id < σ.length
    · by_cases h3 : id ∈ L
      · obtain ⟨q, hq⟩ := List.getElem?_of_mem h3
        rw [hbIn q id hq] at hl
        exact ⟨q, hl, .inl ⟨(List.getElem?_eq_some_iff.1 hq).1, hq⟩⟩
      · rw [hbOut id h1 h3] at hl; cases hl
    · rw [hb0, ← hB, backL_new (by omega)] at hl
      split at hl
      · exact ⟨L.length + (id - σ.length), hl, .inr ⟨by omega, by omega⟩⟩
      · cases hl
  -- the store that comes of it
  have hget : ∀ q id, ((q < L.length ∧ L[q]? = some id) ∨ (L.length ≤ q ∧ id = σ.length + (q - L.length))) → (setAll σ L σ3)[id]? = σ3[q]? := by
    rintro q id (⟨_, hq⟩ | ⟨hq, rfl⟩)
    · exact setAll_in L σ3 σ q id hnd hk3 hlt hq
    · rw [setAll_new L σ3 σ _ hk3, show L.length + (q - L.length) = q from by omega]
  -- all places
  let ρ3 : Ren := fun id => if id < σ.length ∧ ¬ id ∈ L then ρ id else renR 0 B ρ2 id
  have h3o : ∀ id, id < σ.length → ¬ id ∈ L → ρ3 id = ρ id := fun id h1 h2' => if_pos ⟨h1, h2'⟩
  have h3i : ∀ id, id ∈ L → ρ3 id = renR 0 B ρ2 id := fun id h1 => if_neg fun e => e.2 h1
  have h3 : ∀ id l, ρ3 id = some l → (id < σ.length ∧ ¬ id ∈ L ∧ ρ id = some l) ∨ ∃ q, ρ2 q = some l ∧ ((q < L.length ∧ L[q]? = some id) ∨ (L.length ≤ q ∧ id = σ.length + (q - L.length))) := by
    intro id l hl
    by_cases hc : id < σ.length ∧ ¬ id ∈ L
    · exact .inl ⟨hc.1, hc.2, by rw [← h3o id hc.1 hc.2]; exact hl⟩
    · refine .inr (hbAll id l ?_)
      rw [← hl]
      exact (if_neg hc).symm
  have leB : Le Γ1 (renR 0 B ρ2) Γ1 ρ3 := by
    refine ⟨fun _ _ _ h => h, fun id l hl => ⟨l, ?_, .inl rfl⟩⟩
    by_cases hc : id < σ.length ∧ ¬ id ∈ L
    · rw [hbOut id hc.1 hc.2] at hl; cases hl
    · exact (if_neg hc).trans hl
  have leR : Le Γ ρ Γ1 ρ3 := by
    refine ⟨hp.le.fix, fun id l hl => ?_⟩
    by_cases hm : id ∈ L
    · obtain ⟨q, hq⟩ := List.getElem?_of_mem hm
      obtain ⟨l', e1, e2⟩ := hp.le.ren q l (by rw [hs0, hq]; exact hl)
      exact ⟨l', by rw [h3i id hm, hbIn q id hq]; exact e1, e2⟩
    · exact ⟨l, (h3o id (h.id_lt hl) hm).trans hl, .inl rfl⟩
  -- an old object that did not go along has no block that went along
  have hout : ∀ id l q l', ρ id = some l → ¬ id ∈ L → renR 0 L ρ q = some l' → l'.block ≠ l.block := fun id l q l' hl hm hq e => by
    obtain ⟨i', e1, e2⟩ := hs q l' hq
    have := h.inj i' id l' l e2 hl e
    subst this
    exact hm (List.mem_of_getElem? e1)
  have hframe : ∀ id l, ρ id = some l → ¬ id ∈ L → w1.heap[l.block]? = w.heap[l.block]? := fun id l hl hm =>
    hp.frame l.block (h.block_lt hl) fun q l' hq e => absurd e (hout id l q l' hl hm hq)
  have hmem : ∀ q l, ρ2 q = some l → ∃ m0 m1 : Ob, σ2[q]? = some m0 ∧ σ3[q]? = some m1 ∧ (∀ n1 : Mem, m1 = .mem n1 → ∃ n0 : Mem, m0 = .mem n0 ∧ n1.ice = n0.ice) ∧ ObOk Γ1 ρ3 w1 l m1 := by
    intro q l hl
    obtain ⟨m0, e1, e2⟩ := h2.mem q l hl
    obtain ⟨ob1, e3, e4⟩ := (renStore_get hσ3).1 _ e1
    obtain ⟨e5, e6⟩ := renOb_any e2 e4
    exact ⟨m0, ob1, e1, e3, e6, e5.move leB rfl⟩
  have hblk : ∀ q l id l', ρ2 q = some l → ρ id = some l' → ¬ id ∈ L → l.block ≠ l'.block := fun q l id l' hq hl hm e => by
    rcases hp.blocks q l hq with ⟨l0, e1, e2⟩ | e1
    · exact hout id l' q l0 hl hm e1 (e2.trans e)
    · have := h.block_lt hl; omega
  have hiceS : ∀ (q id : Nat) (m : Mem), L[q]? = some id → σ[id]? = some (.mem m) → ∃ ms : Mem, σs[q]? = some (.mem ms) ∧ ms.ice = m.ice := by
    intro q id m hq hm
    obtain ⟨ob, e1, e2⟩ := (pickObs_get (q := q) hos).2 id hq
    rw [hm] at e2
    cases e2
    obtain ⟨ob1, e3, e4⟩ := (renStore_get hσs).1 _ e1
    obtain ⟨m1, rfl, e5⟩ := renOb_ice e4
    exact ⟨m1, e3, e5⟩
  have hice3 : ∀ (q : Nat) (m : Mem), σ2[q]? = some (.mem m) → ∃ m1 : Mem, σ3[q]? = some (.mem m1) ∧ m1.ice = m.ice := by
    intro q m hm
    obtain ⟨ob1, e3, e4⟩ := (renStore_get hσ3).1 _ hm
    obtain ⟨m1, rfl, e5⟩ := renOb_ice e4
    exact ⟨m1, e3, e5⟩
  refine ⟨Γ1, ρ3, (hv.ren hpv).mono leB, ⟨h2.fix, fun id l hl => ?_, fun id l m hl hid hm hi o => ?_, fun i j li lj hi hj hb => ?_, fun g cells hg => ?_, h.rock.move h.glob hp.le.fix (fun b hb hn => ?_) (fun b id l hb hn hl => ?_)⟩, ?_⟩
  · rcases h3 id l hl with ⟨e1, e2, e3⟩ | ⟨q, e1, e2⟩
    · obtain ⟨m, e4, e5⟩ := h.mem id l e3
      exact ⟨_, (setAll_out L σ3 σ id e1 e2).trans e4, e5.move leR (hframe id l e3 e2)⟩
    · obtain ⟨m0, m1, _, e3, _, e4⟩ := hmem q l e1
      exact ⟨_, (hget q id e2).trans e3, e4⟩
  · rcases h3 id l hl with ⟨e1, e2, e3⟩ | ⟨q, e1, e2⟩
    · rw [setAll_out L σ3 σ id e1 e2] at hm
      have h0 := h.apart id l m e3 hid hm hi o
      cases hg : Γ1 l.block o with
      | none => rfl
      | some x =>
        rcases hp.fresh l.block o h0 (by simp [hg]) with e4 | ⟨q, l', m', e4, e5, _⟩
        · have := h.block_lt e3; omega
        · exact absurd e5 (hout id l q l' e3 e2 e4)
    · obtain ⟨m0, m1, e3, e4, e5, _⟩ := hmem q l e1
      rw [hget q id e2, e4] at hm
      cases hm
      obtain ⟨n0, rfl, e6⟩ := e5 m rfl
      exact h2.apart q l n0 e1 (Nat.zero_le q) e3 (by rw [← e6]; exact hi) o
  · rcases h3 i li hi with ⟨e1, e2, e3⟩ | ⟨q, e1, e2⟩
    · rcases h3 j lj hj with ⟨d1, d2, d3⟩ | ⟨q', d1, d2⟩
      · exact h.inj i j li lj e3 d3 hb
      · exact absurd hb.symm (hblk q' lj i li d1 e3 e2)
    · rcases h3 j lj hj with ⟨d1, d2, d3⟩ | ⟨q', d1, d2⟩
      · exact absurd hb (hblk q li j lj e1 d3 d2)
      · have := h2.inj q q' li lj e1 d1 hb
        subst this
        rcases e2 with ⟨e4, e5⟩ | ⟨e4, e5⟩ <;> rcases d2 with ⟨d4, d5⟩ | ⟨d4, d5⟩
        · rw [e5] at d5; exact Option.some.inj d5
        · omega
        · omega
        · omega
  · obtain ⟨vs, hvs⟩ := h2.glob g cells hg
    exact ⟨vs, fun j x hx => ⟨(hvs j x hx).1, (hvs j x hx).2.1, (hvs j x hx).2.2.old (n := 0) (fun id hid => absurd hid (Nat.not_lt_zero id)) (oldL_get (hE.glob g cells hg) hx)⟩⟩
  · exact hp.frame b hb fun q l hq e => by
      obtain ⟨id, _, e2⟩ := hs q l hq
      exact absurd e (hn id l e2)
  · rcases h3 id l hl with ⟨e1, e2, e3⟩ | ⟨q, e1, e2⟩
    · exact hn id l e3
    · rcases hp.blocks q l e1 with ⟨l0, e3, e4⟩ | e3
      · obtain ⟨id', _, e5⟩ := hs q l0 e3
        rw [← e4]
        exact hn id' l0 e5
      · omega
  · refine ⟨leR, fun id l hl => ?_, fun id hid => ?_, fun id hid => ?_, fun b o e1 e2 => ?_, fun b hb hn => ?_, hp.size, hp.os, hp.tape, hp.output, ?_, fun id m hm hi => ?_⟩
    · rcases h3 id l hl with ⟨e1, e2, e3⟩ | ⟨q, e1, e2⟩
      · exact .inl ⟨l, e3, rfl⟩
      · rcases hp.blocks q l e1 with ⟨l0, e3, e4⟩ | e3
        · obtain ⟨id', e5, e6⟩ := hs q l0 e3
          have : id' = id := by
            have := (List.getElem?_eq_some_iff.1 e5).1
            rcases e2 with ⟨_, d2⟩ | ⟨d1, _⟩
            · rw [e5] at d2; exact Option.some.inj d2
            · omega
          subst this
          exact .inl ⟨l0, e6, e4⟩
        · exact .inr e3
    · exact h3o id (by omega) fun hm => by have := hge id hm; omega
    · rw [setAll_out L σ3 σ id (by omega) fun hm => by have := hge id hm; omega]
      exact .refl _
    · rcases hp.fresh b o e1 e2 with e3 | ⟨q, l, m, e3, e4, e5, e6⟩
      · exact .inl e3
      · obtain ⟨id, d1, d2⟩ := hs q l e3
        obtain ⟨m1, d3, d4⟩ := hice3 q m e5
        exact .inr ⟨id, l, m1, d2, e4, (hget q id (.inl ⟨(List.getElem?_eq_some_iff.1 d1).1, d1⟩)).trans d3, d4.trans e6⟩
    · exact hp.frame b hb fun q l hq e => by
        obtain ⟨id, d1, d2⟩ := hs q l hq
        have := hn id l d2 e
        have := hge id (List.mem_of_getElem? d1)
        omega
    · rw [setAll_len L σ3 σ hk3]
      exact Nat.le_add_right _ _
    · by_cases hm' : id ∈ L
      · obtain ⟨q, hq⟩ := List.getElem?_of_mem hm'
        obtain ⟨ms, e1, e2⟩ := hiceS q id m hq hm
        obtain ⟨m2, e3, e4⟩ := hp.ice q ms e1 (e2.trans hi)
        obtain ⟨m3, e5, e6⟩ := hice3 q m2 e3
        exact ⟨m3, (hget q id (.inl ⟨(List.getElem?_eq_some_iff.1 hq).1, hq⟩)).trans e5, e6.trans e4⟩
      · exact ⟨m, (setAll_out L σ3 σ id (List.getElem?_eq_some_iff.1 hm).1 hm').trans hm, hi⟩

theorem foot_ok (hE : E.Ok) {rec : Rec} (hrec : SoundRec E rec) (h : Rel E fl Γ ρ σ w) (hfl : fl ≤ σ.length) {f : FuncId} {args : List PV} {vs : List Value} {p : PV} {σ' : Store}
    (hc : footA rec fl σ f args = some (p, σ')) (hr : Reps Γ ρ args vs) :
    Calls E.P f vs.toArray w fun e w' => ∃ r, e = .returned r ∧ Moves E fl Γ ρ σ w p σ' r w' := by
  unfold footA at hc
  revert hc
  generalize reach σ args = L
  intro hc
  split at hc
  · rename_i hg
    rw [Bool.and_eq_true] at hg
    have hnd := nodupN_ok L hg.1
    have hge : ∀ x ∈ L, fl ≤ x := fun x hx => Nat.le_of_ble_eq_true (List.all_eq_true.1 hg.2 x hx)
    split at hc
    · rename_i os hos
      split at hc
      · rename_i as σs has hσs
        split at hc
        · rename_i v2 σ2 hfr
          split at hc
          · rename_i p' σ3 hp' hσ3
            cases hc
            unfold footR at hfr
            split at hfr
            · rename_i v σ1 hv1
              split at hfr
              · rename_i hlen
                have hR : Rel E 0 Γ (renR 0 L ρ) σs w := h.rename hE (n := 0) (fl' := 0) hnd (fun _ _ => Nat.zero_le _) (Nat.zero_le _) hos (by simpa using hσs) (fun id _ hid => absurd hid (Nat.not_lt_zero id)) hge
                refine (hrec f as σs 0 v σ1 hv1 (Nat.zero_le _) Γ _ w vs hR (renL_reps hr has)).mono fun e w' he => ?_
                obtain ⟨r, rfl, Γ1, ρ1, m1, m2, m3⟩ := he
                refine ⟨r, rfl, ?_⟩
                unfold footT at hfr
                have hM := onceN_ok (idsV σs.length v ++ idsStore σs.length σs.length σ1) [] List.nodup_nil
                revert hfr hM
                generalize onceN [] (idsV σs.length v ++ idsStore σs.length σs.length σ1) = M
                intro hfr hM
                have hMge : ∀ j ∈ M, σs.length ≤ j := fun j hj => by
                  rcases hM.2 j hj with h1 | h1
                  · simp at h1
                  · rw [List.mem_append] at h1
                    exact h1.elim (idsV_ge v j) (idsStore_ge _ _ j)
                split at hfr
                · rename_i os1 hos1
                  split at hfr
                  · rename_i v3 σ4 hv3 hσ4
                    cases hfr
                    exact back_ok hE h hfl hnd hge hos hσs (m1.ren hv3) (m2.rename hE hM.1 hMge hlen hos1 hσ4 (fun id _ _ => Nat.zero_le _) (fun _ _ => Nat.zero_le _)) (m3.rename hR m2 hMge hσ4) hp' hσ3
                  · cases hfr
                · cases hfr
              · cases hfr
            · cases hfr
          · cases hc
        · cases hc
      · cases hc
    · cases hc
  · cases hc

end
end Go.Proofs.YtfpjlkkeelgffaaDoor.Am
