/- Objects by new numbers: what is known of them stays. -/
import Derived.Test.YtfpjlkkeelgffaaDoorOld
import Derived.Test.YtfpjlkkeelgffaaDoorAm2
set_option linter.unusedVariables false
set_option linter.unusedSimpArgs false
namespace Go.Proofs.YtfpjlkkeelgffaaDoor.Am
section
variable {E : Env} {fl : Nat} {Γ : Sealed} {ρ : Ren} {σ : Store} {w : World}

theorem memN_iff (x : Nat) : ∀ l : List Nat, memN x l = true ↔ x ∈ l
  | [] => by simp [memN]
  | y :: ys => by
    simp only [memN, Bool.or_eq_true, memN_iff x ys, List.mem_cons]
    constructor
    · rintro (h | h)
      · exact .inl (Nat.eq_of_beq_eq_true h)
      · exact .inr h
    · rintro (h | h)
      · exact .inl (by rw [h]; exact Nat.beq_refl y)
      · exact .inr h

theorem onceN_ok : ∀ (l acc : List Nat), acc.Nodup → (onceN acc l).Nodup ∧ ∀ x, x ∈ onceN acc l → x ∈ acc ∨ x ∈ l
  | [], acc, h => ⟨h, fun x hx => .inl hx⟩
  | y :: ys, acc, h => by
    unfold onceN
    split
    · obtain ⟨h1, h2⟩ := onceN_ok ys acc h
      exact ⟨h1, fun x hx => (h2 x hx).imp id fun h => List.mem_cons_of_mem _ h⟩
    · rename_i hm
      have hm : ¬ y ∈ acc := fun e => hm ((memN_iff y acc).2 e)
      obtain ⟨h1, h2⟩ := onceN_ok ys (acc ++ [y]) (by
        rw [List.nodup_append]
        exact ⟨h, by simp, fun a ha b hb => by simp at hb; subst hb; exact fun e => hm (e ▸ ha)⟩)
      refine ⟨h1, fun x hx => ?_⟩
      rcases h2 x hx with h3 | h3
      · rw [List.mem_append, List.mem_singleton] at h3
        exact h3.imp id fun e => by rw [e]; exact List.mem_cons_self
      · exact .inr (List.mem_cons_of_mem _ h3)

mutual
theorem idsV_ge {n : Nat} : ∀ (x : PV) (j : Nat), j ∈ idsV n x → n ≤ j
  | .ptr id _ _, j, h => by
    simp only [idsV] at h
    split at h
    · rename_i hb; simp at h; subst h; exact Nat.le_of_ble_eq_true hb
    · simp at h
  | .osl id _ _ _ _ _, j, h => by
    simp only [idsV] at h
    split at h
    · rename_i hb; simp at h; subst h; exact Nat.le_of_ble_eq_true hb
    · simp at h
  | .mp id, j, h => by
    simp only [idsV] at h
    split at h
    · rename_i hb; simp at h; subst h; exact Nat.le_of_ble_eq_true hb
    · simp at h
  | .agg cs, j, h => idsL_ge cs j (by simpa [idsV] using h)
  | .tup cs, j, h => idsL_ge cs j (by simpa [idsV] using h)
  | .fn _ a b, j, h => by
    simp only [idsV, List.mem_append] at h
    exact h.elim (idsL_ge a j) (idsL_ge b j)
  | .iface _ v, j, h => idsV_ge v j (by simpa [idsV] using h)
  | .eptr _ _, j, h => by simp [idsV] at h
  | .sl _ _ _ _, j, h => by simp [idsV] at h
  | .bool _, j, h => by simp [idsV] at h
  | .int _ _, j, h => by simp [idsV] at h
  | .str _, j, h => by simp [idsV] at h
  | .nilp, j, h => by simp [idsV] at h
  | .glob _ _, j, h => by simp [idsV] at h
  | .gptr _, j, h => by simp [idsV] at h
  | .nils, j, h => by simp [idsV] at h
  | .sln _, j, h => by simp [idsV] at h
  | .nilfn, j, h => by simp [idsV] at h
  | .nilif, j, h => by simp [idsV] at h
  | .nilm, j, h => by simp [idsV] at h
  | .yld, j, h => by simp [idsV] at h
theorem idsL_ge {n : Nat} : ∀ (xs : List PV) (j : Nat), j ∈ idsL n xs → n ≤ j
  | [], j, h => by simp [idsL] at h
  | x :: xs, j, h => by
    simp only [idsL, List.mem_append] at h
    exact h.elim (idsV_ge x j) (idsL_ge xs j)
end

theorem idsSlots_ge {n : Nat} : ∀ (s : Slots) (j : Nat), j ∈ idsSlots n s → n ≤ j
  | [], j, h => by simp [idsSlots] at h
  | none :: s, j, h => idsSlots_ge s j (by simpa [idsSlots] using h)
  | some v :: s, j, h => by
    simp only [idsSlots, List.mem_append] at h
    exact h.elim (idsV_ge v j) (idsSlots_ge s j)

theorem idsStore_ge {n : Nat} : ∀ (k : Nat) (σ : Store) (j : Nat), j ∈ idsStore n k σ → n ≤ j
  | 0, σ, j, h => by simp [idsStore] at h
  | k + 1, [], j, h => by simp [idsStore] at h
  | k + 1, .mem m :: σ, j, h => by
    simp only [idsStore, List.mem_append] at h
    rcases h with h | h
    · split at h
      · exact idsL_ge _ j h
      · simp at h
    · exact idsStore_ge k σ j h
  | k + 1, .map _ :: σ, j, h => idsStore_ge k σ j (by simpa [idsStore] using h)

theorem liveN_ok (pat : List Bool) (n : Nat) (s : Slots) (σ : Store) : (liveN pat n s σ).Nodup ∧ ∀ j ∈ liveN pat n s σ, n ≤ j := by
  obtain ⟨h1, h2⟩ := onceN_ok (idsSlots n (keepS pat s) ++ idsStore n n σ) [] List.nodup_nil
  refine ⟨h1, fun j hj => ?_⟩
  rcases h2 j hj with h | h
  · simp at h
  · rw [List.mem_append] at h
    exact h.elim (idsSlots_ge _ j) (idsStore_ge _ _ j)

theorem placeN_ok : ∀ (L : List Nat) (x i j : Nat), placeN x L i = some j → ∃ q, j = i + q ∧ L[q]? = some x
  | [], x, i, j, h => by cases h
  | y :: ys, x, i, j, h => by
    simp only [placeN] at h
    split at h
    · rename_i hb
      cases h
      exact ⟨0, rfl, by rw [Nat.eq_of_beq_eq_true hb]; rfl⟩
    · obtain ⟨q, h1, h2⟩ := placeN_ok ys x (i + 1) j h
      exact ⟨q + 1, by omega, by simpa using h2⟩

/-- The objects' places by the new numbers. -/
def renR (n : Nat) (L : List Nat) (ρ : Ren) : Ren := fun id => if id < n then ρ id else (L[id - n]?).bind ρ

theorem newId_ok {n : Nat} {L : List Nat} {id j : Nat} (h : newId n L id = some j) : renR n L ρ j = ρ id := by
  unfold newId at h
  unfold renR
  split at h
  · rename_i hb
    cases h
    rw [if_pos (show id < n from Nat.le_of_ble_eq_true hb)]
  · obtain ⟨q, rfl, h2⟩ := placeN_ok L id n j h
    rw [if_neg (by omega), Nat.add_sub_cancel_left, h2]
    rfl

theorem renR_old {n : Nat} {L : List Nat} : ∀ id, id < n → renR n L ρ id = ρ id := fun id h => if_pos h

theorem renL_get {n : Nat} {L : List Nat} : ∀ {xs ys : List PV} {j : Nat} {y : PV}, renL n L xs = some ys → ys[j]? = some y → ∃ x, xs[j]? = some x ∧ renV n L x = some y
  | [], ys, j, y, h, hy => by cases h; simp at hy
  | x :: xs, ys, j, y, h, hy => by
    simp only [renL] at h
    split at h
    · rename_i x' xs' h1 h2
      cases h
      cases j with
      | zero => simp at hy; subst hy; exact ⟨x, rfl, h1⟩
      | succ j => simpa using renL_get h2 (by simpa using hy)
    · cases h

theorem renL_len {n : Nat} {L : List Nat} : ∀ {xs ys : List PV}, renL n L xs = some ys → ys.length = xs.length
  | [], ys, h => by cases h; rfl
  | x :: xs, ys, h => by
    simp only [renL] at h
    split at h
    · rename_i x' xs' h1 h2
      cases h
      simp [renL_len h2]
    · cases h

theorem Rep.ren {n : Nat} {L : List Nat} {x : PV} {v : Value} (h : Rep Γ ρ x v) : ∀ {y : PV}, renV n L x = some y → Rep Γ (renR n L ρ) y v := by
  induction h with
  | bool b => intro y h; cases h; exact .bool b
  | int k m => intro y h; cases h; exact .int k m
  | str l => intro y h; cases h; exact .str l
  | nilp => intro y h; cases h; exact .nilp
  | ptr l h hl =>
    intro y hy
    simp only [renV, Option.map_eq_some_iff] at hy
    obtain ⟨j, hj, rfl⟩ := hy
    exact .ptr l ((newId_ok hj).trans h) hl
  | ptrOld l h hl a =>
    intro y hy
    simp only [renV, Option.map_eq_some_iff] at hy
    obtain ⟨j, hj, rfl⟩ := hy
    exact .ptrOld l ((newId_ok hj).trans h) hl a
  | eptr b o vs h hr ih =>
    intro y hy
    simp only [renV] at hy
    split at hy
    · rename_i ho
      cases hy
      exact .eptr b o vs h fun j x hx => (hr j x hx).old (n := n) (fun id hid => (renR_old id hid).symm) (oldL_get ho hx)
    · cases hy
  | glob g off => intro y h; cases h; exact .glob g off
  | gptr t a h => intro y h2; cases h2; exact .gptr t a h
  | nils => intro y h; cases h; exact .nils
  | sl a cap vs hn hc hx h hr ih =>
    intro y hy
    simp only [renV] at hy
    split at hy
    · rename_i ho
      cases hy
      exact .sl a cap vs hn hc hx h fun j x hx => (hr j x hx).old (n := n) (fun id hid => (renR_old id hid).symm) (oldL_get ho hx)
    · cases hy
  | sln a cap => intro y h; cases h; exact .sln a cap
  | slNil hx =>
    intro y hy
    simp only [renV] at hy
    split at hy
    · cases hy; exact .slNil hx
    · cases hy
  | osl l cap h hl hc hx ho =>
    intro y hy
    simp only [renV, Option.map_eq_some_iff] at hy
    obtain ⟨j, hj, rfl⟩ := hy
    exact .osl l cap ((newId_ok hj).trans h) hl hc hx ho
  | oslOld l h hl a cap hc hx =>
    intro y hy
    simp only [renV, Option.map_eq_some_iff] at hy
    obtain ⟨j, hj, rfl⟩ := hy
    exact .oslOld l ((newId_ok hj).trans h) hl a cap hc hx
  | agg hn h ih =>
    intro y hy
    simp only [renV, Option.map_eq_some_iff] at hy
    obtain ⟨ys, hys, rfl⟩ := hy
    refine .agg (by rw [renL_len hys]; exact hn) fun j y v hy hv => ?_
    obtain ⟨x, hx, e⟩ := renL_get hys hy
    exact ih j x v hx hv e
  | fn f hn hm h h' ih ih' =>
    intro y hy
    simp only [renV] at hy
    split at hy
    · rename_i a b ha hb
      cases hy
      refine .fn f (by rw [renL_len ha]; exact hn) (by rw [renL_len hb]; exact hm) (fun j y v hy hv => ?_) (fun j y v hy hv => ?_)
      · obtain ⟨x, hx, e⟩ := renL_get ha hy
        exact ih j x v hx hv e
      · obtain ⟨x, hx, e⟩ := renL_get hb hy
        exact ih' j x v hx hv e
    · cases hy
  | nilfn => intro y h; cases h; exact .nilfn
  | iface t h ih =>
    intro y hy
    simp only [renV, Option.map_eq_some_iff] at hy
    obtain ⟨y', hy', rfl⟩ := hy
    exact .iface t (ih hy')
  | nilif => intro y h; cases h; exact .nilif
  | tup hn h ih =>
    intro y hy
    simp only [renV, Option.map_eq_some_iff] at hy
    obtain ⟨ys, hys, rfl⟩ := hy
    refine .tup (by rw [renL_len hys]; exact hn) fun j y v hy hv => ?_
    obtain ⟨x, hx, e⟩ := renL_get hys hy
    exact ih j x v hx hv e
  | nilm => intro y h; cases h; exact .nilm
  | yld l => intro y h; cases h; exact .yld l
  | mp l h hz =>
    intro y hy
    simp only [renV, Option.map_eq_some_iff] at hy
    obtain ⟨j, hj, rfl⟩ := hy
    exact .mp l ((newId_ok hj).trans h) hz

mutual
theorem renV_old {n : Nat} {L : List Nat} : ∀ (x : PV), oldV n x = true → renV n L x = some x
  | .ptr id _ _, h => by
    have h : id < n := by simpa [oldV] using h
    simp [renV, newId, show Nat.blt id n = true from Nat.ble_eq_true_of_le h]
  | .osl id _ _ _ _ _, h => by
    have h : id < n := by simpa [oldV] using h
    simp [renV, newId, show Nat.blt id n = true from Nat.ble_eq_true_of_le h]
  | .mp id, h => by
    have h : id < n := by simpa [oldV] using h
    simp [renV, newId, show Nat.blt id n = true from Nat.ble_eq_true_of_le h]
  | .eptr cells _, h => by simp only [oldV] at h; simp [renV, h]
  | .sl cells _ _ _, h => by simp only [oldV] at h; simp [renV, h]
  | .agg cells, h => by simp only [oldV] at h; simp [renV, renL_old cells h]
  | .tup cells, h => by simp only [oldV] at h; simp [renV, renL_old cells h]
  | .fn _ a b, h => by simp only [oldV, Bool.and_eq_true] at h; simp [renV, renL_old a h.1, renL_old b h.2]
  | .iface _ v, h => by simp only [oldV] at h; simp [renV, renV_old v h]
  | .bool _, _ => rfl
  | .int _ _, _ => rfl
  | .str _, _ => rfl
  | .nilp, _ => rfl
  | .glob _ _, _ => rfl
  | .gptr _, _ => rfl
  | .nils, _ => rfl
  | .sln _, _ => rfl
  | .nilfn, _ => rfl
  | .nilif, _ => rfl
  | .nilm, _ => rfl
  | .yld, _ => rfl
theorem renL_old {n : Nat} {L : List Nat} : ∀ (xs : List PV), oldL n xs = true → renL n L xs = some xs
  | [], _ => rfl
  | x :: xs, h => by
    simp only [oldL, Bool.and_eq_true] at h
    simp [renL, renV_old x h.1, renL_old xs h.2]
end

theorem renSlots_get {n : Nat} {L : List Nat} : ∀ {s s1 : Slots} {t : Nat} {y : PV}, renSlots n L s = some s1 → s1[t]? = some (some y) → ∃ x, s[t]? = some (some x) ∧ renV n L x = some y
  | [], s1, t, y, h, hy => by cases h; simp at hy
  | none :: s, s1, t, y, h, hy => by
    simp only [renSlots, Option.map_eq_some_iff] at h
    obtain ⟨s2, h2, rfl⟩ := h
    cases t with
    | zero => simp at hy
    | succ t => simpa using renSlots_get h2 (by simpa using hy)
  | some v :: s, s1, t, y, h, hy => by
    simp only [renSlots] at h
    split at h
    · rename_i v' s2 h1 h2
      cases h
      cases t with
      | zero => simp at hy; subst hy; exact ⟨v, rfl, h1⟩
      | succ t => simpa using renSlots_get h2 (by simpa using hy)
    · cases h

theorem renSlots_len {n : Nat} {L : List Nat} : ∀ {s s1 : Slots}, renSlots n L s = some s1 → s1.length = s.length
  | [], s1, h => by cases h; rfl
  | none :: s, s1, h => by
    simp only [renSlots, Option.map_eq_some_iff] at h
    obtain ⟨s2, h2, rfl⟩ := h
    simp [renSlots_len h2]
  | some v :: s, s1, h => by
    simp only [renSlots] at h
    split at h
    · rename_i v' s2 h1 h2
      cases h
      simp [renSlots_len h2]
    · cases h

theorem renStore_get {n : Nat} {L : List Nat} : ∀ {os σ1 : Store} {id : Nat}, renStore n L os = some σ1 → (∀ ob, os[id]? = some ob → ∃ ob1, σ1[id]? = some ob1 ∧ renOb n L ob = some ob1) ∧ σ1.length = os.length
  | [], σ1, id, h => by cases h; exact ⟨fun ob ho => by simp at ho, rfl⟩
  | o :: os, σ1, id, h => by
    simp only [renStore] at h
    split at h
    · rename_i o1 os1 h1 h2
      cases h
      refine ⟨fun ob ho => ?_, by simp [(renStore_get (id := 0) h2).2]⟩
      cases id with
      | zero => simp at ho; subst ho; exact ⟨o1, rfl, h1⟩
      | succ id => simpa using (renStore_get (id := id) h2).1 ob (by simpa using ho)
    · cases h

theorem pickObs_get {σ : Store} : ∀ {L : List Nat} {os : List Ob} {q : Nat}, pickObs σ L = some os → os.length = L.length ∧ ∀ id, L[q]? = some id → ∃ ob, os[q]? = some ob ∧ σ[id]? = some ob
  | [], os, q, h => by cases h; exact ⟨rfl, fun id hi => by simp at hi⟩
  | x :: L, os, q, h => by
    simp only [pickObs] at h
    split at h
    · rename_i o os1 h1 h2
      cases h
      refine ⟨by simp [(pickObs_get (q := 0) h2).1], fun id hi => ?_⟩
      cases q with
      | zero => simp at hi; subst hi; exact ⟨o, rfl, h1⟩
      | succ q => simpa using (pickObs_get (q := q) h2).2 id (by simpa using hi)
    · cases h

theorem renOb_ok {n : Nat} {L : List Nat} {m : Mem} {ob1 : Ob} {l : Loc} (h : MemOk Γ ρ w l m) (hr : renOb n L (.mem m) = some ob1) :
    ∃ m1 : Mem, ob1 = .mem m1 ∧ m1.ice = m.ice ∧ m1.size = m.size ∧ m1.len = m.len ∧ m1.exact = m.exact ∧ (oldL n m.cells = true → m1.cells = m.cells) ∧ MemOk Γ (renR n L ρ) w l m1 := by
  obtain ⟨k1, k2, k3, k4, k5, k6, C, T, k7, k8, k9⟩ := h
  simp only [renOb] at hr
  split at hr
  · simp only [Option.map_eq_some_iff] at hr
    obtain ⟨cs, hcs, rfl⟩ := hr
    have hl := renL_len hcs
    have hrr : Reps Γ (renR n L ρ) cs (C.toList.take m.cells.length) := ⟨by rw [hl]; exact k9.1, fun j y v hy hv => by
      obtain ⟨x, hx, e⟩ := renL_get hcs hy
      exact (k9.2 j x v hx hv).ren e⟩
    refine ⟨_, rfl, rfl, rfl, rfl, rfl, fun ho => ?_, k1, k2, by simpa [hl] using k3, k4, k5, ?_, C, T, k7, k8, by simpa [hl] using hrr⟩
    · rw [renL_old _ ho] at hcs
      cases hcs
      rfl
    · rw [List.all_eq_true]
      intro y hy
      obtain ⟨j, hj⟩ := List.getElem?_of_mem hy
      obtain ⟨x, hx, e⟩ := renL_get hcs hj
      have hlt : j < (C.toList.take m.cells.length).length := by
        have := (List.getElem?_eq_some_iff.1 hx).1
        rw [k9.1]; exact this
      have h1 := (k9.2 j x _ hx (List.getElem?_eq_getElem hlt)).oneCell
      have h2 := (hrr.2 j y _ hj (List.getElem?_eq_getElem hlt)).oneCell
      rw [← h2, h1]
      exact List.all_eq_true.1 k6 x (List.mem_of_getElem? hx)
  · split at hr
    · rename_i ho
      cases hr
      exact ⟨m, rfl, rfl, rfl, rfl, rfl, fun _ => rfl, k1, k2, k3, k4, k5, k6, C, T, k7, k8, k9.old (n := 0) (fun id hid => absurd hid (Nat.not_lt_zero id)) ho⟩
    · cases hr


theorem renOb_any {n : Nat} {L : List Nat} {ob ob1 : Ob} {l : Loc} (h : ObOk Γ ρ w l ob) (hr : renOb n L ob = some ob1) :
    ObOk Γ (renR n L ρ) w l ob1 ∧ (∀ m1 : Mem, ob1 = .mem m1 → ∃ m : Mem, ob = .mem m ∧ m1.ice = m.ice) := by
  cases ob with
  | mem m =>
    obtain ⟨m1, rfl, e1, _, _, _, _, e2⟩ := renOb_ok h hr
    exact ⟨e2, fun m2 e => by cases e; exact ⟨m, rfl, e1⟩⟩
  | map m =>
    simp only [renOb] at hr
    split at hr
    · rename_i hc
      cases hr
      simp only [Bool.and_eq_true, Option.isNone_iff_eq_none] at hc
      refine ⟨h.old (n := 0) (fun id hid => absurd hid (Nat.not_lt_zero id)) (by simp only [obOld, hc.1]; exact hc.2), fun m1 e => by cases e⟩
    · cases hr

/-- What is known, but for the objects of a list, by new numbers from n on. -/
theorem Rel.rename (hE : E.Ok) {n fl' : Nat} {L : List Nat} {os : List Ob} {σ1 : Store} (h : Rel E fl Γ ρ σ w) (hnd : L.Nodup) (hge : ∀ j ∈ L, n ≤ j) (hn : n ≤ σ.length) (hos : pickObs σ L = some os)
    (hσ1 : renStore n L (σ.take n ++ os) = some σ1) (hf : ∀ id, fl' ≤ id → id < n → fl ≤ id) (hfL : ∀ j ∈ L, fl ≤ j) :
    Rel E fl' Γ (renR n L ρ) σ1 w := by
  have hlow : ∀ id, id < n → (σ.take n ++ os)[id]? = σ[id]? := fun id hid => by
    rw [List.getElem?_append_left (by simp only [List.length_take]; omega), List.getElem?_take, if_pos hid]
  have hhigh : ∀ q, (σ.take n ++ os)[n + q]? = os[q]? := fun q => by
    have : (σ.take n).length = n := by simp only [List.length_take]; omega
    rw [List.getElem?_append_right (by omega), this, Nat.add_sub_cancel_left]
  have hfind : ∀ id l, renR n L ρ id = some l → ∃ id' ob ob1, ρ id' = some l ∧ σ[id']? = some ob ∧ ObOk Γ ρ w l ob ∧ σ1[id]? = some ob1 ∧ renOb n L ob = some ob1 ∧ (id < n → id' = id) ∧ (n ≤ id → L[id - n]? = some id') := by
    intro id l hl
    unfold renR at hl
    split at hl
    · rename_i hid
      obtain ⟨ob, hm, hok⟩ := h.mem id l hl
      obtain ⟨ob1, h1, h2⟩ := (renStore_get hσ1).1 _ ((hlow id hid).trans hm)
      exact ⟨id, ob, ob1, hl, hm, hok, h1, h2, fun _ => rfl, fun e => absurd hid (by omega)⟩
    · rename_i hid
      cases hq : L[id - n]? with
      | none => simp [hq] at hl
      | some id' =>
        rw [hq] at hl
        obtain ⟨ob0, hm, hok⟩ := h.mem id' l hl
        obtain ⟨ob, ho1, ho2⟩ := (pickObs_get hos).2 id' hq
        rw [hm] at ho2
        cases ho2
        have e : n + (id - n) = id := by omega
        obtain ⟨ob1, h1, h2⟩ := (renStore_get hσ1).1 _ ((hhigh (id - n)).trans ho1)
        rw [e] at h1
        exact ⟨id', ob0, ob1, hl, hm, hok, h1, h2, fun e => absurd e (by omega), fun _ => rfl⟩
  refine ⟨h.fix, fun id l hl => ?_, fun id l m hl hid hm hi o => ?_, fun i j li lj hi hj hb => ?_, fun g cells hg => ?_, h.rock.move h.glob (fun _ _ _ h => h) (fun _ _ _ => rfl) (fun b id l _ hn hl => by
    obtain ⟨id', m0, m1, e1, _⟩ := hfind id l hl
    exact hn id' l e1)⟩
  · obtain ⟨id', ob, ob1, e1, e2, e3, e4, e5, _⟩ := hfind id l hl
    exact ⟨_, e4, (renOb_any e3 e5).1⟩
  · obtain ⟨id', ob, ob1, e1, e2, e3, e4, e5, e6, e7⟩ := hfind id l hl
    rw [e4] at hm
    cases hm
    obtain ⟨m0, rfl, e9⟩ := (renOb_any e3 e5).2 m rfl
    refine h.apart id' l m0 e1 ?_ e2 (by rw [← e9]; exact hi) o
    by_cases hid' : id < n
    · rw [e6 hid']; exact hf id hid hid'
    · exact hfL id' (List.mem_of_getElem? (e7 (by omega)))
  · obtain ⟨i', _, _, a1, _, _, _, _, a6, a7⟩ := hfind i li hi
    obtain ⟨j', _, _, b1, _, _, _, _, b6, b7⟩ := hfind j lj hj
    have hij := h.inj i' j' li lj a1 b1 hb
    subst hij
    by_cases h1 : i < n
    · have e1 := a6 h1
      by_cases h2 : j < n
      · have e2 := b6 h2; omega
      · have := hge i' (List.mem_of_getElem? (b7 (by omega)))
        omega
    · have e1 := a7 (by omega)
      by_cases h2 : j < n
      · have e2 := b6 h2
        have := hge i' (List.mem_of_getElem? e1)
        omega
      · have e2 := b7 (by omega)
        have k1 := (List.getElem?_eq_some_iff.1 e1).1
        have := (List.getElem?_inj k1 hnd).1 (e1.trans e2.symm)
        omega
  · obtain ⟨vs, hv⟩ := h.glob g cells hg
    exact ⟨vs, fun j x hx => ⟨(hv j x hx).1, (hv j x hx).2.1, (hv j x hx).2.2.old (n := 0) (fun id hid => absurd hid (Nat.not_lt_zero id)) (oldL_get (hE.glob g cells hg) hx)⟩⟩

end
end Go.Proofs.YtfpjlkkeelgffaaDoor.Am
