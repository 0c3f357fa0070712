/- Code, functions, the interpreter: the machine does what it does. -/
import Derived.Test.YtbnfofcbajaiiaaDoorRun2
set_option linter.unusedVariables false
set_option linter.unusedSimpArgs false
namespace Go.Proofs.YtbnfofcbajaiiaaDoor.Am
section
variable {E : Env} {fl : Nat} {Γ : Sealed} {ρ : Ren} {σ : Store} {w : World}

def exitOf : Out → Exit
  | .norm => .normal
  | .exit id => .exit id
  | .ret => .ret

open Classical in
/-- The least number of which something is so. -/
noncomputable def least (p : Nat → Prop) : Nat := if h : ∃ n, p n ∧ ∀ m, m < n → ¬ p m then h.choose else 0

theorem least_spec {p : Nat → Prop} {n : Nat} (h : p n) : p (least p) ∧ least p ≤ n := by
  have hex : ∃ n, p n ∧ ∀ m, m < n → ¬ p m := by
    induction n using Nat.strongRecOn with
    | _ n ih =>
      by_cases hm : ∃ m, m < n ∧ p m
      · obtain ⟨m, h1, h2⟩ := hm
        exact ih m h1 h2
      · exact ⟨n, h, fun m h1 h2 => hm ⟨m, h1, h2⟩⟩
  unfold least
  rw [dif_pos hex]
  have hs := hex.choose_spec
  refine ⟨hs.1, ?_⟩
  rcases Nat.lt_or_ge n hex.choose with hlt | hge
  · exact absurd h (hs.2 n hlt)
  · exact hge

theorem wp_loop_fuel {P : Program} {Q : Exit → Act → World → Prop} {c : Code} {a : Act} {w : World} (I : Nat → Act → World → Prop) {n : Nat} (h0 : I n a w)
    (round : ∀ n a w, I n a w → c.wp P (Exit.then (fun a' w' => ∃ m, m < n ∧ I m a' w') Q) a w) : (Code.loop c).wp P Q a w := by
  refine wp_loop (fun a w => ∃ n, I n a w) (fun a w => least fun n => I n a w) ⟨n, h0⟩ fun a w hI => ?_
  obtain ⟨k, hk⟩ := hI
  have hl := least_spec (p := fun n => I n a w) hk
  refine wp_mono (round _ a w hl.1) fun e a' w' hq => ?_
  cases e with
  | normal =>
    obtain ⟨m, hm, hIm⟩ := hq
    exact ⟨⟨m, hIm⟩, Nat.lt_of_le_of_lt (least_spec (p := fun n => I n a' w') hIm).2 hm⟩
  | _ => exact hq

theorem keepS_get : ∀ (bs : List Bool) (s : Slots) (t : Nat) (v : PV), (keepS bs s)[t]? = some (some v) → s[t]? = some (some v)
  | b :: bs, x :: s, 0, v, h => by
    simp only [keepS, List.getElem?_cons_zero, Option.some.injEq] at h ⊢
    cases b <;> simp_all
  | b :: bs, x :: s, t + 1, v, h => by
    simp only [keepS, List.getElem?_cons_succ] at h ⊢
    exact keepS_get bs s t v h
  | [], s, t, v, h => by cases s <;> exact h
  | b :: bs, [], t, v, h => by simp [keepS] at h

theorem keepS_len : ∀ (bs : List Bool) (s : Slots), (keepS bs s).length = s.length
  | b :: bs, x :: s => by simp [keepS, keepS_len bs s]
  | [], s => by cases s <;> rfl
  | b :: bs, [] => rfl

theorem memN_iff (x : Nat) : ∀ l : List Nat, memN x l = true ↔ x ∈ l
  | [] => by simp [memN]
  | y :: ys => by
    simp only [memN, Bool.or_eq_true, memN_iff x ys, List.mem_cons]
    constructor
    · rintro (h | h)
      · exact .inl (Nat.eq_of_beq_eq_true h)
      · exact .inr h
    · rintro (h | h)
      · exact .inl (by rw [h]; exact Nat.beq_refl y)
      · exact .inr h

theorem onceN_ok : ∀ (l acc : List Nat), acc.Nodup → (onceN acc l).Nodup ∧ ∀ x, x ∈ onceN acc l → x ∈ acc ∨ x ∈ l
  | [], acc, h => ⟨h, fun x hx => .inl hx⟩
  | y :: ys, acc, h => by
    unfold onceN
    split
    · obtain ⟨h1, h2⟩ := onceN_ok ys acc h
      exact ⟨h1, fun x hx => (h2 x hx).imp id fun h => List.mem_cons_of_mem _ h⟩
    · rename_i hm
      have hm : ¬ y ∈ acc := fun e => hm ((memN_iff y acc).2 e)
      obtain ⟨h1, h2⟩ := onceN_ok ys (acc ++ [y]) (by
        rw [List.nodup_append]
        exact ⟨h, by simp, fun a ha b hb => by simp at hb; subst hb; exact fun e => hm (e ▸ ha)⟩)
      refine ⟨h1, fun x hx => ?_⟩
      rcases h2 x hx with h3 | h3
      · rw [List.mem_append, List.mem_singleton] at h3
        exact h3.imp id fun e => by rw [e]; exact List.mem_cons_self
      · exact .inr (List.mem_cons_of_mem _ h3)

mutual
theorem idsV_ge {n : Nat} : ∀ (x : PV) (j : Nat), j ∈ idsV n x → n ≤ j
  | .ptr id _ _, j, h => by
    simp only [idsV] at h
    split at h
    · rename_i hb; simp at h; subst h; exact Nat.le_of_ble_eq_true hb
    · simp at h
  | .osl id _ _ _ _ _, j, h => by
    simp only [idsV] at h
    split at h
    · rename_i hb; simp at h; subst h; exact Nat.le_of_ble_eq_true hb
    · simp at h
  | .mp id, j, h => by
    simp only [idsV] at h
    split at h
    · rename_i hb; simp at h; subst h; exact Nat.le_of_ble_eq_true hb
    · simp at h
  | .agg cs, j, h => idsL_ge cs j (by simpa [idsV] using h)
  | .tup cs, j, h => idsL_ge cs j (by simpa [idsV] using h)
  | .fn _ a b, j, h => by
    simp only [idsV, List.mem_append] at h
    exact h.elim (idsL_ge a j) (idsL_ge b j)
  | .iface _ v, j, h => idsV_ge v j (by simpa [idsV] using h)
  | .eptr _ _, j, h => by simp [idsV] at h
  | .sl _ _ _ _, j, h => by simp [idsV] at h
  | .bool _, j, h => by simp [idsV] at h
  | .int _ _, j, h => by simp [idsV] at h
  | .str _, j, h => by simp [idsV] at h
  | .nilp, j, h => by simp [idsV] at h
  | .glob _ _, j, h => by simp [idsV] at h
  | .gptr _, j, h => by simp [idsV] at h
  | .nils, j, h => by simp [idsV] at h
  | .sln _, j, h => by simp [idsV] at h
  | .nilfn, j, h => by simp [idsV] at h
  | .nilif, j, h => by simp [idsV] at h
  | .nilm, j, h => by simp [idsV] at h
theorem idsL_ge {n : Nat} : ∀ (xs : List PV) (j : Nat), j ∈ idsL n xs → n ≤ j
  | [], j, h => by simp [idsL] at h
  | x :: xs, j, h => by
    simp only [idsL, List.mem_append] at h
    exact h.elim (idsV_ge x j) (idsL_ge xs j)
end

theorem idsSlots_ge {n : Nat} : ∀ (s : Slots) (j : Nat), j ∈ idsSlots n s → n ≤ j
  | [], j, h => by simp [idsSlots] at h
  | none :: s, j, h => idsSlots_ge s j (by simpa [idsSlots] using h)
  | some v :: s, j, h => by
    simp only [idsSlots, List.mem_append] at h
    exact h.elim (idsV_ge v j) (idsSlots_ge s j)

theorem idsStore_ge {n : Nat} : ∀ (k : Nat) (σ : Store) (j : Nat), j ∈ idsStore n k σ → n ≤ j
  | 0, σ, j, h => by simp [idsStore] at h
  | k + 1, [], j, h => by simp [idsStore] at h
  | k + 1, .mem m :: σ, j, h => by
    simp only [idsStore, List.mem_append] at h
    rcases h with h | h
    · split at h
      · exact idsL_ge _ j h
      · simp at h
    · exact idsStore_ge k σ j h
  | k + 1, .map _ :: σ, j, h => idsStore_ge k σ j (by simpa [idsStore] using h)

theorem liveN_ok (pat : List Bool) (n : Nat) (s : Slots) (σ : Store) : (liveN pat n s σ).Nodup ∧ ∀ j ∈ liveN pat n s σ, n ≤ j := by
  obtain ⟨h1, h2⟩ := onceN_ok (idsSlots n (keepS pat s) ++ idsStore n n σ) [] List.nodup_nil
  refine ⟨h1, fun j hj => ?_⟩
  rcases h2 j hj with h | h
  · simp at h
  · rw [List.mem_append] at h
    exact h.elim (idsSlots_ge _ j) (idsStore_ge _ _ j)

theorem placeN_ok : ∀ (L : List Nat) (x i j : Nat), placeN x L i = some j → ∃ q, j = i + q ∧ L[q]? = some x
  | [], x, i, j, h => by cases h
  | y :: ys, x, i, j, h => by
    simp only [placeN] at h
    split at h
    · rename_i hb
      cases h
      exact ⟨0, rfl, by rw [Nat.eq_of_beq_eq_true hb]; rfl⟩
    · obtain ⟨q, h1, h2⟩ := placeN_ok ys x (i + 1) j h
      exact ⟨q + 1, by omega, by simpa using h2⟩

/-- The objects' places by the new numbers. -/
def renR (n : Nat) (L : List Nat) (ρ : Ren) : Ren := fun id => if id < n then ρ id else (L[id - n]?).bind ρ

theorem newId_ok {n : Nat} {L : List Nat} {id j : Nat} (h : newId n L id = some j) : renR n L ρ j = ρ id := by
  unfold newId at h
  unfold renR
  split at h
  · rename_i hb
    cases h
    rw [if_pos (show id < n from Nat.le_of_ble_eq_true hb)]
  · obtain ⟨q, rfl, h2⟩ := placeN_ok L id n j h
    rw [if_neg (by omega), Nat.add_sub_cancel_left, h2]
    rfl

theorem renR_old {n : Nat} {L : List Nat} : ∀ id, id < n → renR n L ρ id = ρ id := fun id h => if_pos h

theorem renL_get {n : Nat} {L : List Nat} : ∀ {xs ys : List PV} {j : Nat} {y : PV}, renL n L xs = some ys → ys[j]? = some y → ∃ x, xs[j]? = some x ∧ renV n L x = some y
  | [], ys, j, y, h, hy => by cases h; simp at hy
  | x :: xs, ys, j, y, h, hy => by
    simp only [renL] at h
    split at h
    · rename_i x' xs' h1 h2
      cases h
      cases j with
      | zero => simp at hy; subst hy; exact ⟨x, rfl, h1⟩
      | succ j => simpa using renL_get h2 (by simpa using hy)
    · cases h

theorem renL_len {n : Nat} {L : List Nat} : ∀ {xs ys : List PV}, renL n L xs = some ys → ys.length = xs.length
  | [], ys, h => by cases h; rfl
  | x :: xs, ys, h => by
    simp only [renL] at h
    split at h
    · rename_i x' xs' h1 h2
      cases h
      simp [renL_len h2]
    · cases h

theorem Rep.ren {n : Nat} {L : List Nat} {x : PV} {v : Value} (h : Rep Γ ρ x v) : ∀ {y : PV}, renV n L x = some y → Rep Γ (renR n L ρ) y v := by
  induction h with
  | bool b => intro y h; cases h; exact .bool b
  | int k m => intro y h; cases h; exact .int k m
  | str l => intro y h; cases h; exact .str l
  | nilp => intro y h; cases h; exact .nilp
  | ptr l h hl =>
    intro y hy
    simp only [renV, Option.map_eq_some_iff] at hy
    obtain ⟨j, hj, rfl⟩ := hy
    exact .ptr l ((newId_ok hj).trans h) hl
  | ptrOld l h hl a =>
    intro y hy
    simp only [renV, Option.map_eq_some_iff] at hy
    obtain ⟨j, hj, rfl⟩ := hy
    exact .ptrOld l ((newId_ok hj).trans h) hl a
  | eptr b o vs h hr ih =>
    intro y hy
    simp only [renV] at hy
    split at hy
    · rename_i ho
      cases hy
      exact .eptr b o vs h fun j x hx => (hr j x hx).old (n := n) (fun id hid => (renR_old id hid).symm) (oldL_get ho hx)
    · cases hy
  | glob g off => intro y h; cases h; exact .glob g off
  | gptr t a h => intro y h2; cases h2; exact .gptr t a h
  | nils => intro y h; cases h; exact .nils
  | sl a cap vs hn hc hx h hr ih =>
    intro y hy
    simp only [renV] at hy
    split at hy
    · rename_i ho
      cases hy
      exact .sl a cap vs hn hc hx h fun j x hx => (hr j x hx).old (n := n) (fun id hid => (renR_old id hid).symm) (oldL_get ho hx)
    · cases hy
  | sln a cap => intro y h; cases h; exact .sln a cap
  | slNil hx =>
    intro y hy
    simp only [renV] at hy
    split at hy
    · cases hy; exact .slNil hx
    · cases hy
  | osl l cap h hl hc hx ho =>
    intro y hy
    simp only [renV, Option.map_eq_some_iff] at hy
    obtain ⟨j, hj, rfl⟩ := hy
    exact .osl l cap ((newId_ok hj).trans h) hl hc hx ho
  | oslOld l h hl a cap hc hx =>
    intro y hy
    simp only [renV, Option.map_eq_some_iff] at hy
    obtain ⟨j, hj, rfl⟩ := hy
    exact .oslOld l ((newId_ok hj).trans h) hl a cap hc hx
  | agg hn h ih =>
    intro y hy
    simp only [renV, Option.map_eq_some_iff] at hy
    obtain ⟨ys, hys, rfl⟩ := hy
    refine .agg (by rw [renL_len hys]; exact hn) fun j y v hy hv => ?_
    obtain ⟨x, hx, e⟩ := renL_get hys hy
    exact ih j x v hx hv e
  | fn f hn hm h h' ih ih' =>
    intro y hy
    simp only [renV] at hy
    split at hy
    · rename_i a b ha hb
      cases hy
      refine .fn f (by rw [renL_len ha]; exact hn) (by rw [renL_len hb]; exact hm) (fun j y v hy hv => ?_) (fun j y v hy hv => ?_)
      · obtain ⟨x, hx, e⟩ := renL_get ha hy
        exact ih j x v hx hv e
      · obtain ⟨x, hx, e⟩ := renL_get hb hy
        exact ih' j x v hx hv e
    · cases hy
  | nilfn => intro y h; cases h; exact .nilfn
  | iface t h ih =>
    intro y hy
    simp only [renV, Option.map_eq_some_iff] at hy
    obtain ⟨y', hy', rfl⟩ := hy
    exact .iface t (ih hy')
  | nilif => intro y h; cases h; exact .nilif
  | tup hn h ih =>
    intro y hy
    simp only [renV, Option.map_eq_some_iff] at hy
    obtain ⟨ys, hys, rfl⟩ := hy
    refine .tup (by rw [renL_len hys]; exact hn) fun j y v hy hv => ?_
    obtain ⟨x, hx, e⟩ := renL_get hys hy
    exact ih j x v hx hv e
  | nilm => intro y h; cases h; exact .nilm
  | mp l h hz =>
    intro y hy
    simp only [renV, Option.map_eq_some_iff] at hy
    obtain ⟨j, hj, rfl⟩ := hy
    exact .mp l ((newId_ok hj).trans h) hz

mutual
theorem renV_old {n : Nat} {L : List Nat} : ∀ (x : PV), oldV n x = true → renV n L x = some x
  | .ptr id _ _, h => by
    have h : id < n := by simpa [oldV] using h
    simp [renV, newId, show Nat.blt id n = true from Nat.ble_eq_true_of_le h]
  | .osl id _ _ _ _ _, h => by
    have h : id < n := by simpa [oldV] using h
    simp [renV, newId, show Nat.blt id n = true from Nat.ble_eq_true_of_le h]
  | .mp id, h => by
    have h : id < n := by simpa [oldV] using h
    simp [renV, newId, show Nat.blt id n = true from Nat.ble_eq_true_of_le h]
  | .eptr cells _, h => by simp only [oldV] at h; simp [renV, h]
  | .sl cells _ _ _, h => by simp only [oldV] at h; simp [renV, h]
  | .agg cells, h => by simp only [oldV] at h; simp [renV, renL_old cells h]
  | .tup cells, h => by simp only [oldV] at h; simp [renV, renL_old cells h]
  | .fn _ a b, h => by simp only [oldV, Bool.and_eq_true] at h; simp [renV, renL_old a h.1, renL_old b h.2]
  | .iface _ v, h => by simp only [oldV] at h; simp [renV, renV_old v h]
  | .bool _, _ => rfl
  | .int _ _, _ => rfl
  | .str _, _ => rfl
  | .nilp, _ => rfl
  | .glob _ _, _ => rfl
  | .gptr _, _ => rfl
  | .nils, _ => rfl
  | .sln _, _ => rfl
  | .nilfn, _ => rfl
  | .nilif, _ => rfl
  | .nilm, _ => rfl
theorem renL_old {n : Nat} {L : List Nat} : ∀ (xs : List PV), oldL n xs = true → renL n L xs = some xs
  | [], _ => rfl
  | x :: xs, h => by
    simp only [oldL, Bool.and_eq_true] at h
    simp [renL, renV_old x h.1, renL_old xs h.2]
end

theorem renSlots_get {n : Nat} {L : List Nat} : ∀ {s s1 : Slots} {t : Nat} {y : PV}, renSlots n L s = some s1 → s1[t]? = some (some y) → ∃ x, s[t]? = some (some x) ∧ renV n L x = some y
  | [], s1, t, y, h, hy => by cases h; simp at hy
  | none :: s, s1, t, y, h, hy => by
    simp only [renSlots, Option.map_eq_some_iff] at h
    obtain ⟨s2, h2, rfl⟩ := h
    cases t with
    | zero => simp at hy
    | succ t => simpa using renSlots_get h2 (by simpa using hy)
  | some v :: s, s1, t, y, h, hy => by
    simp only [renSlots] at h
    split at h
    · rename_i v' s2 h1 h2
      cases h
      cases t with
      | zero => simp at hy; subst hy; exact ⟨v, rfl, h1⟩
      | succ t => simpa using renSlots_get h2 (by simpa using hy)
    · cases h

theorem renSlots_len {n : Nat} {L : List Nat} : ∀ {s s1 : Slots}, renSlots n L s = some s1 → s1.length = s.length
  | [], s1, h => by cases h; rfl
  | none :: s, s1, h => by
    simp only [renSlots, Option.map_eq_some_iff] at h
    obtain ⟨s2, h2, rfl⟩ := h
    simp [renSlots_len h2]
  | some v :: s, s1, h => by
    simp only [renSlots] at h
    split at h
    · rename_i v' s2 h1 h2
      cases h
      simp [renSlots_len h2]
    · cases h

theorem renStore_get {n : Nat} {L : List Nat} : ∀ {os σ1 : Store} {id : Nat}, renStore n L os = some σ1 → (∀ ob, os[id]? = some ob → ∃ ob1, σ1[id]? = some ob1 ∧ renOb n L ob = some ob1) ∧ σ1.length = os.length
  | [], σ1, id, h => by cases h; exact ⟨fun ob ho => by simp at ho, rfl⟩
  | o :: os, σ1, id, h => by
    simp only [renStore] at h
    split at h
    · rename_i o1 os1 h1 h2
      cases h
      refine ⟨fun ob ho => ?_, by simp [(renStore_get (id := 0) h2).2]⟩
      cases id with
      | zero => simp at ho; subst ho; exact ⟨o1, rfl, h1⟩
      | succ id => simpa using (renStore_get (id := id) h2).1 ob (by simpa using ho)
    · cases h

theorem pickObs_get {σ : Store} : ∀ {L : List Nat} {os : List Ob} {q : Nat}, pickObs σ L = some os → os.length = L.length ∧ ∀ id, L[q]? = some id → ∃ ob, os[q]? = some ob ∧ σ[id]? = some ob
  | [], os, q, h => by cases h; exact ⟨rfl, fun id hi => by simp at hi⟩
  | x :: L, os, q, h => by
    simp only [pickObs] at h
    split at h
    · rename_i o os1 h1 h2
      cases h
      refine ⟨by simp [(pickObs_get (q := 0) h2).1], fun id hi => ?_⟩
      cases q with
      | zero => simp at hi; subst hi; exact ⟨o, rfl, h1⟩
      | succ q => simpa using (pickObs_get (q := q) h2).2 id (by simpa using hi)
    · cases h

theorem renOb_ok {n : Nat} {L : List Nat} {m : Mem} {ob1 : Ob} {l : Loc} (h : MemOk Γ ρ w l m) (hr : renOb n L (.mem m) = some ob1) :
    ∃ m1 : Mem, ob1 = .mem m1 ∧ m1.ice = m.ice ∧ m1.size = m.size ∧ m1.len = m.len ∧ m1.exact = m.exact ∧ (oldL n m.cells = true → m1.cells = m.cells) ∧ MemOk Γ (renR n L ρ) w l m1 := by
  obtain ⟨k1, k2, k3, k4, k5, k6, C, T, k7, k8, k9⟩ := h
  simp only [renOb] at hr
  split at hr
  · simp only [Option.map_eq_some_iff] at hr
    obtain ⟨cs, hcs, rfl⟩ := hr
    have hl := renL_len hcs
    have hrr : Reps Γ (renR n L ρ) cs (C.toList.take m.cells.length) := ⟨by rw [hl]; exact k9.1, fun j y v hy hv => by
      obtain ⟨x, hx, e⟩ := renL_get hcs hy
      exact (k9.2 j x v hx hv).ren e⟩
    refine ⟨_, rfl, rfl, rfl, rfl, rfl, fun ho => ?_, k1, k2, by simpa [hl] using k3, k4, k5, ?_, C, T, k7, k8, by simpa [hl] using hrr⟩
    · rw [renL_old _ ho] at hcs
      cases hcs
      rfl
    · rw [List.all_eq_true]
      intro y hy
      obtain ⟨j, hj⟩ := List.getElem?_of_mem hy
      obtain ⟨x, hx, e⟩ := renL_get hcs hj
      have hlt : j < (C.toList.take m.cells.length).length := by
        have := (List.getElem?_eq_some_iff.1 hx).1
        rw [k9.1]; exact this
      have h1 := (k9.2 j x _ hx (List.getElem?_eq_getElem hlt)).oneCell
      have h2 := (hrr.2 j y _ hj (List.getElem?_eq_getElem hlt)).oneCell
      rw [← h2, h1]
      exact List.all_eq_true.1 k6 x (List.mem_of_getElem? hx)
  · split at hr
    · rename_i ho
      cases hr
      exact ⟨m, rfl, rfl, rfl, rfl, rfl, fun _ => rfl, k1, k2, k3, k4, k5, k6, C, T, k7, k8, k9.old (n := 0) (fun id hid => absurd hid (Nat.not_lt_zero id)) ho⟩
    · cases hr

theorem trim_ok (hE : E.Ok) {Γ0 : Sealed} {ρ0 : Ren} {σ0 : Store} {w0 : World} {s : Slots} {a : Act} (h0 : Rel E fl Γ0 ρ0 σ0 w0) (hp : Post fl Γ0 ρ0 σ0 w0 Γ ρ σ w) (hfl : fl ≤ σ0.length) (h : Rel E fl Γ ρ σ w) (hs : SlotsOk Γ ρ s a) (pat : List Bool) :
    ∃ ρ', SlotsOk Γ ρ' (trimA E fl pat σ0.length s σ).1 a ∧ Rel E fl Γ ρ' (trimA E fl pat σ0.length s σ).2 w ∧ Post fl Γ0 ρ0 σ0 w0 Γ ρ' (trimA E fl pat σ0.length s σ).2 w := by
  have hsame : ∃ ρ', SlotsOk Γ ρ' s a ∧ Rel E fl Γ ρ' σ w ∧ Post fl Γ0 ρ0 σ0 w0 Γ ρ' σ w := ⟨ρ, hs, h, hp⟩
  unfold trimA
  split
  · rename_i hfl0
    have hfl0 : fl = 0 := by
      simp only [Bool.and_eq_true] at hfl0
      exact Nat.eq_of_beq_eq_true hfl0.2
    split
    · rename_i p ht
      unfold trimO at ht
      obtain ⟨hnd, hge⟩ := liveN_ok pat σ0.length s σ
      revert ht hnd hge
      generalize liveN pat σ0.length s σ = L
      intro ht hnd hge
      split at ht
      · rename_i os hos
        split at ht
        · rename_i s1 σ1 hs1 hσ1
          cases ht
          have hlen0 : σ0.length ≤ σ.length := hp.len
          have hlt0 : ∀ id l, ρ0 id = some l → id < σ0.length := fun id l hl => by
            obtain ⟨ob, hob, _⟩ := h0.mem id l hl
            exact (List.getElem?_eq_some_iff.1 hob).1
          have hlow : ∀ id, id < σ0.length → (σ.take σ0.length ++ os)[id]? = σ[id]? := fun id hid => by
            rw [List.getElem?_append_left (by simp only [List.length_take]; omega), List.getElem?_take, if_pos hid]
          have hhigh : ∀ q, (σ.take σ0.length ++ os)[σ0.length + q]? = os[q]? := fun q => by
            have : (σ.take σ0.length).length = σ0.length := by simp only [List.length_take]; omega
            rw [List.getElem?_append_right (by omega), this, Nat.add_sub_cancel_left]
          have hfind : ∀ id l, renR σ0.length L ρ id = some l → ∃ id' m m1, ρ id' = some l ∧ σ[id']? = some (.mem m) ∧ MemOk Γ ρ w l m ∧ σ1[id]? = some (.mem m1) ∧ renOb σ0.length L (.mem m) = some (.mem m1) ∧ (id < σ0.length → id' = id) ∧ (σ0.length ≤ id → L[id - σ0.length]? = some id') := by
            intro id l hl
            unfold renR at hl
            split at hl
            · rename_i hid
              obtain ⟨m, hmg, hm, hok⟩ := h.memOk hl
              obtain ⟨ob1, h1, h2⟩ := (renStore_get hσ1).1 _ ((hlow id hid).trans hm)
              obtain ⟨m1, rfl, _⟩ := renOb_ok hok h2
              exact ⟨id, m, m1, hl, hm, hok, h1, h2, fun _ => rfl, fun e => absurd hid (by omega)⟩
            · rename_i hid
              cases hq : L[id - σ0.length]? with
              | none => simp [hq] at hl
              | some id' =>
                rw [hq] at hl
                obtain ⟨m, hmg, hm, hok⟩ := h.memOk hl
                obtain ⟨ob, ho1, ho2⟩ := (pickObs_get hos).2 id' hq
                rw [hm] at ho2
                cases ho2
                have e : σ0.length + (id - σ0.length) = id := by omega
                obtain ⟨ob1, h1, h2⟩ := (renStore_get hσ1).1 _ ((hhigh (id - σ0.length)).trans ho1)
                rw [e] at h1
                obtain ⟨m1, rfl, _⟩ := renOb_ok hok h2
                exact ⟨id', m, m1, hl, hm, hok, h1, h2, fun e => absurd e (by omega), fun _ => rfl⟩
          refine ⟨renR σ0.length L ρ, ⟨by rw [renSlots_len hs1, keepS_len]; exact hs.1, fun t y hy => ?_⟩, ⟨h.fix, fun id l hl => ?_, fun id l m hl hid hm hi o => ?_, fun i j li lj hi hj hb => ?_, fun g cells hg => ?_, h.rock.move h.glob (fun _ _ _ h => h) (fun _ _ _ => rfl) (fun b id l _ hn hl => by
            obtain ⟨id', m0, m1, e1, _⟩ := hfind id l hl
            exact hn id' l e1)⟩, ?_⟩
          · obtain ⟨x, hx, e⟩ := renSlots_get hs1 hy
            obtain ⟨u, hu, hr⟩ := hs.2 t x (keepS_get _ _ _ _ hx)
            exact ⟨u, hu, hr.ren e⟩
          · obtain ⟨id', m, m1, e1, e2, e3, e4, e5, _⟩ := hfind id l hl
            obtain ⟨m2, e6, _, _, _, _, _, e7⟩ := renOb_ok e3 e5
            cases e6
            exact ⟨_, e4, e7⟩
          · obtain ⟨id', m0, m1, e1, e2, e3, e4, e5, e6, e7⟩ := hfind id l hl
            obtain ⟨m2, e8, e9, _⟩ := renOb_ok e3 e5
            cases e8
            rw [e4] at hm
            cases hm
            refine h.apart id' l m0 e1 ?_ e2 (by rw [← e9]; exact hi) o
            by_cases hid' : id < σ0.length
            · rw [e6 hid']; exact hid
            · have := hge id' (List.mem_of_getElem? (e7 (by omega)))
              omega
          · obtain ⟨i', _, _, a1, _, _, _, _, a6, a7⟩ := hfind i li hi
            obtain ⟨j', _, _, b1, _, _, _, _, b6, b7⟩ := hfind j lj hj
            have hij := h.inj i' j' li lj a1 b1 hb
            subst hij
            by_cases h1 : i < σ0.length
            · have e1 := a6 h1
              by_cases h2 : j < σ0.length
              · have e2 := b6 h2; omega
              · have := hge i' (List.mem_of_getElem? (b7 (by omega)))
                omega
            · have e1 := a7 (by omega)
              by_cases h2 : j < σ0.length
              · have e2 := b6 h2
                have := hge i' (List.mem_of_getElem? e1)
                omega
              · have e2 := b7 (by omega)
                have k1 := (List.getElem?_eq_some_iff.1 e1).1
                have := (List.getElem?_inj k1 hnd).1 (e1.trans e2.symm)
                omega
          · obtain ⟨vs, hv⟩ := h.glob g cells hg
            exact ⟨vs, fun j x hx => ⟨(hv j x hx).1, (hv j x hx).2.1, (hv j x hx).2.2.old (n := 0) (fun id hid => absurd hid (Nat.not_lt_zero id)) (oldL_get (hE.glob g cells hg) hx)⟩⟩
          · have hkeep : ∀ id (m : Mem), id < σ0.length → σ[id]? = some (.mem m) → ∃ m1 : Mem, σ1[id]? = some (.mem m1) ∧ m1.ice = m.ice ∧ m1.size = m.size ∧ m1.len = m.len ∧ m1.exact = m.exact ∧ (oldL σ0.length m.cells = true → m1.cells = m.cells) := by
              intro id m hid hm
              obtain ⟨ob1, h1, h2⟩ := (renStore_get hσ1).1 _ ((hlow id hid).trans hm)
              simp only [renOb] at h2
              split at h2
              · simp only [Option.map_eq_some_iff] at h2
                obtain ⟨cs, hcs, rfl⟩ := h2
                exact ⟨_, h1, rfl, rfl, rfl, rfl, fun ho => by
                  rw [renL_old _ ho] at hcs
                  cases hcs
                  rfl⟩
              · split at h2
                · cases h2
                  exact ⟨m, h1, rfl, rfl, rfl, rfl, fun _ => rfl⟩
                · cases h2
            refine { hp with le := ⟨hp.le.fix, fun id l hl => ?_⟩, blocks := fun id l hl => ?_, low := fun id hid => ?_, lowS := fun id hid => ?_, fresh := fun b o h1 h2 => ?_, len := ?_, ice := fun id m hm hi => ?_ }
            · obtain ⟨l', h1, h2⟩ := hp.le.ren id l hl
              exact ⟨l', (renR_old id (hlt0 id l hl)).trans h1, h2⟩
            · obtain ⟨id', _, _, a1, _, _, _, _, a6, a7⟩ := hfind id l hl
              rcases hp.blocks id' l a1 with ⟨l0, h1, h2⟩ | h1
              · have hid' := hlt0 id' l0 h1
                by_cases hid : id < σ0.length
                · exact .inl ⟨l0, by rw [← a6 hid]; exact h1, h2⟩
                · have := hge id' (List.mem_of_getElem? (a7 (by omega)))
                  omega
              · exact .inr h1
            · exact (renR_old id (by omega)).trans (hp.low id hid)
            · omega
            · rcases hp.fresh b o h1 h2 with h3 | ⟨id, l, m, h3, h4, h5, h6⟩
              · exact .inl h3
              · obtain ⟨m1, d1, d2, _⟩ := hkeep id m (hlt0 id l h3) h5
                exact .inr ⟨id, l, m1, h3, h4, d1, d2.trans h6⟩
            · have := (renStore_get (id := 0) hσ1).2
              rw [this]
              simp only [List.length_append, List.length_take]
              omega
            · obtain ⟨m', h1, h2⟩ := hp.ice id m hm hi
              obtain ⟨m1, d1, d2, _⟩ := hkeep id m' (List.getElem?_eq_some_iff.1 hm).1 h1
              exact ⟨m1, d1, d2.trans h2⟩
        · cases ht
      · cases ht
    · exact hsame
  · exact hsame

theorem codeA_ok (hE : E.Ok) {rec : Rec} (hrec : SoundRec E rec) (n : Nat) : ∀ (c : Code) {s s' : Slots} {σ σ' : Store} {out : Out} {Γ : Sealed} {ρ : Ren} {a : Act} {w : World} {Q : Exit → Act → World → Prop},
    codeA E rec fl n c s σ = some (out, s', σ') → Rel E fl Γ ρ σ w → fl ≤ σ.length → SlotsOk Γ ρ s a →
    (∀ a' w' Γ' ρ', SlotsOk Γ' ρ' s' a' → a'.defers = a.defers → Rel E fl Γ' ρ' σ' w' → Post fl Γ ρ σ w Γ' ρ' σ' w' → Q (exitOf out) a' w') → c.wp E.P Q a w := by
  intro c
  induction c with
  | skip =>
    intro s s' σ σ' out Γ ρ a w Q h hR hfl hs hQ
    simp only [codeA, Option.some.injEq, Prod.mk.injEq] at h
    obtain ⟨rfl, rfl, rfl⟩ := h
    exact wp_skip (hQ a w Γ ρ hs rfl hR (.refl _ _ _ _ _))
  | region id ops d =>
    intro s s' σ σ' out Γ ρ a w Q h hR hfl hs hQ
    cases d with
    | false =>
      simp only [codeA] at h
      cases ho : opsA E rec fl ops (noTight ops) ops.toList 0 s σ with
      | none => simp [ho] at h
      | some r =>
        obtain ⟨s1, σ1⟩ := r
        simp [ho] at h
        obtain ⟨rfl, rfl, rfl⟩ := h
        refine wp_region ?_
        have := opsA_ok hE hrec (Q := Q) ops.toList 0 ho (fun j hj => by simp [noTight, List.getElem?_replicate, hj]) (by simp) hR hfl hs hQ
        simpa [List.range_eq_range'] using this
    | true =>
      simp only [codeA] at h
      split at h
      · rename_i hp
        cases ho : opsD E rec fl ops (masks ops) (tightOf ops (masks ops)) ops.toList 0 [] s σ with
        | none => simp [ho] at h
        | some r =>
          obtain ⟨s1, σ1⟩ := r
          simp [ho] at h
          obtain ⟨rfl, rfl, rfl⟩ := h
          exact draw_ok hE hrec hp ho hR hfl hs hQ
      · cases h
  | seq x y ihx ihy =>
    intro s s' σ σ' out Γ ρ a w Q h hR hfl hs hQ
    simp only [codeA] at h
    refine wp_seq ?_
    split at h
    · rename_i s1 σ1 hx
      refine ihx hx hR hfl hs fun a1 w1 Γ1 ρ1 k1 k2 k3 k4 => ?_
      refine ihy h k3 (Nat.le_trans hfl k4.len) k1 fun a2 w2 Γ2 ρ2 m1 m2 m3 m4 => ?_
      exact hQ a2 w2 Γ2 ρ2 m1 (m2.trans k2) m3 (k4.trans m4)
    · rename_i hno
      refine ihx h hR hfl hs fun a1 w1 Γ1 ρ1 k1 k2 k3 k4 => ?_
      have := hQ a1 w1 Γ1 ρ1 k1 k2 k3 k4
      cases out with
      | norm => exact (hno s' σ' h).elim
      | exit id => exact this
      | ret => exact this
  | cond c x y ihx ihy =>
    intro s s' σ σ' out Γ ρ a w Q h hR hfl hs hQ
    simp only [codeA] at h
    split at h
    · rename_i hc
      have hv := hs.env c _ hc
      generalize hg : a.eval c = vc at hv
      cases hv
      exact wp_cond_true hg (ihx h hR hfl hs hQ)
    · rename_i hc
      have hv := hs.env c _ hc
      generalize hg : a.eval c = vc at hv
      cases hv
      exact wp_cond_false hg (ihy h hR hfl hs hQ)
    · cases h
  | block id body ih =>
    intro s s' σ σ' out Γ ρ a w Q h hR hfl hs hQ
    simp only [codeA] at h
    refine wp_block ?_
    split at h
    · rename_i j s1 σ1 hb
      split at h
      · rename_i hj
        cases h
        refine ih hb hR hfl hs fun a1 w1 Γ1 ρ1 k1 k2 k3 k4 => ?_
        have := hQ a1 w1 Γ1 ρ1 k1 k2 k3 k4
        simp only [exitOf, Exit.inBlock, hj, if_true]
        exact this
      · rename_i hj
        cases h
        refine ih hb hR hfl hs fun a1 w1 Γ1 ρ1 k1 k2 k3 k4 => ?_
        have := hQ a1 w1 Γ1 ρ1 k1 k2 k3 k4
        simp only [exitOf, Exit.inBlock, hj, if_false]
        exact this
    · rename_i hno
      refine ih h hR hfl hs fun a1 w1 Γ1 ρ1 k1 k2 k3 k4 => ?_
      have := hQ a1 w1 Γ1 ρ1 k1 k2 k3 k4
      cases out with
      | norm => exact this
      | exit j => exact absurd h (hno j s' σ')
      | ret => exact this
  | loop body ih =>
    intro s s' σ σ' out Γ ρ a w Q h hR hfl hs hQ
    simp only [codeA] at h
    refine wp_loop_fuel (fun m a1 w1 => ∃ s1 σ1 Γ1 ρ1, iterA E fl (patOf s) σ.length (codeA E rec fl n body) m s1 σ1 = some (out, s', σ') ∧ SlotsOk Γ1 ρ1 s1 a1 ∧ a1.defers = a.defers ∧ Rel E fl Γ1 ρ1 σ1 w1 ∧ Post fl Γ ρ σ w Γ1 ρ1 σ1 w1) (n := n)
      ⟨s, σ, Γ, ρ, h, hs, rfl, hR, .refl _ _ _ _ _⟩ fun m a1 w1 hI => ?_
    obtain ⟨s1, σ1, Γ1, ρ1, i1, i2, i3, i4, i5⟩ := hI
    cases m with
    | zero => simp [iterA] at i1
    | succ m =>
      simp only [iterA] at i1
      split at i1
      · rename_i s2 σ2 hb
        refine ih hb i4 (Nat.le_trans hfl i5.len) i2 fun a2 w2 Γ2 ρ2 k1 k2 k3 k4 => ?_
        obtain ⟨ρ3, m1, m2, m3⟩ := trim_ok hE hR (i5.trans k4) hfl k3 k1 (patOf s)
        exact ⟨m, Nat.lt_succ_self m, _, _, Γ2, ρ3, i1, m1, k2.trans i3, m2, m3⟩
      · rename_i r hno
        refine ih i1 i4 (Nat.le_trans hfl i5.len) i2 fun a2 w2 Γ2 ρ2 k1 k2 k3 k4 => ?_
        have := hQ a2 w2 Γ2 ρ2 k1 (k2.trans i3) k3 (i5.trans k4)
        cases out with
        | norm => exact absurd i1 (hno s' σ')
        | exit id => exact this
        | ret => exact this
  | exit id =>
    intro s s' σ σ' out Γ ρ a w Q h hR hfl hs hQ
    simp only [codeA, Option.some.injEq, Prod.mk.injEq] at h
    obtain ⟨rfl, rfl, rfl⟩ := h
    exact wp_exit (hQ a w Γ ρ hs rfl hR (.refl _ _ _ _ _))
  | ret =>
    intro s s' σ σ' out Γ ρ a w Q h hR hfl hs hQ
    simp only [codeA, Option.some.injEq, Prod.mk.injEq] at h
    obtain ⟨rfl, rfl, rfl⟩ := h
    exact wp_ret (hQ a w Γ ρ hs rfl hR (.refl _ _ _ _ _))
  | _ =>
    intro s s' σ σ' out Γ ρ a w Q h hR hfl hs hQ
    simp [codeA] at h

theorem mapM_ok {P : Program} {f : ResultVar → Sem Value} {g : ResultVar → Option PV} {w : World} (hf : ∀ r p, g r = some p → ∃ v, (f r).run P w = .ok v w ∧ Rep Γ ρ p v) (E' : Env) (s : Slots) (σ : Store)
    (hg : ∀ r, resultA E' s σ r = g r) : ∀ (l : List ResultVar) (ps : List PV), resultsA E' s σ l = some ps → ∃ vs, (l.mapM f).run P w = .ok vs w ∧ Reps Γ ρ ps vs
  | [], ps, h => by cases h; exact ⟨[], by simp, .nil⟩
  | r :: l, ps, h => by
    unfold resultsA at h
    split at h
    · rename_i p ps' hp hps
      cases h
      rw [hg] at hp
      obtain ⟨v, h1, h2⟩ := hf r p hp
      obtain ⟨vs, h3, h4⟩ := mapM_ok hf E' s σ hg l ps' hps
      exact ⟨v :: vs, by simp [List.mapM_cons, h1, h3], .cons h2 h4⟩
    · cases h

theorem endA_ok (hR : Rel E fl Γ ρ σ w) {fn : Func} {s : Slots} {a : Act} {p : PV} {σ' : Store} (hs : SlotsOk Γ ρ s a) (h : endA E fn s σ = some (p, σ')) :
    σ' = σ ∧ ∃ v, (results fn a.tmps).run E.P w = .ok v w ∧ Rep Γ ρ p v := by
  have key : ∀ ps, resultsA E s σ fn.results.toList = some ps → ∃ vs : Array Value, (results fn a.tmps).run E.P w = .ok (if h : vs.size = 1 then vs[0] else .tuple vs) w ∧ Reps Γ ρ ps vs.toList := by
    intro ps hps
    have hh : ∀ F : ResultVar → Sem Value, (∀ r p, resultA E s σ r = some p → ∃ v, (F r).run E.P w = .ok v w ∧ Rep Γ ρ p v) →
        ∃ vs : Array Value, (fn.results.mapM F >>= fun vs => (pure (if h : vs.size = 1 then vs[0] else .tuple vs) : Sem Value)).run E.P w = .ok (if h : vs.size = 1 then vs[0] else .tuple vs) w ∧ Reps Γ ρ ps vs.toList := by
      intro F hF
      obtain ⟨vs, h1, h2⟩ := mapM_ok (P := E.P) hF E s σ (fun _ => rfl) fn.results.toList ps hps
      refine ⟨vs.toArray, ?_, by simpa using h2⟩
      rw [Array.mapM_eq_mapM_toList, Sem.run_bind, Sem.run_map, h1]
      simp
    unfold results
    refine hh _ ?_
    · intro r p hp
      cases r with
      | tmp t =>
        simp only [resultA] at hp
        split at hp
        · rename_i v hv
          cases hp
          obtain ⟨u, h1, h2⟩ := hs.2 t _ hv
          exact ⟨u, by simp [h1], h2⟩
        · cases hp
      | cell b t =>
        simp only [resultA] at hp
        split at hp
        · rename_i q hq
          obtain ⟨u, h1, h2⟩ := hs.2 b _ hq
          obtain ⟨r, k1, ⟨ad, e1, e2⟩, _⟩ := loadAt_ok hR hp h2
          subst e1
          exact ⟨r, by simp [h1, asAddr, e2], k1⟩
        · cases hp
  unfold endA at h
  split at h
  · rename_i v hv
    cases h
    obtain ⟨vs, h1, h2⟩ := key _ hv
    refine ⟨rfl, ?_⟩
    obtain ⟨u, us, e, h3, h4⟩ := h2.inv_cons
    have := h4.inv_nil
    subst this
    obtain ⟨l⟩ := vs
    simp at e
    subst e
    exact ⟨u, by simpa using h1, h3⟩
  · rename_i vs0 hno hv
    cases h
    obtain ⟨vs, h1, h2⟩ := key _ hv
    have hne : vs.size ≠ 1 := fun e => by
      have := h2.1
      simp [e] at this
      match vs0, this with
      | [x], _ => exact hno x rfl
    rw [dif_neg hne] at h1
    exact ⟨rfl, .tuple vs, h1, .tup (by simpa using h2.1) (fun j x v hx hv => h2.2 j x v hx (by simpa using hv))⟩
  · cases h

theorem enterA_ok (hE : E.Ok) {rec : Rec} (hrec : SoundRec E rec) (n : Nat) : SoundRec E (enterA E rec n) := by
  intro f args σ fl p σ' h hfl Γ ρ w vs hR hr
  unfold enterA at h
  split at h
  · rename_i fn hfn
    split at h
    · rename_i c hc
      split at h
      · rename_i hb
        have hlen : vs.length = args.length := hr.1
        refine calls_of_wp hfn hc ?_
        have hs : SlotsOk Γ ρ (args.map some ++ List.replicate (fn.ntmps - args.length) none) { tmps := vs.toArray ++ Array.replicate (fn.ntmps - vs.toArray.size) undef, defers := [] } := by
          refine ⟨by simp [hlen], fun t v ht => ?_⟩
          by_cases hlt : t < args.length
          · rw [List.getElem?_append_left (by simpa using hlt)] at ht
            simp only [List.getElem?_map, Option.map_eq_some_iff, Option.some.injEq] at ht
            obtain ⟨x, hx, rfl⟩ := ht
            obtain ⟨u, hu, hxu⟩ := hr.at hx
            refine ⟨u, ?_, hxu⟩
            rw [Array.getElem?_append_left (by simp; omega)]
            simpa using hu
          · rw [List.getElem?_append_right (by simp; omega)] at ht
            rw [List.getElem?_replicate] at ht
            split at ht <;> simp at ht
        have hpost : ∀ (s1 : Slots) (σ1 : Store) (out : Out), codeA E rec fl n c (args.map some ++ List.replicate (fn.ntmps - args.length) none) σ = some (out, s1, σ1) → endA E fn s1 σ1 = some (p, σ') → (out = .norm ∨ out = .ret) →
            c.wp E.P (bodyPost E.P fn fun e w' => ∃ r, e = .returned r ∧ Moves E fl Γ ρ σ w p σ' r w') { tmps := vs.toArray ++ Array.replicate (fn.ntmps - vs.toArray.size) undef, defers := [] } w := by
          intro s1 σ1 out hcode hend hout
          refine codeA_ok hE hrec n c hcode hR hfl hs fun a' w' Γ' ρ' k1 k2 k3 k4 => ?_
          obtain ⟨rfl, v, e1, e2⟩ := endA_ok k3 k1 hend
          have : bodyPost E.P fn (fun e w' => ∃ r, e = .returned r ∧ Moves E fl Γ ρ σ w p σ' r w') .normal a' w' := ⟨k2, v, e1, v, rfl, Γ', ρ', e2, k3, k4⟩
          rcases hout with rfl | rfl
          · exact this
          · exact this
        split at h
        · rename_i s1 σ1 hcode
          exact hpost s1 σ1 .norm hcode h (.inl rfl)
        · rename_i s1 σ1 hcode
          exact hpost s1 σ1 .ret hcode h (.inr rfl)
        · cases h
      · cases h
    · cases h
  · cases h

theorem runA_ok (hE : E.Ok) (n : Nat) : ∀ k, SoundRec E (runA E n k)
  | 0 => fun f args σ fl p σ' h => by cases h
  | k + 1 => enterA_ok hE (runA_ok hE n k) n

end
end Go.Proofs.YtbnfofcbajaiiaaDoor.Am
