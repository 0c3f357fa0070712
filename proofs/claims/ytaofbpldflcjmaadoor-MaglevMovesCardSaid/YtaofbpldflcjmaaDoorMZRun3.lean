/- Code, functions, the interpreter: the machine does what it does. -/
import Derived.Test.YtaofbpldflcjmaaDoorMZRun2
import Derived.Scope
import Derived.RangeFuncLeaves
import Derived.RangeFuncOwn
set_option linter.unusedVariables false
set_option linter.unusedSimpArgs false
namespace Go.Proofs.YtaofbpldflcjmaaDoor.Am
section
variable {E : Env} {fl : Nat} {Γ : Sealed} {ρ : Ren} {σ : Store} {w : World}
def exitOf : Out -> Exit
  | .norm => .normal
  | .exit id => .exit id
  | .ret => .ret
  | .goto l => .goto l
open Classical in
noncomputable def least (p : Nat -> Prop) : Nat := if h : ∃ n, p n /\ ∀ m, m < n -> ¬ p m then h.choose else 0
theorem least_spec {p : Nat -> Prop} {n : Nat} (h : p n) : p (least p) /\ least p <= n := by
  have hex : ∃ n, p n /\ ∀ m, m < n -> ¬ p m := by
    induction n using Nat.strongRecOn with
    | _ n ih =>
      by_cases hm : ∃ m, m < n /\ p m
      . obtain ⟨m, h1, h2⟩ := hm
        exact ih m h1 h2
      . exact ⟨n, h, fun m h1 h2 => hm ⟨m, h1, h2⟩⟩
  unfold least
  rw [dif_pos hex]
  have hs := hex.choose_spec
  refine ⟨hs.1, ?_⟩
  rcases Nat.lt_or_ge n hex.choose with hlt | hge
  . exact absurd h (hs.2 n hlt)
  . exact hge
theorem wp_loop_fuel {P : Program} {Q : Exit -> Act -> World -> Prop} {c : Code} {a : Act} {w : World} (I : Nat -> Act -> World -> Prop) {n : Nat} (h0 : I n a w)
    (round : ∀ n a w, I n a w -> c.wp P (Exit.then (fun a' w' => ∃ m, m < n /\ I m a' w') Q) a w) : (Code.loop c).wp P Q a w := by
  refine wp_loop (fun a w => ∃ n, I n a w) (fun a w => least fun n => I n a w) ⟨n, h0⟩ fun a w hI => ?_
  obtain ⟨k, hk⟩ := hI
  have hl := least_spec (p := fun n => I n a w) hk
  refine wp_mono (round _ a w hl.1) fun e a' w' hq => ?_
  cases e with
  | normal =>
    obtain ⟨m, hm, hIm⟩ := hq
    exact ⟨⟨m, hIm⟩, Nat.lt_of_le_of_lt (least_spec (p := fun n => I n a' w') hIm).2 hm⟩
  | _ => exact hq
theorem keepS_get : ∀ (bs : List Bool) (s : Slots) (t : Nat) (v : PV), (keepS bs s)[t]? = some (some v) -> s[t]? = some (some v)
  | b :: bs, x :: s, 0, v, h => by
    simp only [keepS, List.getElem?_cons_zero, Option.some.injEq] at h ⊢
    cases b <;> simp_all
  | b :: bs, x :: s, t + 1, v, h => by
    simp only [keepS, List.getElem?_cons_succ] at h ⊢
    exact keepS_get bs s t v h
  | [], s, t, v, h => by cases s <;> exact h
  | b :: bs, [], t, v, h => by simp [keepS] at h
theorem keepS_len : ∀ (bs : List Bool) (s : Slots), (keepS bs s).length = s.length
  | b :: bs, x :: s => by simp [keepS, keepS_len bs s]
  | [], s => by cases s <;> rfl
  | b :: bs, [] => rfl
theorem trim_ok (hE : E.Ok) {Γ0 : Sealed} {ρ0 : Ren} {σ0 : Store} {w0 : World} {s : Slots} {a : Act} (h0 : Rel E fl Γ0 ρ0 σ0 w0) (hp : Post fl Γ0 ρ0 σ0 w0 Γ ρ σ w) (hfl : fl <= σ0.length) (h : Rel E fl Γ ρ σ w) (hs : SlotsOk Γ ρ s a) (pat : List Bool) :
    ∃ ρ', SlotsOk Γ ρ' (trimA E fl pat σ0.length s σ).1 a /\ Rel E fl Γ ρ' (trimA E fl pat σ0.length s σ).2 w /\ Post fl Γ0 ρ0 σ0 w0 Γ ρ' (trimA E fl pat σ0.length s σ).2 w /\ ∀ id l, ρ' id = some l -> ∃ id', ρ id' = some l := by
  have hsame : ∃ ρ', SlotsOk Γ ρ' s a /\ Rel E fl Γ ρ' σ w /\ Post fl Γ0 ρ0 σ0 w0 Γ ρ' σ w /\ ∀ id l, ρ' id = some l -> ∃ id', ρ id' = some l := ⟨ρ, hs, h, hp, fun id l hl => ⟨id, hl⟩⟩
  unfold trimA
  split
  . rename_i hfl0
    have hfl0 : fl = 0 := by
      simp only [Bool.and_eq_true] at hfl0
      exact Nat.eq_of_beq_eq_true hfl0.2
    split
    . rename_i p ht
      unfold trimO at ht
      obtain ⟨hnd, hge⟩ := liveN_ok pat σ0.length s σ
      revert ht hnd hge
      generalize liveN pat σ0.length s σ = L
      intro ht hnd hge
      split at ht
      . rename_i os hos
        split at ht
        . rename_i s1 σ1 hs1 hσ1
          cases ht
          have hlen0 : σ0.length <= σ.length := hp.len
          have hlt0 : ∀ id l, ρ0 id = some l -> id < σ0.length := fun id l hl => by
            obtain ⟨ob, hob, _⟩ := h0.mem id l hl
            exact (List.getElem?_eq_some_iff.1 hob).1
          have hlow : ∀ id, id < σ0.length -> (σ.take σ0.length ++ os)[id]? = σ[id]? := fun id hid => by
            rw [List.getElem?_append_left (by simp only [List.length_take]; omega), List.getElem?_take, if_pos hid]
          have hhigh : ∀ q, (σ.take σ0.length ++ os)[σ0.length + q]? = os[q]? := fun q => by
            have : (σ.take σ0.length).length = σ0.length := by simp only [List.length_take]; omega
            rw [List.getElem?_append_right (by omega), this, Nat.add_sub_cancel_left]
          have hfind : ∀ id l, renR σ0.length L ρ id = some l -> ∃ id' ob ob1, ρ id' = some l /\ σ[id']? = some ob /\ ObOk Γ ρ w l ob /\ σ1[id]? = some ob1 /\ renOb σ0.length L ob = some ob1 /\ (id < σ0.length -> id' = id) /\ (σ0.length <= id -> L[id - σ0.length]? = some id') := by
            intro id l hl
            unfold renR at hl
            split at hl
            . rename_i hid
              obtain ⟨ob, hm, hok⟩ := h.mem id l hl
              obtain ⟨ob1, h1, h2⟩ := (renStore_get hσ1).1 _ ((hlow id hid).trans hm)
              exact ⟨id, ob, ob1, hl, hm, hok, h1, h2, fun _ => rfl, fun e => absurd hid (by omega)⟩
            . rename_i hid
              cases hq : L[id - σ0.length]? with
              | none => simp [hq] at hl
              | some id' =>
                rw [hq] at hl
                obtain ⟨ob0, hm, hok⟩ := h.mem id' l hl
                obtain ⟨ob, ho1, ho2⟩ := (pickObs_get hos).2 id' hq
                rw [hm] at ho2
                cases ho2
                have e : σ0.length + (id - σ0.length) = id := by omega
                obtain ⟨ob1, h1, h2⟩ := (renStore_get hσ1).1 _ ((hhigh (id - σ0.length)).trans ho1)
                rw [e] at h1
                exact ⟨id', ob0, ob1, hl, hm, hok, h1, h2, fun e => absurd e (by omega), fun _ => rfl⟩
          refine ⟨renR σ0.length L ρ, ⟨by rw [renSlots_len hs1, keepS_len]; exact hs.1, fun t y hy => ?_⟩, ⟨h.fix, fun id l hl => ?_, fun id l m hl hid hm hi o => ?_, fun i j li lj hi hj hb => ?_, fun g cells hg => ?_, h.rock.move h.glob (fun _ _ _ h => h) (fun _ _ _ => rfl) (fun b id l _ hn hl => by
            obtain ⟨id', m0, m1, e1, _⟩ := hfind id l hl
            exact hn id' l e1)⟩, ?_, fun id l hl => (by
            obtain ⟨id', m0, m1, e1, _⟩ := hfind id l hl
            exact ⟨id', e1⟩)⟩
          . obtain ⟨x, hx, e⟩ := renSlots_get hs1 hy
            obtain ⟨u, hu, hr⟩ := hs.2 t x (keepS_get _ _ _ _ hx)
            exact ⟨u, hu, hr.ren e⟩
          . obtain ⟨id', ob, ob1, e1, e2, e3, e4, e5, _⟩ := hfind id l hl
            exact ⟨_, e4, (renOb_any e3 e5).1⟩
          . obtain ⟨id', ob, ob1, e1, e2, e3, e4, e5, e6, e7⟩ := hfind id l hl
            rw [e4] at hm
            cases hm
            obtain ⟨m0, rfl, e9⟩ := (renOb_any e3 e5).2 m rfl
            refine h.apart id' l m0 e1 ?_ e2 (by rw [<- e9]; exact hi) o
            by_cases hid' : id < σ0.length
            . rw [e6 hid']; exact hid
            . have := hge id' (List.mem_of_getElem? (e7 (by omega)))
              omega
          . obtain ⟨i', _, _, a1, _, _, _, _, a6, a7⟩ := hfind i li hi
            obtain ⟨j', _, _, b1, _, _, _, _, b6, b7⟩ := hfind j lj hj
            have hij := h.inj i' j' li lj a1 b1 hb
            subst hij
            by_cases h1 : i < σ0.length
            . have e1 := a6 h1
              by_cases h2 : j < σ0.length
              . have e2 := b6 h2; omega
              . have := hge i' (List.mem_of_getElem? (b7 (by omega)))
                omega
            . have e1 := a7 (by omega)
              by_cases h2 : j < σ0.length
              . have e2 := b6 h2
                have := hge i' (List.mem_of_getElem? e1)
                omega
              . have e2 := b7 (by omega)
                have k1 := (List.getElem?_eq_some_iff.1 e1).1
                have := (List.getElem?_inj k1 hnd).1 (e1.trans e2.symm)
                omega
          . obtain ⟨vs, hv⟩ := h.glob g cells hg
            exact ⟨vs, fun j x hx => ⟨(hv j x hx).1, (hv j x hx).2.1, (hv j x hx).2.2.old (n := 0) (fun id hid => absurd hid (Nat.not_lt_zero id)) (oldL_get (hE.glob g cells hg) hx)⟩⟩
          . have hkeep : ∀ id (m : Mem), id < σ0.length -> σ[id]? = some (.mem m) -> ∃ m1 : Mem, σ1[id]? = some (.mem m1) /\ m1.ice = m.ice /\ m1.size = m.size /\ m1.len = m.len /\ m1.exact = m.exact /\ (oldL σ0.length m.cells = true -> m1.cells = m.cells) := by
              intro id m hid hm
              obtain ⟨ob1, h1, h2⟩ := (renStore_get hσ1).1 _ ((hlow id hid).trans hm)
              simp only [renOb] at h2
              split at h2
              . simp only [Option.map_eq_some_iff] at h2
                obtain ⟨cs, hcs, rfl⟩ := h2
                exact ⟨_, h1, rfl, rfl, rfl, rfl, fun ho => by
                  rw [renL_old _ ho] at hcs
                  cases hcs
                  rfl⟩
              . split at h2
                . cases h2
                  exact ⟨m, h1, rfl, rfl, rfl, rfl, fun _ => rfl⟩
                . cases h2
            refine { hp with le := ⟨hp.le.fix, fun id l hl => ?_⟩, blocks := fun id l hl => ?_, low := fun id hid => ?_, lowS := fun id hid => ?_, fresh := fun b o h1 h2 => ?_, len := ?_, ice := fun id m hm hi => ?_ }
            . obtain ⟨l', h1, h2⟩ := hp.le.ren id l hl
              exact ⟨l', (renR_old id (hlt0 id l hl)).trans h1, h2⟩
            . obtain ⟨id', _, _, a1, _, _, _, _, a6, a7⟩ := hfind id l hl
              rcases hp.blocks id' l a1 with ⟨l0, h1, h2⟩ | h1
              . have hid' := hlt0 id' l0 h1
                by_cases hid : id < σ0.length
                . exact .inl ⟨l0, by rw [<- a6 hid]; exact h1, h2⟩
                . have := hge id' (List.mem_of_getElem? (a7 (by omega)))
                  omega
              . exact .inr h1
            . exact (renR_old id (by omega)).trans (hp.low id hid)
            . omega
            . rcases hp.fresh b o h1 h2 with h3 | ⟨id, l, m, h3, h4, h5, h6⟩
              . exact .inl h3
              . obtain ⟨m1, d1, d2, _⟩ := hkeep id m (hlt0 id l h3) h5
                exact .inr ⟨id, l, m1, h3, h4, d1, d2.trans h6⟩
            . have := (renStore_get (id := 0) hσ1).2
              rw [this]
              simp only [List.length_append, List.length_take]
              omega
            . obtain ⟨m', h1, h2⟩ := hp.ice id m hm hi
              obtain ⟨m1, d1, d2, _⟩ := hkeep id m' (List.getElem?_eq_some_iff.1 hm).1 h1
              exact ⟨m1, d1, d2.trans h2⟩
        . cases ht
      . cases ht
    . exact hsame
  . exact hsame
def markOf (D : Nat) : Deferred := { target := .collected D, args := #[] }
def Mk (B : Nat) (ρ : Ren) (w : World) (ds0 ds : List Deferred) : Prop :=
  ∃ ms : List Nat, ds = ms.map markOf ++ ds0 /\ ms.Nodup /\ ∀ D ∈ ms, B <= D /\ w.heap[D]? = some (.deferred (some [])) /\ ∀ id l, ρ id = some l -> l.block ≠ D
theorem Mk.refl (B : Nat) (ρ : Ren) (w : World) (ds : List Deferred) : Mk B ρ w ds ds := ⟨[], rfl, List.nodup_nil, fun D h => by cases h⟩
theorem Mk.of_eq {B : Nat} {ρ : Ren} {w : World} {ds ds' : List Deferred} (h : ds' = ds) : Mk B ρ w ds ds' := h ▸ .refl B ρ w ds
theorem Mk.trans {w1 w2 : World} {Γ1 Γ2 : Sealed} {ρ1 ρ2 : Ren} {σ1 σ2 : Store} {fl : Nat} {d0 d1 d2 : List Deferred} {B : Nat} (hB : B <= w1.heap.size) (h : Mk B ρ1 w1 d0 d1) (hp : Post fl Γ1 ρ1 σ1 w1 Γ2 ρ2 σ2 w2) (k : Mk w1.heap.size ρ2 w2 d1 d2) : Mk B ρ2 w2 d0 d2 := by
  obtain ⟨ms, e1, n1, h1⟩ := h
  obtain ⟨ks, e2, n2, h2⟩ := k
  have hlt : ∀ D ∈ ms, D < w1.heap.size := fun D hD => (Array.getElem?_eq_some_iff.1 (h1 D hD).2.1).1
  refine ⟨ks ++ ms, by rw [e2, e1, List.map_append, List.append_assoc], ?_, fun D hD => ?_⟩
  . rw [List.nodup_append]
    refine ⟨n2, n1, fun a ha b hb e => ?_⟩
    have := (h2 a ha).1
    have := hlt b hb
    omega
  . rcases List.mem_append.1 hD with hD | hD
    . exact ⟨Nat.le_trans hB (h2 D hD).1, (h2 D hD).2⟩
    . obtain ⟨k1, k2, k3⟩ := h1 D hD
      refine ⟨k1, (hp.frame D (hlt D hD) fun id l hl he => absurd he (k3 id l hl)).trans k2, fun id l hl => ?_⟩
      rcases hp.blocks id l hl with ⟨l0, h0, e0⟩ | h0
      . rw [<- e0]; exact k3 id l0 h0
      . have := hlt D hD; omega
theorem Mk.ren {B : Nat} {ρ ρ' : Ren} {w : World} {d0 d1 : List Deferred} (h : Mk B ρ w d0 d1) (hr : ∀ id l, ρ' id = some l -> ∃ id', ρ id' = some l) : Mk B ρ' w d0 d1 := by
  obtain ⟨ms, e1, n1, h1⟩ := h
  exact ⟨ms, e1, n1, fun D hD => ⟨(h1 D hD).1, (h1 D hD).2.1, fun id l hl => let ⟨id', h'⟩ := hr id l hl; (h1 D hD).2.2 id' l h'⟩⟩
theorem Rel.put (h : Rel E fl Γ ρ σ w) {D : Nat} {o : Obj} (o' : Obj) (hD : w.heap[D]? = some o) (ho : o.isCells = false) (hn : ∀ id l, ρ id = some l -> l.block ≠ D) : Rel E fl Γ ρ σ (w.putObj D o') := by
  have hc : ∀ b, (∃ (C : Array Value) (T : TypeId), w.heap[b]? = some (.cells C T (0, 0))) -> b ≠ D := by
    rintro b ⟨C, T, hb⟩ rfl
    rw [hD] at hb
    cases hb
    cases ho
  refine { h with fix := fun b o v hv => ?_, mem := fun id l hl => ?_, rock := ⟨fun b hb => ?_, h.rock.uniq⟩ }
  . have hv := h.fix b o v hv
    have hne : b ≠ D := by
      rintro rfl
      obtain ⟨o1, h1, h2⟩ := cells_of_cell hv
      rw [hD] at h1
      cases h1
      rw [ho] at h2; cases h2
    rw [<- hv]
    exact World.cell?_of_block (w := w) (World.putObj_heap_other hne)
  . obtain ⟨ob, h1, h2⟩ := h.mem id l hl
    exact ⟨ob, h1, h2.move (.refl _ _) (World.putObj_heap_other (hn id l hl))⟩
  . obtain ⟨h1, h2⟩ := h.rock.stay b hb
    have hne := hc b h1
    obtain ⟨C, T, h1⟩ := h1
    exact ⟨⟨C, T, (World.putObj_heap_other hne).trans h1⟩, h2⟩
theorem Post.put {Γ0 : Sealed} {ρ0 : Ren} {σ0 : Store} {w0 : World} (hp : Post fl Γ0 ρ0 σ0 w0 Γ ρ σ w) {D : Nat} (o' : Obj) (hD : w0.heap.size <= D) : Post fl Γ0 ρ0 σ0 w0 Γ ρ σ (w.putObj D o') :=
  { hp with
    frame := fun b hb hc => (World.putObj_heap_other (by omega)).trans (hp.frame b hb hc)
    size := by simpa using hp.size
    os := hp.os
    tape := hp.tape
    output := ⟨hp.output.out, hp.output.drawn⟩ }
theorem freeze_ok (h : Rel E fl Γ ρ σ w) {id : Nat} (hid : ∃ l, ρ id = some l) : ∃ Γ', Rel E fl Γ' ρ (freezeId σ id) w /\ Post fl Γ ρ σ w Γ' ρ (freezeId σ id) w := by
  obtain ⟨l, hl⟩ := hid
  unfold freezeId
  split
  . rename_i m hm
    obtain ⟨Γ', h1, h2, _⟩ := ice_ok h hl hm
    exact ⟨Γ', h1, h2⟩
  . exact ⟨Γ, h, .refl _ _ _ _ _⟩
theorem freezeAll_ok : ∀ (ids : List Nat) {Γ : Sealed} {σ : Store}, Rel E fl Γ ρ σ w -> (∀ id ∈ ids, ∃ l, ρ id = some l) -> ∃ Γ', Rel E fl Γ' ρ (ids.foldl freezeId σ) w /\ Post fl Γ ρ σ w Γ' ρ (ids.foldl freezeId σ) w
  | [], Γ, σ, h, _ => ⟨Γ, h, .refl _ _ _ _ _⟩
  | id :: ids, Γ, σ, h, hn => by
    obtain ⟨Γ1, h1, h2⟩ := freeze_ok h (hn id List.mem_cons_self)
    obtain ⟨Γ2, h3, h4⟩ := freezeAll_ok ids h1 fun j hj => hn j (List.mem_cons_of_mem _ hj)
    exact ⟨Γ2, h3, h2.trans h4⟩
theorem slotId_named {s : Slots} {a : Act} (hs : SlotsOk Γ ρ s a) {x : Operand} {id : Nat} (h : id ∈ slotId s x) : ∃ l, ρ id = some l := by
  cases x with
  | tmp t =>
    unfold slotId at h
    dsimp only at h
    cases ht : s[t]? with
    | none => rw [ht] at h; cases h
    | some o =>
      cases o with
      | none => rw [ht] at h; cases h
      | some v =>
        rw [ht] at h
        cases v with
        | osl j b co es len xc =>
          simp only [List.mem_singleton] at h
          subst h
          obtain ⟨u, _, hr⟩ := hs.2 t _ ht
          cases hr with
          | osl l _ h1 => exact ⟨l, h1⟩
          | oslOld l h1 => exact ⟨l, h1⟩
        | _ => cases h
  | _ => cases h
theorem preIds_named {ops : List Oper} {s : Slots} {a : Act} (hs : SlotsOk Γ ρ s a) : ∀ id ∈ preIds E ops s, ∃ l, ρ id = some l := by
  intro id h
  unfold preIds at h
  cases hc : ops.all (calmOp E) with
  | false => rw [hc] at h; cases h
  | true =>
    rw [hc, cond_true] at h
    obtain ⟨o, _, h⟩ := List.mem_flatMap.1 h
    unfold preOp at h
    split at h
    . split at h
      . rename_i c _ g _
        cases hg : E.apart g && !E.seals g with
        | false => rw [hg] at h; cases h
        | true =>
          rw [hg, cond_true] at h
          obtain ⟨x, _, h⟩ := List.mem_flatMap.1 h
          unfold preArg at h
          split at h
          . split at h
            . exact slotId_named hs h
            . exact slotId_named hs h
          . cases h
      . cases h
    . cases h
def SoundSc (E : Env) (fl : Nat) (sc : Code -> Slots -> Store -> Option (Out × Slots × Store)) : Prop :=
  ∀ (body : Code) {s s' : Slots} {σ σ' : Store} {out : Out} {Γ : Sealed} {ρ : Ren} {a : Act} {w : World} {Q : Exit -> Act -> World -> Prop},
    sc body s σ = some (out, s', σ') -> Rel E fl Γ ρ σ w -> fl <= σ.length -> SlotsOk Γ ρ s a ->
    (∀ a' w' Γ' ρ', SlotsOk Γ' ρ' s' a' -> Mk w.heap.size ρ' w' a.defers a'.defers -> Rel E fl Γ' ρ' σ' w' -> Post fl Γ ρ σ w Γ' ρ' σ' w' -> Q (exitOf out) a' w') -> (Code.scope body).wp E.P Q a w
def ScopeAt (P : Program) (body c : Code) (Q : Exit -> Act -> World -> Prop) (a : Act) (w : World) : Prop :=
  ∀ (b : Frame) (k : List Item) (cs : List Frame), ∃ e a' w', Q e a' w' /\ Arrives P (lone (b.at a (.code c :: .inScope body :: k)) cs w) b k cs e a' w'
def inScopeQ (P : Program) (body : Code) (Q : Exit -> Act -> World -> Prop) : Exit -> Act -> World -> Prop
  | .goto l, a, w => match findLabel body l with
    | some rest => ScopeAt P body rest Q a w
    | none => Q (.goto l) a w
  | e, a, w => Q e a w
theorem scopeAt_of_wp {P : Program} {body c : Code} {Q : Exit -> Act -> World -> Prop} {a : Act} {w : World} (h : c.wp P (inScopeQ P body Q) a w) : ScopeAt P body c Q a w := by
  intro b k cs
  obtain ⟨e, a₁, w₁, hq, harr⟩ := h b (.inScope body :: k) cs
  cases e with
  | normal => exact ⟨.normal, a₁, w₁, hq, Steps.trans harr (.one step_inScope)⟩
  | exit id => exact ⟨.exit id, a₁, w₁, hq, fun k' hk => harr k' (by simp [exitTo, hk])⟩
  | goto l =>
    simp only [inScopeQ] at hq
    split at hq
    . rename_i rest hf
      obtain ⟨e₂, a₂, w₂, hq₂, harr₂⟩ := hq b k cs
      exact ⟨e₂, a₂, w₂, hq₂, .of_steps (harr _ (by simp [gotoIn, hf])) harr₂⟩
    . rename_i hf
      exact ⟨.goto l, a₁, w₁, hq, fun k' hk => harr k' (by simp [gotoIn, hf, hk])⟩
  | ret => exact ⟨_, a₁, w₁, hq, harr⟩
  | panic ch => exact ⟨_, a₁, w₁, hq, harr⟩
  | outgrown => exact ⟨_, a₁, w₁, hq, harr⟩
theorem wp_of_scopeAt {P : Program} {body : Code} {Q : Exit -> Act -> World -> Prop} {a : Act} {w : World} (h : ScopeAt P body body Q a w) : (Code.scope body).wp P Q a w := by
  intro b k cs
  obtain ⟨e, a₁, w₁, hq, harr⟩ := h b k cs
  exact ⟨e, a₁, w₁, hq, .of_steps (.one step_scope) harr⟩
theorem rangeF_ok (hE : E.Ok) {rec : Rec} (hrec : SoundRec E rec) {f : Operand} {ps : Array Tmp} {asg body : Code} {s : Slots} {σ σ' : Store} {Γ : Sealed} {ρ : Ren} {a : Act} {w : World} {Q : Exit -> Act -> World -> Prop}
    (h : rangeFA E rec fl s σ f = some σ') (hR : Rel E fl Γ ρ σ w) (hfl : fl <= σ.length) (hs : SlotsOk Γ ρ s a)
    (hQ : ∀ a' w' Γ' ρ', SlotsOk Γ' ρ' s a' -> Mk w.heap.size ρ' w' a.defers a'.defers -> Rel E fl Γ' ρ' σ' w' -> Post fl Γ ρ σ w Γ' ρ' σ' w' -> Q .normal a' w') : (Code.rangeFunc f ps asg body).wp E.P Q a w := by
  unfold rangeFA at h
  split at h
  . rename_i g ys hf
    split at h
    . rename_i fn hx hfn
      split at h
      . cases h
      . rename_i hn
        simp only [Option.map_eq_some_iff] at h
        obtain ⟨⟨v, σ1⟩, hc, rfl⟩ := h
        have hv := hs.env f _ hf
        generalize hg : a.eval f = vf at hv
        cases hv with
        | @fn _ xs ys vs us hn1 hm1 h1 h2 =>
          have hvs : vs = #[] := Array.eq_empty_of_size_eq_zero (by simpa using hn1)
          subst hvs
          refine wpIn_wide.1 (wpIn_rangeFunc (F := Fence.wide) (n := 0) fun fn0 _ => ?_)
          obtain ⟨rc, hrc⟩ : ∃ rc : LoopState -> Loop, rc = fun st => { state := st, pending := none, fn := fn0, tmps := a.tmps, params := ps, assign := asg, body := body, defers := w.heap.size } := ⟨_, rfl⟩
          obtain ⟨W1, hW1⟩ : ∃ W1, (w.alloc (.deferred (some []))).alloc (.loop (rc .ready)) = W1 := ⟨_, rfl⟩
          have hL1 : W1.heap[w.heap.size + 1]? = some (.loop (rc .ready)) := by
            rw [<- hW1]; have := World.alloc_heap_new (w.alloc (.deferred (some []))) (.loop (rc .ready)); rwa [World.size_alloc] at this
          have hK1 : W1.heap[w.heap.size]? = some (.deferred (some [])) := by
            rw [<- hW1]; exact (Go.RowKit.Below.heap_alloc _ _ _ (by simp)).trans (World.alloc_heap_new w _)
          have hB : Go.RowKit.Below w.heap.size w W1 := by
            rw [<- hW1]; exact ((Go.RowKit.Below.refl _ w).alloc (Nat.le_refl _) _).alloc (by simp) _
          have hR1 : Rel E fl Γ ρ σ W1 := hR.world hB.block
          have hP1 : Post fl Γ ρ σ w Γ ρ σ W1 := { Post.refl fl Γ ρ σ w with frame := fun b hb _ => hB.block b hb, size := hB.size, os := hB.os, tape := hB.tape, output := ⟨hB.output, fun _ => by rw [<- hW1]; exact Nat.le_refl _⟩ }
          have hargs : Reps Γ ρ (.yld :: ys) (Value.func (.yield (w.heap.size + 1)) #[] #[] :: us.toList) := Reps.cons (.yld _) ⟨by simpa using hm1, fun j x v hx hv => h2 j x v hx (by simpa using hv)⟩
          have hcall := hrec g _ σ fl v σ1 hc hfl Γ ρ W1 _ hR1 hargs
          have hn' : (fn.name == "runtime.NumGoroutine" || fn.body.isNone) = false := by rw [<- Bool.not_eq_true]; exact hn
          refine ⟨w.heap.size + 1, [markOf w.heap.size], W1, { target := .fn (.func g) us, args := #[.func (.yield (w.heap.size + 1)) #[] #[]] }, W1, g, #[.func (.yield (w.heap.size + 1)) #[] #[]] ++ us, W1, ?_, ?_, ?_, ?_, ?_, ?_⟩
          . rw [<- hW1, hrc]; exact run_enterLoop_outer _ _ _ _ _
          . simp only [resolve, hg]
            simp [go_sem]
          . intro f' hf'; trivial
          . have := run_callFunc_enter hfn hn' (#[.func (.yield (w.heap.size + 1)) #[] #[]] ++ us) W1
            simp [invoke, go_sem, this]
          . intro h; cases h
          . refine callsIn_wide.2 ?_
            have e : (Value.func (.yield (w.heap.size + 1)) #[] #[] :: us.toList).toArray = #[.func (.yield (w.heap.size + 1)) #[] #[]] ++ us := by
              apply Array.ext'; simp
            rw [<- e]
            refine hcall.mono ?_
            rintro e W2 ⟨r, rfl, Γ2, ρ2, _, hR2, hP2⟩
            have hno : ∀ (b : Nat), w.heap.size <= b -> b < W1.heap.size -> ∀ id l, ρ2 id = some l -> l.block ≠ b := by
              intro b hb hb1 id l hl
              rcases hP2.blocks id l hl with ⟨l0, h0, e0⟩ | h0
              . have := hR.block_lt h0; omega
              . omega
            have hsame : ∀ (b : Nat), w.heap.size <= b -> b < W1.heap.size -> W2.heap[b]? = W1.heap[b]? := fun b hb hb1 => hP2.frame b hb1 fun id l hl he => by
              have := hR.block_lt hl; omega
            have lt1 : w.heap.size + 1 < W1.heap.size := (Array.getElem?_eq_some_iff.1 hL1).1
            have hL2 := (hsame (w.heap.size + 1) (by omega) lt1).trans hL1
            have hK2 := (hsame w.heap.size (by omega) (by omega)).trans hK1
            have hend := run_endLoop (P := E.P) hL2 (by rw [hrc]; simp)
            rw [hrc] at hend
            refine ⟨none, _, hend, hQ _ _ Γ2 ρ2 ?_ ?_ (hR2.put _ hL2 rfl (hno _ (by omega) lt1)) ((hP1.trans hP2).put _ (by omega))⟩
            . exact ⟨hs.1, fun t y hy => let ⟨u, h1, h2⟩ := hs.2 t y hy; ⟨u, h1, h2.mono hP2.le⟩⟩
            . exact ⟨[w.heap.size], rfl, by simp, fun D hD => by
                simp only [List.mem_singleton] at hD
                subst hD
                exact ⟨Nat.le_refl _, (World.putObj_heap_other (by omega)).trans hK2, hno _ (Nat.le_refl _) (by omega)⟩⟩
    . cases h
  . cases h
theorem codeL_ok (hE : E.Ok) {rec : Rec} (hrec : SoundRec E rec) {sc : Code -> Slots -> Store -> Option (Out × Slots × Store)} (hsc : SoundSc E fl sc) (n : Nat) : ∀ (c : Code) {s s' : Slots} {σ σ' : Store} {out : Out} {Γ : Sealed} {ρ : Ren} {a : Act} {w : World} {Q : Exit -> Act -> World -> Prop},
    codeL E rec sc fl n c s σ = some (out, s', σ') -> Rel E fl Γ ρ σ w -> fl <= σ.length -> SlotsOk Γ ρ s a ->
    (∀ a' w' Γ' ρ', SlotsOk Γ' ρ' s' a' -> Mk w.heap.size ρ' w' a.defers a'.defers -> Rel E fl Γ' ρ' σ' w' -> Post fl Γ ρ σ w Γ' ρ' σ' w' -> Q (exitOf out) a' w') -> c.wp E.P Q a w := by
  intro c
  induction c with
  | skip =>
    intro s s' σ σ' out Γ ρ a w Q h hR hfl hs hQ
    simp only [codeL, Option.some.injEq, Prod.mk.injEq] at h
    obtain ⟨rfl, rfl, rfl⟩ := h
    exact wp_skip (hQ a w Γ ρ hs (.refl _ _ _ _) hR (.refl _ _ _ _ _))
  | region id ops d =>
    intro s s' σ σ' out Γ ρ a w Q h hR hfl hs hQ
    cases d with
    | false =>
      simp only [codeL] at h
      cases ho : opsA E rec fl ops (noTight ops) ops.toList 0 s σ with
      | none => simp [ho] at h
      | some r =>
        obtain ⟨s1, σ1⟩ := r
        simp [ho] at h
        obtain ⟨rfl, rfl, rfl⟩ := h
        refine wp_region ?_
        have := opsA_ok hE hrec (Q := Q) ops.toList 0 ho (fun j hj => by simp [noTight, List.getElem?_replicate, hj]) (by simp) hR hfl hs fun a' w' Γ' ρ' k1 k2 k3 k4 => hQ a' w' Γ' ρ' k1 (.of_eq k2) k3 k4
        simpa [List.range_eq_range'] using this
    | true =>
      simp only [codeL] at h
      split at h
      . rename_i hp
        cases ho : opsD E rec fl ops (masks ops) (tightOf ops (masks ops)) ops.toList 0 [] s (preF E ops s σ) with
        | none => simp [ho] at h
        | some r =>
          obtain ⟨s1, σ1⟩ := r
          simp [ho] at h
          obtain ⟨rfl, rfl, rfl⟩ := h
          obtain ⟨Γ0, p1, p2⟩ := freezeAll_ok (preIds E ops.toList s) hR (preIds_named hs)
          exact draw_ok hE hrec hp ho p1 (Nat.le_trans hfl p2.len) (hs.mono p2.le) fun a' w' Γ' ρ' k1 k2 k3 k4 => hQ a' w' Γ' ρ' k1 (.of_eq k2) k3 (p2.trans k4)
      . cases h
  | seq x y ihx ihy =>
    intro s s' σ σ' out Γ ρ a w Q h hR hfl hs hQ
    simp only [codeL] at h
    refine wp_seq ?_
    split at h
    . rename_i s1 σ1 hx
      refine ihx hx hR hfl hs fun a1 w1 Γ1 ρ1 k1 k2 k3 k4 => ?_
      refine ihy h k3 (Nat.le_trans hfl k4.len) k1 fun a2 w2 Γ2 ρ2 m1 m2 m3 m4 => ?_
      exact hQ a2 w2 Γ2 ρ2 m1 (Mk.trans k4.size k2 m4 m2) m3 (k4.trans m4)
    . rename_i hno
      refine ihx h hR hfl hs fun a1 w1 Γ1 ρ1 k1 k2 k3 k4 => ?_
      have := hQ a1 w1 Γ1 ρ1 k1 k2 k3 k4
      cases out with
      | norm => exact (hno s' σ' h).elim
      | exit id => exact this
      | ret => exact this
      | goto l => exact this
  | cond c x y ihx ihy =>
    intro s s' σ σ' out Γ ρ a w Q h hR hfl hs hQ
    simp only [codeL] at h
    split at h
    . rename_i hc
      have hv := hs.env c _ hc
      generalize hg : a.eval c = vc at hv
      cases hv
      exact wp_cond_true hg (ihx h hR hfl hs hQ)
    . rename_i hc
      have hv := hs.env c _ hc
      generalize hg : a.eval c = vc at hv
      cases hv
      exact wp_cond_false hg (ihy h hR hfl hs hQ)
    . cases h
  | block id body ih =>
    intro s s' σ σ' out Γ ρ a w Q h hR hfl hs hQ
    simp only [codeL] at h
    refine wp_block ?_
    split at h
    . rename_i j s1 σ1 hb
      split at h
      . rename_i hj
        cases h
        refine ih hb hR hfl hs fun a1 w1 Γ1 ρ1 k1 k2 k3 k4 => ?_
        have := hQ a1 w1 Γ1 ρ1 k1 k2 k3 k4
        simp only [exitOf, Exit.inBlock, hj, if_true]
        exact this
      . rename_i hj
        cases h
        refine ih hb hR hfl hs fun a1 w1 Γ1 ρ1 k1 k2 k3 k4 => ?_
        have := hQ a1 w1 Γ1 ρ1 k1 k2 k3 k4
        simp only [exitOf, Exit.inBlock, hj, if_false]
        exact this
    . rename_i hno
      refine ih h hR hfl hs fun a1 w1 Γ1 ρ1 k1 k2 k3 k4 => ?_
      have := hQ a1 w1 Γ1 ρ1 k1 k2 k3 k4
      cases out with
      | norm => exact this
      | exit j => exact absurd h (hno j s' σ')
      | ret => exact this
      | goto l => exact this
  | loop body ih =>
    intro s s' σ σ' out Γ ρ a w Q h hR hfl hs hQ
    simp only [codeL] at h
    refine wp_loop_fuel (fun m a1 w1 => ∃ s1 σ1 Γ1 ρ1, iterA E fl (patOf s) σ.length (codeL E rec sc fl n body) m s1 σ1 = some (out, s', σ') /\ SlotsOk Γ1 ρ1 s1 a1 /\ Mk w.heap.size ρ1 w1 a.defers a1.defers /\ Rel E fl Γ1 ρ1 σ1 w1 /\ Post fl Γ ρ σ w Γ1 ρ1 σ1 w1) (n := n)
      ⟨s, σ, Γ, ρ, h, hs, .refl _ _ _ _, hR, .refl _ _ _ _ _⟩ fun m a1 w1 hI => ?_
    obtain ⟨s1, σ1, Γ1, ρ1, i1, i2, i3, i4, i5⟩ := hI
    cases m with
    | zero => simp [iterA] at i1
    | succ m =>
      simp only [iterA] at i1
      split at i1
      . rename_i s2 σ2 hb
        refine ih hb i4 (Nat.le_trans hfl i5.len) i2 fun a2 w2 Γ2 ρ2 k1 k2 k3 k4 => ?_
        obtain ⟨ρ3, m1, m2, m3, m4⟩ := trim_ok hE hR (i5.trans k4) hfl k3 k1 (patOf s)
        exact ⟨m, Nat.lt_succ_self m, _, _, Γ2, ρ3, i1, m1, (Mk.trans i5.size i3 k4 k2).ren m4, m2, m3⟩
      . rename_i r hno
        refine ih i1 i4 (Nat.le_trans hfl i5.len) i2 fun a2 w2 Γ2 ρ2 k1 k2 k3 k4 => ?_
        have := hQ a2 w2 Γ2 ρ2 k1 (Mk.trans i5.size i3 k4 k2) k3 (i5.trans k4)
        cases out with
        | norm => exact absurd i1 (hno s' σ')
        | exit id => exact this
        | ret => exact this
        | goto l => exact this
  | exit id =>
    intro s s' σ σ' out Γ ρ a w Q h hR hfl hs hQ
    simp only [codeL, Option.some.injEq, Prod.mk.injEq] at h
    obtain ⟨rfl, rfl, rfl⟩ := h
    exact wp_exit (hQ a w Γ ρ hs (.refl _ _ _ _) hR (.refl _ _ _ _ _))
  | ret =>
    intro s s' σ σ' out Γ ρ a w Q h hR hfl hs hQ
    simp only [codeL, Option.some.injEq, Prod.mk.injEq] at h
    obtain ⟨rfl, rfl, rfl⟩ := h
    exact wp_ret (hQ a w Γ ρ hs (.refl _ _ _ _) hR (.refl _ _ _ _ _))
  | scope body ih =>
    intro s s' σ σ' out Γ ρ a w Q h hR hfl hs hQ
    exact hsc body h hR hfl hs hQ
  | rangeFunc f ps asg body iha ihb =>
    intro s s' σ σ' out Γ ρ a w Q h hR hfl hs hQ
    simp only [codeL, Option.map_eq_some_iff] at h
    obtain ⟨σ1, h, e⟩ := h
    simp only [Prod.mk.injEq] at e
    obtain ⟨rfl, rfl, rfl⟩ := e
    exact rangeF_ok hE hrec h hR hfl hs fun a' w' Γ' ρ' k1 k2 k3 k4 => hQ a' w' Γ' ρ' k1 k2 k3 k4
  | label l =>
    intro s s' σ σ' out Γ ρ a w Q h hR hfl hs hQ
    simp only [codeL, Option.some.injEq, Prod.mk.injEq] at h
    obtain ⟨rfl, rfl, rfl⟩ := h
    exact wp_label (hQ a w Γ ρ hs (.refl _ _ _ _) hR (.refl _ _ _ _ _))
  | goto l =>
    intro s s' σ σ' out Γ ρ a w Q h hR hfl hs hQ
    simp only [codeL, Option.some.injEq, Prod.mk.injEq] at h
    obtain ⟨rfl, rfl, rfl⟩ := h
    exact wp_goto (hQ a w Γ ρ hs (.refl _ _ _ _) hR (.refl _ _ _ _ _))
  | _ =>
    intro s s' σ σ' out Γ ρ a w Q h hR hfl hs hQ
    simp [codeL] at h
theorem scopeIter_ok {run : Code -> Slots -> Store -> Option (Out × Slots × Store)} {body : Code}
    (hrun : ∀ (c : Code) {s s' : Slots} {σ σ' : Store} {out : Out} {Γ : Sealed} {ρ : Ren} {a : Act} {w : World} {Q : Exit -> Act -> World -> Prop},
      run c s σ = some (out, s', σ') -> Rel E fl Γ ρ σ w -> fl <= σ.length -> SlotsOk Γ ρ s a ->
      (∀ a' w' Γ' ρ', SlotsOk Γ' ρ' s' a' -> Mk w.heap.size ρ' w' a.defers a'.defers -> Rel E fl Γ' ρ' σ' w' -> Post fl Γ ρ σ w Γ' ρ' σ' w' -> Q (exitOf out) a' w') -> c.wp E.P Q a w) :
    ∀ (j : Nat) (c : Code) {s s' : Slots} {σ σ' : Store} {out : Out} {Γ : Sealed} {ρ : Ren} {a : Act} {w : World} {Q : Exit -> Act -> World -> Prop},
      scopeIter run body j c s σ = some (out, s', σ') -> Rel E fl Γ ρ σ w -> fl <= σ.length -> SlotsOk Γ ρ s a ->
      (∀ a' w' Γ' ρ', SlotsOk Γ' ρ' s' a' -> Mk w.heap.size ρ' w' a.defers a'.defers -> Rel E fl Γ' ρ' σ' w' -> Post fl Γ ρ σ w Γ' ρ' σ' w' -> Q (exitOf out) a' w') -> ScopeAt E.P body c Q a w
  | 0, c, s, s', σ, σ', out, Γ, ρ, a, w, Q, h, hR, hfl, hs, hQ => by cases h
  | j + 1, c, s, s', σ, σ', out, Γ, ρ, a, w, Q, h, hR, hfl, hs, hQ => by
    unfold scopeIter at h
    refine scopeAt_of_wp ?_
    split at h
    . rename_i l s1 σ1 h1
      refine hrun c h1 hR hfl hs fun a1 w1 Γ1 ρ1 k1 k2 k3 k4 => ?_
      simp only [exitOf, inScopeQ]
      split at h
      . rename_i rest hf
        simp only [hf]
        exact scopeIter_ok hrun j rest h k3 (Nat.le_trans hfl k4.len) k1 fun a2 w2 Γ2 ρ2 m1 m2 m3 m4 => hQ a2 w2 Γ2 ρ2 m1 (Mk.trans k4.size k2 m4 m2) m3 (k4.trans m4)
      . rename_i hf
        simp only [hf]
        cases h
        exact hQ a1 w1 Γ1 ρ1 k1 k2 k3 k4
    . rename_i hno
      refine hrun c h hR hfl hs fun a1 w1 Γ1 ρ1 k1 k2 k3 k4 => ?_
      have := hQ a1 w1 Γ1 ρ1 k1 k2 k3 k4
      cases out with
      | norm => exact this
      | exit id => exact this
      | ret => exact this
      | goto l => exact absurd h (hno l s' σ')
theorem scopeN_ok (hE : E.Ok) {rec : Rec} (hrec : SoundRec E rec) (n : Nat) : ∀ d, SoundSc E fl (scopeN E rec fl n d)
  | 0 => fun body s s' σ σ' out Γ ρ a w Q h hR hfl hs hQ => by cases h
  | d + 1 => fun body s s' σ σ' out Γ ρ a w Q h hR hfl hs hQ =>
    wp_of_scopeAt (scopeIter_ok (fun c => codeL_ok hE hrec (scopeN_ok hE hrec n d) n c) 50 body h hR hfl hs hQ)
theorem codeA_ok (hE : E.Ok) {rec : Rec} (hrec : SoundRec E rec) (n : Nat) (c : Code) {s s' : Slots} {σ σ' : Store} {out : Out} {Γ : Sealed} {ρ : Ren} {a : Act} {w : World} {Q : Exit -> Act -> World -> Prop}
    (h : codeA E rec fl n c s σ = some (out, s', σ')) (hR : Rel E fl Γ ρ σ w) (hfl : fl <= σ.length) (hs : SlotsOk Γ ρ s a)
    (hQ : ∀ a' w' Γ' ρ', SlotsOk Γ' ρ' s' a' -> Mk w.heap.size ρ' w' a.defers a'.defers -> Rel E fl Γ' ρ' σ' w' -> Post fl Γ ρ σ w Γ' ρ' σ' w' -> Q (exitOf out) a' w') : c.wp E.P Q a w :=
  codeL_ok hE hrec (scopeN_ok hE hrec n 3) n c h hR hfl hs hQ
theorem mapM_ok {P : Program} {f : ResultVar -> Sem Value} {g : ResultVar -> Option PV} {w : World} (hf : ∀ r p, g r = some p -> ∃ v, (f r).run P w = .ok v w /\ Rep Γ ρ p v) (E' : Env) (s : Slots) (σ : Store)
    (hg : ∀ r, resultA E' s σ r = g r) : ∀ (l : List ResultVar) (ps : List PV), resultsA E' s σ l = some ps -> ∃ vs, (l.mapM f).run P w = .ok vs w /\ Reps Γ ρ ps vs
  | [], ps, h => by cases h; exact ⟨[], by simp, .nil⟩
  | r :: l, ps, h => by
    unfold resultsA at h
    split at h
    . rename_i p ps' hp hps
      cases h
      rw [hg] at hp
      obtain ⟨v, h1, h2⟩ := hf r p hp
      obtain ⟨vs, h3, h4⟩ := mapM_ok hf E' s σ hg l ps' hps
      exact ⟨v :: vs, by simp [List.mapM_cons, h1, h3], .cons h2 h4⟩
    . cases h
theorem endA_ok (hR : Rel E fl Γ ρ σ w) {fn : Func} {s : Slots} {a : Act} {p : PV} {σ' : Store} (hs : SlotsOk Γ ρ s a) (h : endA E fn s σ = some (p, σ')) :
    σ' = σ /\ ∃ v, (results fn a.tmps).run E.P w = .ok v w /\ Rep Γ ρ p v := by
  have key : ∀ ps, resultsA E s σ fn.results.toList = some ps -> ∃ vs : Array Value, (results fn a.tmps).run E.P w = .ok (if h : vs.size = 1 then vs[0] else .tuple vs) w /\ Reps Γ ρ ps vs.toList := by
    intro ps hps
    have hh : ∀ F : ResultVar -> Sem Value, (∀ r p, resultA E s σ r = some p -> ∃ v, (F r).run E.P w = .ok v w /\ Rep Γ ρ p v) ->
        ∃ vs : Array Value, (fn.results.mapM F >>= fun vs => (pure (if h : vs.size = 1 then vs[0] else .tuple vs) : Sem Value)).run E.P w = .ok (if h : vs.size = 1 then vs[0] else .tuple vs) w /\ Reps Γ ρ ps vs.toList := by
      intro F hF
      obtain ⟨vs, h1, h2⟩ := mapM_ok (P := E.P) hF E s σ (fun _ => rfl) fn.results.toList ps hps
      refine ⟨vs.toArray, ?_, by simpa using h2⟩
      rw [Array.mapM_eq_mapM_toList, Sem.run_bind, Sem.run_map, h1]
      simp
    unfold results
    refine hh _ ?_
    . intro r p hp
      cases r with
      | tmp t =>
        simp only [resultA] at hp
        split at hp
        . rename_i v hv
          cases hp
          obtain ⟨u, h1, h2⟩ := hs.2 t _ hv
          exact ⟨u, by simp [h1], h2⟩
        . cases hp
      | cell b t =>
        simp only [resultA] at hp
        split at hp
        . rename_i q hq
          obtain ⟨u, h1, h2⟩ := hs.2 b _ hq
          obtain ⟨r, k1, ⟨ad, e1, e2⟩, _⟩ := loadAt_ok hR hp h2
          subst e1
          exact ⟨r, by simp [h1, asAddr, e2], k1⟩
        . cases hp
  unfold endA at h
  split at h
  . rename_i v hv
    cases h
    obtain ⟨vs, h1, h2⟩ := key _ hv
    refine ⟨rfl, ?_⟩
    obtain ⟨u, us, e, h3, h4⟩ := h2.inv_cons
    have := h4.inv_nil
    subst this
    obtain ⟨l⟩ := vs
    simp at e
    subst e
    exact ⟨u, by simpa using h1, h3⟩
  . rename_i vs0 hno hv
    cases h
    obtain ⟨vs, h1, h2⟩ := key _ hv
    have hne : vs.size ≠ 1 := fun e => by
      have := h2.1
      simp [e] at this
      match vs0, this with
      | [x], _ => exact hno x rfl
    rw [dif_neg hne] at h1
    exact ⟨rfl, .tuple vs, h1, .tup (by simpa using h2.1) (fun j x v hx hv => h2.2 j x v hx (by simpa using hv))⟩
  . cases h
theorem enterA_ok (hE : E.Ok) {rec : Rec} (hrec : SoundRec E rec) (n : Nat) : SoundRec E (enterA E rec n) := by
  intro f args σ fl p σ' h hfl Γ ρ w vs hR hr
  unfold enterA at h
  split at h
  . rename_i fn hfn
    split at h
    . rename_i c hc
      split at h
      . rename_i hb
        have hlen : vs.length = args.length := hr.1
        refine callsIn_wide.1 (callsIn_of_wp_marks (F := Fence.wide) (n := 0) hfn hc trivial (wpIn_wide.2 ?_) rfl)
        have hs : SlotsOk Γ ρ (args.map some ++ List.replicate (fn.ntmps - args.length) none) { tmps := vs.toArray ++ Array.replicate (fn.ntmps - vs.toArray.size) undef, defers := [] } := by
          refine ⟨by simp [hlen], fun t v ht => ?_⟩
          by_cases hlt : t < args.length
          . rw [List.getElem?_append_left (by simpa using hlt)] at ht
            simp only [List.getElem?_map, Option.map_eq_some_iff, Option.some.injEq] at ht
            obtain ⟨x, hx, rfl⟩ := ht
            obtain ⟨u, hu, hxu⟩ := hr.at hx
            refine ⟨u, ?_, hxu⟩
            rw [Array.getElem?_append_left (by simp; omega)]
            simpa using hu
          . rw [List.getElem?_append_right (by simp; omega)] at ht
            rw [List.getElem?_replicate] at ht
            split at ht <;> simp at ht
        have hpost : ∀ (s1 : Slots) (σ1 : Store) (out : Out), codeA E rec fl n c (args.map some ++ List.replicate (fn.ntmps - args.length) none) σ = some (out, s1, σ1) -> endA E fn s1 σ1 = some (p, σ') -> (out = .norm ∨ out = .ret) ->
            c.wp E.P (bodyPostM Fence.wide 0 E.P fn fun e w' => ∃ r, e = .returned r /\ Moves E fl Γ ρ σ w p σ' r w') { tmps := vs.toArray ++ Array.replicate (fn.ntmps - vs.toArray.size) undef, defers := [] } w := by
          intro s1 σ1 out hcode hend hout
          refine codeA_ok hE hrec n c hcode hR hfl hs fun a' w' Γ' ρ' k1 k2 k3 k4 => ?_
          obtain ⟨ms, em, nm, hm⟩ := k2
          have key : ∀ (ms : List Nat) (w2 : World), ms.Nodup -> (∀ D ∈ ms, w.heap.size <= D /\ w2.heap[D]? = some (.deferred (some [])) /\ ∀ id l, ρ' id = some l -> l.block ≠ D) -> Rel E fl Γ' ρ' σ1 w2 -> Post fl Γ ρ σ w Γ' ρ' σ1 w2 ->
              LeavesInM Fence.wide 0 E.P fn a'.tmps (fun e w' => ∃ r, e = .returned r /\ Moves E fl Γ ρ σ w p σ' r w') (ms.map markOf) .returning w2 := by
            intro ms
            induction ms with
            | nil =>
              intro w2 _ _ hR2 hP2
              obtain ⟨rfl, v, e1, e2⟩ := endA_ok hR2 k1 hend
              exact ⟨v, e1, v, rfl, Γ', ρ', e2, hR2, hP2⟩
            | cons D ms ih =>
              intro w2 hnd hms hR2 hP2
              obtain ⟨d1, d2, d3⟩ := hms D (by simp)
              rw [List.nodup_cons] at hnd
              refine ⟨by simp, .inl ⟨D, _, rfl, run_takeDeferred d2, ih _ hnd.2 (fun D' hD' => ?_) (hR2.put _ d2 rfl d3) (hP2.put _ d1)⟩⟩
              obtain ⟨q1, q2, q3⟩ := hms D' (by simp [hD'])
              exact ⟨q1, (World.putObj_heap_other (fun e : D' = D => hnd.1 (by rw [<- e]; exact hD'))).trans q2, q3⟩
          have this0 := key ms w' nm hm k3 k4
          simp only [List.append_nil] at em
          rw [<- em] at this0
          have : bodyPostM Fence.wide 0 E.P fn (fun e w' => ∃ r, e = .returned r /\ Moves E fl Γ ρ σ w p σ' r w') .normal a' w' := this0
          rcases hout with rfl | rfl
          . exact this
          . exact this
        split at h
        . rename_i s1 σ1 hcode
          exact hpost s1 σ1 .norm hcode h (.inl rfl)
        . rename_i s1 σ1 hcode
          exact hpost s1 σ1 .ret hcode h (.inr rfl)
        . cases h
      . cases h
    . cases h
  . cases h
theorem primR_ok (hE : E.Ok) {rec : Rec} (hrec : SoundRec E rec) : SoundRec E (primR E rec) := by
  intro f args σ fl p σ' h hfl Γ ρ w vs hR hr
  unfold primR at h
  split at h
  . rename_i c v σ1 hp
    cases c with
    | true =>
      cases h
      exact hE.prim f args σ fl _ _ hp hfl Γ ρ w vs hR hr
    | false => cases h
  . exact hrec f args σ fl p σ' h hfl Γ ρ w vs hR hr
theorem runA_ok (hE : E.Ok) (n : Nat) : ∀ k, SoundRec E (runA E n k)
  | 0 => fun f args σ fl p σ' h => by cases h
  | k + 1 => primR_ok hE (enterA_ok hE (runA_ok hE n k) n)
end
end Go.Proofs.YtaofbpldflcjmaaDoor.Am
