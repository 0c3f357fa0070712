/- Maps: made, looked up, turned, gone through (where no order is drawn): the machine does what the interpreter does. -/
import Derived.Test.YtpbemfikhmeedaaGreatDoorMBM
import Derived.MapKept
set_option linter.unusedVariables false
set_option linter.unusedSimpArgs false
namespace Go.Proofs.YtpbemfikhmeedaaGreatDoor.Am
section
variable {E : Env} {fl : Nat} {Γ : Sealed} {ρ : Ren} {σ : Store} {w : World}
theorem newMap_ok (h : Rel E fl Γ ρ σ w) (hfl : fl <= σ.length) {o : Obj} {m : MapO} (hk : ∀ ρ', Le Γ ρ Γ ρ' -> MapOk Γ ρ' (w.alloc o) ⟨w.heap.size, 0, 0, 0⟩ m) :
    ∃ ρ', Rel E fl Γ ρ' (σ ++ [.map m]) (w.alloc o) /\ Post fl Γ ρ σ w Γ ρ' (σ ++ [.map m]) (w.alloc o) /\ ρ' σ.length = some ⟨w.heap.size, 0, 0, 0⟩ := by
  have hs := Same.alloc w o
  have hh := heap_alloc_lt w o
  have hnone : ρ σ.length = none := by
    cases hc : ρ σ.length with
    | none => rfl
    | some l => exact absurd (h.id_lt hc) (Nat.lt_irrefl _)
  refine ⟨fun j => if j = σ.length then some ⟨w.heap.size, 0, 0, 0⟩ else ρ j, ?_⟩
  generalize hρ : (fun j => if j = σ.length then some ⟨w.heap.size, 0, 0, 0⟩ else ρ j : Ren) = ρ'
  have r1 : ρ' σ.length = some ⟨w.heap.size, 0, 0, 0⟩ := by subst hρ; simp
  have r2 : ∀ j, j ≠ σ.length -> ρ' j = ρ j := fun j hj => by subst hρ; simp [hj]
  have hle : Le Γ ρ Γ ρ' := ⟨fun _ _ _ hv => hv, fun id l hl => ⟨l, by
    have : id ≠ σ.length := fun e => by rw [e, hnone] at hl; cases hl
    rw [r2 id this]; exact hl, .inl rfl⟩⟩
  refine ⟨⟨fun b o v hv => ?_, fun id l hl => ?_, fun id l m2 hl hf hm hi o => ?_, fun i j li lj hi hj e => ?_, fun g cells hg => ?_, ?_⟩, ?_, r1⟩
  . rw [<- h.fix b o v hv]
    exact cell?_heap (hh b (World.block_lt_of_cell? _ _ (h.fix b o v hv)))
  . by_cases hid : id = σ.length
    . subst hid
      rw [r1] at hl
      cases hl
      exact ⟨.map m, by simp, hk ρ' hle⟩
    . rw [r2 id hid] at hl
      obtain ⟨ob, ho, hk⟩ := h.mem id l hl
      have hlt := h.id_lt hl
      exact ⟨ob, by rw [List.getElem?_append_left hlt]; exact ho, hk.move hle (hh _ (h.block_lt hl))⟩
  . by_cases hid : id = σ.length
    . subst hid
      simp at hm
    . rw [r2 id hid] at hl
      rw [List.getElem?_append_left (h.id_lt hl)] at hm
      exact h.apart id l m2 hl hf hm hi o
  . by_cases hii : i = σ.length <;> by_cases hjj : j = σ.length
    . omega
    . rw [r2 j hjj] at hj
      rw [hii, r1] at hi
      have := h.block_lt hj
      cases hi
      simp at e
      omega
    . rw [r2 i hii] at hi
      rw [hjj, r1] at hj
      have := h.block_lt hi
      cases hj
      simp at e
      omega
    . rw [r2 i hii] at hi
      rw [r2 j hjj] at hj
      exact h.inj i j li lj hi hj e
  . obtain ⟨vs, hv⟩ := h.glob g cells hg
    exact ⟨vs, fun j x hx => ⟨(hv j x hx).1, (hv j x hx).2.1, (hv j x hx).2.2.mono hle⟩⟩
  . refine h.rock.move h.glob (fun _ _ _ h => h) (fun b hb _ => hh b hb) (fun rb id l hlt rn hl => ?_)
    by_cases hid : id = σ.length
    . rw [hid, r1] at hl
      cases hl
      exact fun e => by simp only at e; omega
    . rw [r2 id hid] at hl
      exact rn id l hl
  . refine ⟨hle, fun id l hl => ?_, fun id hi => ?_, fun id hi => ?_, fun b o hn hs => absurd hn hs, fun b hb _ => hh b hb, hs.size, hs.os, hs.tape, hs.output, by simp, fun id m2 hm hi => ?_⟩
    . by_cases hid : id = σ.length
      . rw [hid, r1] at hl
        cases hl
        exact .inr (Nat.le_refl _)
      . rw [r2 id hid] at hl
        exact .inl ⟨l, hl, rfl⟩
    . exact r2 id (by omega)
    . rw [List.getElem?_append_left (by omega)]; exact .refl _
    . exact ⟨m2, by rw [List.getElem?_append_left (List.getElem?_eq_some_iff.1 hm).1]; exact hm, hi⟩
def World.putB (w : World) (r : Nat) (o : Obj) : World := { w with heap := w.heap.setIfInBounds r o }
theorem putB_same (w : World) (r : Nat) (o : Obj) : Same w (World.putB w r o) := ⟨by simp [World.putB], rfl, rfl, ⟨rfl, fun _ => Nat.le_refl _⟩⟩
theorem putB_other (w : World) {r b : Nat} (o : Obj) (h : b ≠ r) : (World.putB w r o).heap[b]? = w.heap[b]? := by simp [World.putB, Ne.symm h]
theorem putB_new {w : World} {r : Nat} {o' : Obj} (o : Obj) (h : w.heap[r]? = some o') : (World.putB w r o).heap[r]? = some o := by
  have := (Array.getElem?_eq_some_iff.1 h).1
  simp [World.putB, this]
theorem setMap_ok (h : Rel E fl Γ ρ σ w) {id : Nat} {l : Loc} (hl : ρ id = some l) (hid : fl <= id) {m0 m : MapO} (hm : σ[id]? = some (.map m0)) {o : Obj} (hk : MapOk Γ ρ (World.putB w l.block o) l m) :
    Rel E fl Γ ρ (σ.set id (.map m)) (World.putB w l.block o) /\ Post fl Γ ρ σ w Γ ρ (σ.set id (.map m)) (World.putB w l.block o) := by
  have hidlt := h.id_lt hl
  have hs := putB_same w l.block o
  have hno : ∀ o, Γ l.block o = none := fun o => by
    cases hg : Γ l.block o with
    | none => rfl
    | some v =>
      have h1 := h.fix _ _ _ hg
      obtain ⟨ob, ho, hk0⟩ := h.mem id l hl
      rw [hm] at ho
      cases ho
      obtain ⟨_, _, k3⟩ := hk0
      split at k3
      . obtain ⟨A, a1, _⟩ := k3
        simp [World.cell?, a1] at h1
      . obtain ⟨mo, a1, _⟩ := k3
        simp [World.cell?, a1] at h1
  refine ⟨⟨fun b o' v hv => ?_, fun j l2 hl2 => ?_, fun j l2 m2 hl2 hf hm2 hi o' => ?_, h.inj, h.glob, ?_⟩, ?_⟩
  . rw [<- h.fix b o' v hv]
    refine cell?_heap (putB_other w o fun e => ?_)
    subst e
    rw [hno o'] at hv
    cases hv
  . by_cases hj : j = id
    . subst hj
      rw [hl] at hl2
      cases hl2
      exact ⟨.map m, by simp [hidlt], hk⟩
    . obtain ⟨ob, ho, hk⟩ := h.mem j l2 hl2
      have hne : l2.block ≠ l.block := fun e => hj (h.inj j id l2 l hl2 hl e)
      exact ⟨ob, by rw [List.getElem?_set_ne (Ne.symm hj)]; exact ho, hk.move (.refl _ _) (putB_other w o hne)⟩
  . by_cases hj : j = id
    . subst hj
      simp [hidlt] at hm2
    . rw [List.getElem?_set_ne (Ne.symm hj)] at hm2
      exact h.apart j l2 m2 hl2 hf hm2 hi o'
  . exact h.rock.move h.glob (fun _ _ _ h => h) (fun b hb hn => putB_other w o (Ne.symm (hn id l hl))) (fun rb id l hlt rn hl => rn id l hl)
  . refine { Post.refl fl Γ ρ σ w with fresh := fun b o h1 h2 => absurd h1 h2, lowS := fun j hi => ?_, frame := fun b hb hc => putB_other w o fun e => ?_, size := hs.size, output := hs.output, len := by simp, ice := fun j m2 hm2 hi => ?_ }
    . rw [List.getElem?_set_ne (by omega)]; exact .refl _
    . have := hc id l hl e.symm; omega
    . by_cases hj : j = id
      . subst hj; rw [hm] at hm2; cases hm2
      . exact ⟨m2, by rw [List.getElem?_set_ne (Ne.symm hj)]; exact hm2, hi⟩
theorem bytes_same (x y : List UInt8) : ((⟨⟨x⟩⟩ : ByteArray) == ⟨⟨y⟩⟩) = (x == y) := by
  rw [Bool.eq_iff_iff, MapKept.bytes_beq]
  simp
theorem sameC_eq {x y : PV} {v u : Value} (h : sameC x y = true) (hx : Rep Γ ρ x v) (hy : Rep Γ ρ y u) : v = u /\ ∀ n, Instr.sameBits n v u = true := by
  unfold sameC at h
  split at h
  . cases hx; cases hy
    simp at h
    subst h
    exact ⟨rfl, fun n => by simp [Instr.sameBits]⟩
  . cases hx; cases hy
    simp at h
    obtain ⟨rfl, rfl⟩ := h
    exact ⟨rfl, fun n => by simp [Instr.sameBits]⟩
  . cases hx; cases hy
    simp at h
    subst h
    exact ⟨rfl, fun n => by simp [Instr.sameBits, MapKept.bytes_beq]⟩
  . cases h
theorem sameL_eq : ∀ {xs ys : List PV} {vs us : List Value}, sameL xs ys = true -> Reps Γ ρ xs vs -> Reps Γ ρ ys us -> vs = us /\ ∀ n, (vs.zip us).all (fun (x, y) => Instr.sameBits n x y) = true
  | [], [], vs, us, h, hx, hy => by rw [hx.inv_nil, hy.inv_nil]; exact ⟨rfl, fun n => rfl⟩
  | x :: xs, y :: ys, vs, us, h, hx, hy => by
    obtain ⟨v, vs, rfl, h1, h2⟩ := hx.inv_cons
    obtain ⟨u, us, rfl, h3, h4⟩ := hy.inv_cons
    simp only [sameL, Bool.and_eq_true] at h
    obtain ⟨rfl, h5⟩ := sameC_eq h.1 h1 h3
    obtain ⟨rfl, h6⟩ := sameL_eq h.2 h2 h4
    exact ⟨rfl, fun n => by simp only [List.zip_cons_cons, List.all_cons, Bool.and_eq_true]; exact ⟨h5 n, h6 n⟩⟩
  | [], _ :: _, _, _, h, _, _ => by cases h
  | _ :: _, [], _, _, h, _, _ => by cases h
theorem sameK_eq {x y : PV} {v u : Value} (h : sameK x y = true) (hx : Rep Γ ρ x v) (hy : Rep Γ ρ y u) : v = u /\ Instr.sameBits 10000 v u = true := by
  unfold sameK at h
  split at h
  . obtain ⟨vs, rfl, h1⟩ := Reps.of_agg hx
    obtain ⟨us, rfl, h2⟩ := Reps.of_agg hy
    obtain ⟨e1, e2⟩ := sameL_eq h h1 h2
    have e3 : vs = us := Array.ext' e1
    subst e3
    refine ⟨rfl, ?_⟩
    simp only [Instr.sameBits, beq_self_eq_true, Bool.true_and]
    exact e2 9999
  . obtain ⟨e1, e2⟩ := sameC_eq h hx hy
    exact ⟨e1, e2 _⟩
theorem run_keyThatStays {P : Program} {v u : Value} (h : Instr.sameBits 10000 v u = true) (w : World) : (Instr.keyThatStays v u).run P w = .ok u w := by simp [Instr.keyThatStays, h]
theorem keyOk_ok (em : Bool) : ∀ (d D : Nat), d <= D -> ∀ {t : TypeId} {x : PV} {v : Value}, keyOk E d t x = true -> Rep Γ ρ x v -> ∀ w, (Instr.checkKey em D t v).run E.P w = .ok () w
  | 0, D, hD, t, x, v, h, hx, w => by cases h
  | d + 1, 0, hD, _, _, _, _, _, _ => by omega
  | d + 1, D + 1, hD, t, x, v, h, hx, w => by
    have ih := @keyOk_ok em d D (by omega)
    unfold keyOk at h
    rw [Instr.checkKey]
    split at h
    . rename_i fs xs hu
      obtain ⟨vs, rfl, hvs⟩ := Reps.of_agg hx
      simp only [Sem.run_bind, run_underlying hu, Result.andThen_ok]
      rw [<- Array.forIn_toList]
      simp only [Bool.and_eq_true] at h
      have h := h.2
      generalize fs.toList = L at h
      induction L with
      | nil => simp
      | cons f L ih2 =>
        simp only [List.all_cons, Bool.and_eq_true, bne_iff_ne, ne_eq] at h
        obtain ⟨⟨hn, hk⟩, h⟩ := h
        unfold keyAt at hk
        split at hk
        . rename_i y hy
          obtain ⟨r, h1, h2⟩ := partA_ok hy hvs
          simp only [List.forIn_cons, Sem.run_bind, hn, ne_eq, not_false_eq_true, if_true, h2, Result.andThen_ok, ih hk h1, Sem.run_pure]
          exact ih2 h
        . cases hk
    . rename_i n e xs hu
      obtain ⟨vs, rfl, hvs⟩ := Reps.of_agg hx
      split at h
      . rename_i s hs
        obtain ⟨i, hi, hsz⟩ := sizeT_info hs
        simp only [Sem.run_bind, run_underlying hu, Result.andThen_ok]
        simp only [Std.Legacy.Range.forIn_eq_forIn_range', Std.Legacy.Range.size, Nat.sub_zero, Nat.add_one_sub_one, Nat.div_one]
        simp only [Bool.and_eq_true] at h
        have h := h.2
        rw [List.range_eq_range'] at h
        generalize List.range' 0 n = is at h
        induction is with
        | nil => simp
        | cons j is ih2 =>
          simp only [List.all_cons, Bool.and_eq_true] at h
          obtain ⟨hk, h⟩ := h
          unfold keyAt at hk
          split at hk
          . rename_i y hy
            obtain ⟨r, h1, h2⟩ := partA_ok hy hvs
            simp only [List.forIn_cons, Sem.run_bind, run_sizeT hs, Result.andThen_ok, h2, ih hk h1, Sem.run_pure]
            exact ih2 h
          . cases hk
      . cases h
    . rename_i hu
      simp only [Sem.run_bind, run_underlying hu, Result.andThen_ok]
      cases v <;> simp
    . rename_i hu
      simp only [Sem.run_bind, run_underlying hu, Result.andThen_ok]
      cases v <;> simp
    . rename_i hu
      simp only [Sem.run_bind, run_underlying hu, Result.andThen_ok]
      cases v <;> simp
    . cases h
theorem eqA_total : ∀ (d : Nat) (t : TypeId) (x y : PV), keyOk E d t x = true -> keyOk E d t y = true -> ∃ b, eqA E d t x y = some b
  | 0, t, x, y, hx, hy => by cases hx
  | d + 1, t, x, y, hx, hy => by
    have ih := eqA_total d
    unfold keyOk at hx hy
    unfold eqA
    split at hx
    . rename_i fs xs hu
      split at hy
      . rename_i fs' ys hu'
        rw [hu] at hu'; cases hu'
        simp only [Bool.and_eq_true] at hx hy
        simp only [hu, hx.1, if_true]
        obtain ⟨_, hx⟩ := hx
        obtain ⟨_, hy⟩ := hy
        generalize fs.toList = L at hx hy
        induction L with
        | nil => exact ⟨true, rfl⟩
        | cons f L ih2 =>
          simp only [List.all_cons, Bool.and_eq_true, bne_iff_ne, ne_eq] at hx hy
          obtain ⟨⟨hn, kx⟩, hx⟩ := hx
          obtain ⟨⟨_, ky⟩, hy⟩ := hy
          obtain ⟨b2, hb2⟩ := ih2 hx hy
          have key : ∃ b, (match sizeT E.P f.type, aggT E.P f.type with
              | some s, some true =>
                if f.offset + s <= xs.length /\ f.offset + s <= ys.length then eqA E d f.type (.agg ((xs.drop f.offset).take s)) (.agg ((ys.drop f.offset).take s)) else none
              | some _, some false => match xs[f.offset]?, ys[f.offset]? with
                | some x, some y => eqA E d f.type x y
                | _, _ => none
              | _, _ => none) = some b := by
            unfold keyAt partA at kx ky
            cases ha : aggT E.P f.type with
            | none => simp [ha] at kx
            | some g => cases hs : sizeT E.P f.type with
              | none => simp [ha, hs] at kx
              | some s => cases g with
                | true =>
                  simp only [ha, hs] at kx ky
                  by_cases h1 : f.offset + s <= xs.length
                  . by_cases h2 : f.offset + s <= ys.length
                    . simp only [if_pos h1, if_pos h2] at kx ky
                      simp only [h1, h2, and_self, if_true]
                      exact ih _ _ _ kx ky
                    . simp [h2] at ky
                  . simp [h1] at kx
                | false =>
                  simp only [ha, hs] at kx ky
                  cases h1 : xs[f.offset]? with
                  | none => simp [h1] at kx
                  | some u => cases h2 : ys[f.offset]? with
                    | none => simp [h2] at ky
                    | some v =>
                      simp only [h1, h2] at kx ky ⊢
                      exact ih _ _ _ kx ky
          obtain ⟨b1, hb1⟩ := key
          refine ⟨b1 && b2, ?_⟩
          unfold eqFields
          rw [if_neg hn]
          split at hb1
          . rename_i s h1 h2
            simp only [h1, h2]
            split at hb1
            . rename_i hc
              rw [if_pos hc, hb1, hb2]
              rfl
            . cases hb1
          . rename_i s h1 h2
            simp only [h1, h2]
            split at hb1
            . rename_i u v e1 e2
              simp only [e1, e2, hb1, hb2]
              rfl
            . cases hb1
          . cases hb1
      all_goals first | (rename_i h1 _; rw [hu] at h1; cases h1; done) | (rename_i h1; rw [hu] at h1; cases h1; done) | cases hy
    . rename_i n e xs hu
      split at hy
      . rename_i h1; rw [hu] at h1; cases h1
      . rename_i n' e' ys hu'
        rw [hu] at hu'; cases hu'
        simp only [hu]
        cases hs : sizeT E.P e with
        | none => simp [hs] at hx
        | some s =>
          simp only [hs] at hx hy
          simp only [Bool.and_eq_true, Option.isSome_iff_exists] at hx hy
          obtain ⟨⟨g, hg⟩, hx⟩ := hx
          have hy := hy.2
          simp only [hg]
          have key : ∀ (m i : Nat), (∀ j, i <= j -> j < i + m -> keyAt (keyOk E d) (partA E e xs (j * s)) e = true /\ keyAt (keyOk E d) (partA E e ys (j * s)) e = true) -> ∃ b, eqElems (eqA E d e) g s xs ys i m = some b := by
            intro m
            induction m with
            | zero => intro i _; exact ⟨true, rfl⟩
            | succ m ihm =>
              intro i hi
              obtain ⟨b2, hb2⟩ := ihm (i + 1) fun j h1 h2 => hi j (by omega) (by omega)
              obtain ⟨kx, ky⟩ := hi i (Nat.le_refl _) (by omega)
              unfold keyAt partA at kx ky
              simp only [hg, hs] at kx ky
              unfold eqElems
              cases g with
              | true =>
                simp only [if_true] at kx ky ⊢
                by_cases h1 : i * s + s <= xs.length
                . by_cases h2 : i * s + s <= ys.length
                  . simp only [if_pos h1, if_pos h2] at kx ky
                    obtain ⟨b1, hb1⟩ := ih _ _ _ kx ky
                    rw [if_pos ⟨h1, h2⟩, hb1, hb2]
                    exact ⟨_, rfl⟩
                  . simp [h2] at ky
                . simp [h1] at kx
              | false =>
                simp only [Bool.false_eq_true, if_false] at kx ky ⊢
                cases h1 : xs[i * s]? with
                | none => simp [h1] at kx
                | some u => cases h2 : ys[i * s]? with
                  | none => simp [h2] at ky
                  | some v =>
                    simp only [h1, h2] at kx ky ⊢
                    obtain ⟨b1, hb1⟩ := ih _ _ _ kx ky
                    rw [hb1, hb2]
                    exact ⟨_, rfl⟩
          exact key n 0 fun j _ hj => ⟨List.all_eq_true.1 hx j (by simpa using hj), List.all_eq_true.1 hy j (by simpa using hj)⟩
      all_goals first | (rename_i h1; rw [hu] at h1; cases h1; done) | cases hy
    . rename_i b hu
      split at hy
      all_goals first | (rename_i h1 _; rw [hu] at h1; cases h1; done) | (rename_i h1; rw [hu] at h1; cases h1; done) | (cases hy; done) | skip
      rename_i b' _
      exact ⟨b == b', by simp only [hu]⟩
    . rename_i k k' m hu
      split at hy
      all_goals first | (rename_i h1 _; rw [hu] at h1; cases h1; done) | (rename_i h1; rw [hu] at h1; cases h1; done) | (cases hy; done) | skip
      rename_i q q' m' hq
      rw [hu] at hq; cases hq
      have e1 := of_decide_eq_true hx
      have e2 := of_decide_eq_true hy
      subst e1 e2
      exact ⟨m == m', by simp only [hu, if_true]⟩
    . rename_i b hu
      split at hy
      all_goals first | (rename_i h1 _; rw [hu] at h1; cases h1; done) | (rename_i h1; rw [hu] at h1; cases h1; done) | (cases hy; done) | skip
      rename_i b' _
      exact ⟨b == b', by simp only [hu]⟩
    . cases hx
def foundAt (A : List MapEntry) (i0 : Nat) : Option Nat -> Option (Nat × Value)
  | none => none
  | some i => (A[i - i0]?).map fun e => (i, e.val)
theorem findM_asking (hE : E.Ok) {t : TypeId} {k : PV} {kv : Value} (hk : Rep Γ ρ k kv) : ∀ {es : List (PV × PV)} {A : List MapEntry} {i : Nat} {r : Option Nat}, findM E t k es i = some r -> EntsOk Γ ρ es A ->
    (∀ j, r = some j -> i <= j /\ j < i + es.length) /\ ∀ w, (Instr.findAsking t kv A i).run E.P w = .ok (foundAt A i r) w
  | [], A, i, r, h, hA => by
    cases h
    have : A = [] := List.eq_nil_of_length_eq_zero (by simpa using hA.1)
    subst this
    exact ⟨fun j hj => by (cases hj), fun w => by simp [Instr.findAsking, foundAt]⟩
  | e :: es, [], i, r, h, hA => by have := hA.1; simp at this
  | e :: es, a :: A, i, r, h, hA => by
    have h0 := hA.2 0 e a rfl rfl
    have hA' : EntsOk Γ ρ es A := ⟨by have := hA.1; simpa using this, fun j e' a' h1 h2 => hA.2 (j + 1) e' a' (by simpa using h1) (by simpa using h2)⟩
    unfold findM at h
    split at h
    . rename_i he
      cases h
      have heq := eqA_ok hE 50 Op.maxDepth (by decide) t k e.1 kv a.key true he hk h0.1
      refine ⟨fun j hj => by cases hj; simp, fun w => ?_⟩
      have : (Op.equal t kv a.key).run E.P w = .ok true w := heq w
      simp [Instr.findAsking, this, foundAt]
    . rename_i he
      have heq := eqA_ok hE 50 Op.maxDepth (by decide) t k e.1 kv a.key false he hk h0.1
      obtain ⟨h1, h2⟩ := findM_asking hE hk h hA'
      refine ⟨fun j hj => by have := h1 j hj; simp only [List.length_cons]; omega, fun w => ?_⟩
      have : (Op.equal t kv a.key).run E.P w = .ok false w := heq w
      simp only [Instr.findAsking, Sem.run_bind, this, Result.andThen_ok, Bool.false_eq_true, if_false, h2 w]
      cases r with
      | none => rfl
      | some j =>
        have := (h1 j rfl).1
        simp only [foundAt]
        rw [show j - i = (j - (i + 1)) + 1 by omega, List.getElem?_cons_succ]
    . cases h
theorem findM_now (hE : E.Ok) {t : TypeId} {d : TypeDesc} (hu : E.P.underlying t = some d) {k : PV} {kv : Value} (hk : Rep Γ ρ k kv) : ∀ {es : List (PV × PV)} {A : List MapEntry} {i : Nat} {r : Option Nat} {q : Option (Nat × Value)}, findM E t k es i = some r -> EntsOk Γ ρ es A ->
    Instr.findNow d kv A i = some q -> (∀ j, r = some j -> i <= j) /\ q = foundAt A i r
  | [], A, i, r, q, h, hA, hq => by
    cases h
    have : A = [] := List.eq_nil_of_length_eq_zero (by simpa using hA.1)
    subst this
    simp only [Instr.findNow, Option.some.injEq] at hq
    exact ⟨fun j hj => by (cases hj), hq.symm⟩
  | e :: es, [], i, r, q, h, hA, hq => by have := hA.1; simp at this
  | e :: es, a :: A, i, r, q, h, hA, hq => by
    have h0 := hA.2 0 e a rfl rfl
    have hA' : EntsOk Γ ρ es A := ⟨by have := hA.1; simpa using this, fun j e' a' h1 h2 => hA.2 (j + 1) e' a' (by simpa using h1) (by simpa using h2)⟩
    have hs : ∀ b, eqA E 50 t k e.1 = some b -> ∀ b', Instr.sameNow d kv a.key = some b' -> b' = b := by
      intro b hb b' hb'
      have h1 := h0.1
      unfold Instr.sameNow at hb'
      generalize e.1 = ke at hb h1
      split at hb'
      . rename_i k1 n1 k2 n2 e1 e2
        rw [e2] at h1
        cases hk; cases h1
        split at hb'
        . rename_i hkk
          cases hb'
          simp only [eqA, hu, hkk, if_true, Option.some.injEq] at hb
          exact hb
        . cases hb'
      . rename_i e1 e2
        rw [e2] at h1
        cases hk; cases h1
        cases hb'
        simp only [eqA, hu, Option.some.injEq] at hb
        rw [<- hb]
        exact bytes_same _ _
      . rename_i e1 e2
        rw [e2] at h1
        cases hk; cases h1
        cases hb'
        simp only [eqA, hu, Option.some.injEq] at hb
        exact hb
      . cases hb'
    unfold Instr.findNow at hq
    unfold findM at h
    split at h
    . rename_i he
      cases h
      split at hq
      . cases hq
        exact ⟨fun j hj => by cases hj; exact Nat.le_refl _, by simp [foundAt]⟩
      . rename_i hn
        have := hs true he false hn
        cases this
      . cases hq
    . rename_i he
      split at hq
      . rename_i hn
        have := hs false he true hn
        cases this
      . obtain ⟨h1, h2⟩ := findM_now hE hu hk h hA' hq
        refine ⟨fun j hj => by have := h1 j hj; omega, ?_⟩
        rw [h2]
        cases r with
        | none => rfl
        | some j =>
          have := h1 j rfl
          simp only [foundAt]
          rw [show j - i = (j - (i + 1)) + 1 by omega, List.getElem?_cons_succ]
      . cases hq
    . cases h
theorem findM_ok (hE : E.Ok) {t : TypeId} {d : TypeDesc} (hu : E.P.underlying t = some d) {k : PV} {kv : Value} (hk : Rep Γ ρ k kv) {es : List (PV × PV)} {A : List MapEntry} {r : Option Nat} (h : findM E t k es 0 = some r) (hA : EntsOk Γ ρ es A) :
    (∀ j, r = some j -> j < es.length) /\ ∀ w, (Instr.findKey t kv A).run E.P w = .ok (foundAt A 0 r) w := by
  obtain ⟨h1, h2⟩ := findM_asking hE hk h hA
  refine ⟨fun j hj => by have := h1 j hj; omega, fun w => ?_⟩
  unfold Instr.findKey
  simp only [Sem.run_bind, run_underlying hu, Result.andThen_ok]
  cases hn : Instr.findNow d kv A 0 with
  | some q =>
    rw [(findM_now hE hu hk h hA hn).2]
    rfl
  | none => exact h2 w
theorem keyT_ok {t kt et : TypeId} (h : keyT E t = some (kt, et)) : E.P.underlying t = some (.map kt et) := by
  unfold keyT at h
  split at h
  . cases h; assumption
  . cases h
theorem keyOk_under {d : Nat} {t : TypeId} {x : PV} (h : keyOk E d t x = true) : ∃ u, E.P.underlying t = some u := by
  cases d with
  | zero => cases h
  | succ d =>
    unfold keyOk at h
    split at h <;> first
      | exact ⟨_, by assumption⟩
      | cases h
theorem EntsOk.at {es : List (PV × PV)} {A : List MapEntry} (h : EntsOk Γ ρ es A) {i : Nat} {e : PV × PV} (he : es[i]? = some e) : ∃ a, A[i]? = some a /\ Rep Γ ρ e.1 a.key /\ Rep Γ ρ e.2 a.val := by
  have hlt : i < A.length := by have := (List.getElem?_eq_some_iff.1 he).1; have := h.1; omega
  exact ⟨A[i], List.getElem?_eq_getElem hlt, h.2 i e _ he (List.getElem?_eq_getElem hlt)⟩
theorem EntsOk.push {es : List (PV × PV)} {A : Array MapEntry} (h : EntsOk Γ ρ es A.toList) {k v : PV} {a : MapEntry} (hk : Rep Γ ρ k a.key) (hv : Rep Γ ρ v a.val) : EntsOk Γ ρ (es ++ [(k, v)]) (A.push a).toList := by
  have hl := h.1
  refine ⟨by simp at hl ⊢; omega, fun j e b h1 h2 => ?_⟩
  simp only [Array.toList_push] at h2
  by_cases hj : j < es.length
  . rw [List.getElem?_append_left hj] at h1
    rw [List.getElem?_append_left (by omega)] at h2
    exact h.2 j e b h1 h2
  . rw [List.getElem?_append_right (by omega)] at h1
    rw [List.getElem?_append_right (by omega), hl] at h2
    have : j - es.length = 0 := by
      have := (List.getElem?_eq_some_iff.1 h1).1
      simpa using this
    rw [this] at h1 h2
    simp at h1 h2
    subst h1 h2
    exact ⟨hk, hv⟩
theorem EntsOk.setAt {es : List (PV × PV)} {A : Array MapEntry} (h : EntsOk Γ ρ es A.toList) {i : Nat} {k v : PV} {f : MapEntry -> MapEntry} {a0 : MapEntry} (ha : A.toList[i]? = some a0) (hk : Rep Γ ρ k (f a0).key) (hv : Rep Γ ρ v (f a0).val) : EntsOk Γ ρ (es.set i (k, v)) (A.modify i f).toList := by
  have hl := h.1
  refine ⟨by simp at hl ⊢; omega, fun j e b h1 h2 => ?_⟩
  rw [Array.toList_modify, List.getElem?_modify] at h2
  by_cases hj : i = j
  . subst hj
    have hlt := (List.getElem?_eq_some_iff.1 ha).1
    rw [List.getElem?_set_self (by omega)] at h1
    rw [ha] at h2
    simp at h1 h2
    subst h1 h2
    exact ⟨hk, hv⟩
  . rw [List.getElem?_set_ne hj] at h1
    simp [hj] at h2
    exact h.2 j e b h1 (by simpa using h2)
theorem EntsOk.erase {es : List (PV × PV)} {A : Array MapEntry} (h : EntsOk Γ ρ es A.toList) (i : Nat) : EntsOk Γ ρ (es.eraseIdx i) (A.eraseIdxIfInBounds i).toList := by
  have hl := h.1
  rw [Array.toList_eraseIdxIfInBounds]
  refine ⟨by simp only [List.length_eraseIdx, hl], fun j e b h1 h2 => ?_⟩
  rw [List.getElem?_eraseIdx] at h1 h2
  split at h1
  . rename_i hc; rw [if_pos hc] at h2; exact h.2 j e b h1 h2
  . rename_i hc; rw [if_neg hc] at h2; exact h.2 (j + 1) e b h1 h2
theorem born_modify {A : Array MapEntry} {i : Nat} {f : MapEntry -> MapEntry} (hf : ∀ e, (f e).born = e.born) : (A.modify i f).toList.map MapEntry.born = A.toList.map MapEntry.born := by
  apply List.ext_getElem?
  intro j
  rw [Array.toList_modify]
  simp only [List.getElem?_map, List.getElem?_modify]
  cases A.toList[j]? with
  | none => rfl
  | some e => simp; split <;> simp [hf]
end
end Go.Proofs.YtpbemfikhmeedaaGreatDoor.Am
