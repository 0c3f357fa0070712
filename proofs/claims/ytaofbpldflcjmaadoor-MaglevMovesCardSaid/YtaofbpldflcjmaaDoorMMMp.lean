/- Maps: made, looked up, turned, gone through (where no order is drawn): the machine does what the interpreter does. -/
import Derived.Test.YtaofbpldflcjmaaDoorMMMb
import Derived.MapKept
set_option linter.unusedVariables false
set_option linter.unusedSimpArgs false
namespace Go.Proofs.YtaofbpldflcjmaaDoor.Am
section
section
variable {E : Env} {fl : Nat} {Γ : Sealed} {ρ : Ren} {σ : Store} {w : World}
theorem newMap_ok (h : Rel E fl Γ ρ σ w) (hfl : fl <= σ.length) {o : Obj} {m : MapO} (hk : ∀ ρ', Le Γ ρ Γ ρ' -> MapOk Γ ρ' (w.alloc o) ⟨w.heap.size, 0, 0, 0⟩ m) :
    ∃ ρ', Rel E fl Γ ρ' (σ ++ [.map m]) (w.alloc o) /\ Post fl Γ ρ σ w Γ ρ' (σ ++ [.map m]) (w.alloc o) /\ ρ' σ.length = some ⟨w.heap.size, 0, 0, 0⟩ := by
  have hs := Same.alloc w o
  have hh := heap_alloc_lt w o
  have hnone : ρ σ.length = none := by
    cases hc : ρ σ.length with
    | none => rfl
    | some l => exact absurd (h.id_lt hc) (Nat.lt_irrefl _)
  refine ⟨fun j => if j = σ.length then some ⟨w.heap.size, 0, 0, 0⟩ else ρ j, ?_⟩
  generalize hρ : (fun j => if j = σ.length then some ⟨w.heap.size, 0, 0, 0⟩ else ρ j : Ren) = ρ'
  have r1 : ρ' σ.length = some ⟨w.heap.size, 0, 0, 0⟩ := by subst hρ; simp
  have r2 : ∀ j, j ≠ σ.length -> ρ' j = ρ j := fun j hj => by subst hρ; simp [hj]
  have hle : Le Γ ρ Γ ρ' := ⟨fun _ _ _ hv => hv, fun id l hl => ⟨l, by
    have : id ≠ σ.length := fun e => by rw [e, hnone] at hl; cases hl
    rw [r2 id this]; exact hl, .inl rfl⟩⟩
  refine ⟨⟨fun b o v hv => ?_, fun id l hl => ?_, fun id l m2 hl hf hm hi o => ?_, fun i j li lj hi hj e => ?_, fun g cells hg => ?_, ?_⟩, ?_, r1⟩
  . rw [<- h.fix b o v hv]
    exact cell?_heap (hh b (World.block_lt_of_cell? _ _ (h.fix b o v hv)))
  . by_cases hid : id = σ.length
    . subst hid
      rw [r1] at hl
      cases hl
      exact ⟨.map m, by simp, hk ρ' hle⟩
    . rw [r2 id hid] at hl
      obtain ⟨ob, ho, hk⟩ := h.mem id l hl
      have hlt := h.id_lt hl
      exact ⟨ob, by rw [List.getElem?_append_left hlt]; exact ho, hk.move hle (hh _ (h.block_lt hl))⟩
  . by_cases hid : id = σ.length
    . subst hid
      simp at hm
    . rw [r2 id hid] at hl
      rw [List.getElem?_append_left (h.id_lt hl)] at hm
      exact h.apart id l m2 hl hf hm hi o
  . by_cases hii : i = σ.length <;> by_cases hjj : j = σ.length
    . omega
    . rw [r2 j hjj] at hj
      rw [hii, r1] at hi
      have := h.block_lt hj
      cases hi
      simp at e
      omega
    . rw [r2 i hii] at hi
      rw [hjj, r1] at hj
      have := h.block_lt hi
      cases hj
      simp at e
      omega
    . rw [r2 i hii] at hi
      rw [r2 j hjj] at hj
      exact h.inj i j li lj hi hj e
  . obtain ⟨vs, hv⟩ := h.glob g cells hg
    exact ⟨vs, fun j x hx => ⟨(hv j x hx).1, (hv j x hx).2.1, (hv j x hx).2.2.mono hle⟩⟩
  . refine h.rock.move h.glob (fun _ _ _ h => h) (fun b hb _ => hh b hb) (fun rb id l hlt rn hl => ?_)
    by_cases hid : id = σ.length
    . rw [hid, r1] at hl
      cases hl
      exact fun e => by simp only at e; omega
    . rw [r2 id hid] at hl
      exact rn id l hl
  . refine ⟨hle, fun id l hl => ?_, fun id hi => ?_, fun id hi => ?_, fun b o hn hs => absurd hn hs, fun b hb _ => hh b hb, hs.size, hs.os, hs.tape, hs.output, by simp, fun id m2 hm hi => ?_⟩
    . by_cases hid : id = σ.length
      . rw [hid, r1] at hl
        cases hl
        exact .inr (Nat.le_refl _)
      . rw [r2 id hid] at hl
        exact .inl ⟨l, hl, rfl⟩
    . exact r2 id (by omega)
    . rw [List.getElem?_append_left (by omega)]; exact .refl _
    . exact ⟨m2, by rw [List.getElem?_append_left (List.getElem?_eq_some_iff.1 hm).1]; exact hm, hi⟩
def World.putB (w : World) (r : Nat) (o : Obj) : World := { w with heap := w.heap.setIfInBounds r o }
theorem putB_same (w : World) (r : Nat) (o : Obj) : Same w (World.putB w r o) := ⟨by simp [World.putB], rfl, rfl, ⟨rfl, fun _ => Nat.le_refl _⟩⟩
theorem putB_other (w : World) {r b : Nat} (o : Obj) (h : b ≠ r) : (World.putB w r o).heap[b]? = w.heap[b]? := by simp [World.putB, Ne.symm h]
theorem putB_new {w : World} {r : Nat} {o' : Obj} (o : Obj) (h : w.heap[r]? = some o') : (World.putB w r o).heap[r]? = some o := by
  have := (Array.getElem?_eq_some_iff.1 h).1
  simp [World.putB, this]
theorem setMap_ok (h : Rel E fl Γ ρ σ w) {id : Nat} {l : Loc} (hl : ρ id = some l) (hid : fl <= id) {m0 m : MapO} (hm : σ[id]? = some (.map m0)) {o : Obj} (hk : MapOk Γ ρ (World.putB w l.block o) l m) :
    Rel E fl Γ ρ (σ.set id (.map m)) (World.putB w l.block o) /\ Post fl Γ ρ σ w Γ ρ (σ.set id (.map m)) (World.putB w l.block o) := by
  have hidlt := h.id_lt hl
  have hs := putB_same w l.block o
  have hno : ∀ o, Γ l.block o = none := fun o => by
    cases hg : Γ l.block o with
    | none => rfl
    | some v =>
      have h1 := h.fix _ _ _ hg
      obtain ⟨ob, ho, hk0⟩ := h.mem id l hl
      rw [hm] at ho
      cases ho
      obtain ⟨_, _, k3⟩ := hk0
      split at k3
      . obtain ⟨A, a1, _⟩ := k3
        simp [World.cell?, a1] at h1
      . obtain ⟨mo, a1, _⟩ := k3
        simp [World.cell?, a1] at h1
  refine ⟨⟨fun b o' v hv => ?_, fun j l2 hl2 => ?_, fun j l2 m2 hl2 hf hm2 hi o' => ?_, h.inj, h.glob, ?_⟩, ?_⟩
  . rw [<- h.fix b o' v hv]
    refine cell?_heap (putB_other w o fun e => ?_)
    subst e
    rw [hno o'] at hv
    cases hv
  . by_cases hj : j = id
    . subst hj
      rw [hl] at hl2
      cases hl2
      exact ⟨.map m, by simp [hidlt], hk⟩
    . obtain ⟨ob, ho, hk⟩ := h.mem j l2 hl2
      have hne : l2.block ≠ l.block := fun e => hj (h.inj j id l2 l hl2 hl e)
      exact ⟨ob, by rw [List.getElem?_set_ne (Ne.symm hj)]; exact ho, hk.move (.refl _ _) (putB_other w o hne)⟩
  . by_cases hj : j = id
    . subst hj
      simp [hidlt] at hm2
    . rw [List.getElem?_set_ne (Ne.symm hj)] at hm2
      exact h.apart j l2 m2 hl2 hf hm2 hi o'
  . exact h.rock.move h.glob (fun _ _ _ h => h) (fun b hb hn => putB_other w o (Ne.symm (hn id l hl))) (fun rb id l hlt rn hl => rn id l hl)
  . refine { Post.refl fl Γ ρ σ w with fresh := fun b o h1 h2 => absurd h1 h2, lowS := fun j hi => ?_, frame := fun b hb hc => putB_other w o fun e => ?_, size := hs.size, output := hs.output, len := by simp, ice := fun j m2 hm2 hi => ?_ }
    . rw [List.getElem?_set_ne (by omega)]; exact .refl _
    . have := hc id l hl e.symm; omega
    . by_cases hj : j = id
      . subst hj; rw [hm] at hm2; cases hm2
      . exact ⟨m2, by rw [List.getElem?_set_ne (Ne.symm hj)]; exact hm2, hi⟩
theorem bytes_same (x y : List UInt8) : ((⟨⟨x⟩⟩ : ByteArray) == ⟨⟨y⟩⟩) = (x == y) := by
  rw [Bool.eq_iff_iff, MapKept.bytes_beq]
  simp
theorem sameC_eq {x y : PV} {v u : Value} (h : sameC x y = true) (hx : Rep Γ ρ x v) (hy : Rep Γ ρ y u) : v = u /\ ∀ n, Instr.sameBits n v u = true := by
  unfold sameC at h
  split at h
  . cases hx; cases hy
    simp at h
    subst h
    exact ⟨rfl, fun n => by simp [Instr.sameBits]⟩
  . cases hx; cases hy
    simp at h
    obtain ⟨rfl, rfl⟩ := h
    exact ⟨rfl, fun n => by simp [Instr.sameBits]⟩
  . cases hx; cases hy
    simp at h
    subst h
    exact ⟨rfl, fun n => by simp [Instr.sameBits, MapKept.bytes_beq]⟩
  . cases h
theorem sameL_eq : ∀ {xs ys : List PV} {vs us : List Value}, sameL xs ys = true -> Reps Γ ρ xs vs -> Reps Γ ρ ys us -> vs = us /\ ∀ n, (vs.zip us).all (fun (x, y) => Instr.sameBits n x y) = true
  | [], [], vs, us, h, hx, hy => by rw [hx.inv_nil, hy.inv_nil]; exact ⟨rfl, fun n => rfl⟩
  | x :: xs, y :: ys, vs, us, h, hx, hy => by
    obtain ⟨v, vs, rfl, h1, h2⟩ := hx.inv_cons
    obtain ⟨u, us, rfl, h3, h4⟩ := hy.inv_cons
    simp only [sameL, Bool.and_eq_true] at h
    obtain ⟨rfl, h5⟩ := sameC_eq h.1 h1 h3
    obtain ⟨rfl, h6⟩ := sameL_eq h.2 h2 h4
    exact ⟨rfl, fun n => by simp only [List.zip_cons_cons, List.all_cons, Bool.and_eq_true]; exact ⟨h5 n, h6 n⟩⟩
  | [], _ :: _, _, _, h, _, _ => by cases h
  | _ :: _, [], _, _, h, _, _ => by cases h
theorem sameK_eq {x y : PV} {v u : Value} (h : sameK x y = true) (hx : Rep Γ ρ x v) (hy : Rep Γ ρ y u) : v = u /\ Instr.sameBits 10000 v u = true := by
  unfold sameK at h
  split at h
  . obtain ⟨vs, rfl, h1⟩ := Reps.of_agg hx
    obtain ⟨us, rfl, h2⟩ := Reps.of_agg hy
    obtain ⟨e1, e2⟩ := sameL_eq h h1 h2
    have e3 : vs = us := Array.ext' e1
    subst e3
    refine ⟨rfl, ?_⟩
    simp only [Instr.sameBits, beq_self_eq_true, Bool.true_and]
    exact e2 9999
  . obtain ⟨e1, e2⟩ := sameC_eq h hx hy
    exact ⟨e1, e2 _⟩
theorem run_keyThatStays {P : Program} {v u : Value} (h : Instr.sameBits 10000 v u = true) (w : World) : (Instr.keyThatStays v u).run P w = .ok u w := by simp [Instr.keyThatStays, h]
theorem keyOk_ok (em : Bool) : ∀ (d D : Nat), d <= D -> ∀ {t : TypeId} {x : PV} {v : Value}, keyOk E d t x = true -> Rep Γ ρ x v -> ∀ w, (Instr.checkKey em D t v).run E.P w = .ok () w
  | 0, D, hD, t, x, v, h, hx, w => by cases h
  | d + 1, 0, hD, _, _, _, _, _, _ => by omega
  | d + 1, D + 1, hD, t, x, v, h, hx, w => by
    have ih := @keyOk_ok em d D (by omega)
    unfold keyOk at h
    rw [Instr.checkKey]
    split at h
    . rename_i fs xs hu
      obtain ⟨vs, rfl, hvs⟩ := Reps.of_agg hx
      simp only [Sem.run_bind, run_underlying hu, Result.andThen_ok]
      rw [<- Array.forIn_toList]
      simp only [Bool.and_eq_true] at h
      have h := h.2
      generalize fs.toList = L at h
      induction L with
      | nil => simp
      | cons f L ih2 =>
        simp only [List.all_cons, Bool.and_eq_true, bne_iff_ne, ne_eq] at h
        obtain ⟨⟨hn, hk⟩, h⟩ := h
        unfold keyAt at hk
        split at hk
        . rename_i y hy
          obtain ⟨r, h1, h2⟩ := partA_ok hy hvs
          simp only [List.forIn_cons, Sem.run_bind, hn, ne_eq, not_false_eq_true, if_true, h2, Result.andThen_ok, ih hk h1, Sem.run_pure]
          exact ih2 h
        . cases hk
    . rename_i n e xs hu
      obtain ⟨vs, rfl, hvs⟩ := Reps.of_agg hx
      split at h
      . rename_i s hs
        obtain ⟨i, hi, hsz⟩ := sizeT_info hs
        simp only [Sem.run_bind, run_underlying hu, Result.andThen_ok]
        simp only [Std.Legacy.Range.forIn_eq_forIn_range', Std.Legacy.Range.size, Nat.sub_zero, Nat.add_one_sub_one, Nat.div_one]
        simp only [Bool.and_eq_true] at h
        have h := h.2
        rw [List.range_eq_range'] at h
        generalize List.range' 0 n = is at h
        induction is with
        | nil => simp
        | cons j is ih2 =>
          simp only [List.all_cons, Bool.and_eq_true] at h
          obtain ⟨hk, h⟩ := h
          unfold keyAt at hk
          split at hk
          . rename_i y hy
            obtain ⟨r, h1, h2⟩ := partA_ok hy hvs
            simp only [List.forIn_cons, Sem.run_bind, run_sizeT hs, Result.andThen_ok, h2, ih hk h1, Sem.run_pure]
            exact ih2 h
          . cases hk
      . cases h
    . rename_i hu
      simp only [Sem.run_bind, run_underlying hu, Result.andThen_ok]
      cases v <;> simp
    . rename_i hu
      simp only [Sem.run_bind, run_underlying hu, Result.andThen_ok]
      cases v <;> simp
    . rename_i hu
      simp only [Sem.run_bind, run_underlying hu, Result.andThen_ok]
      cases v <;> simp
    . cases h
theorem eqA_total : ∀ (d : Nat) (t : TypeId) (x y : PV), keyOk E d t x = true -> keyOk E d t y = true -> ∃ b, eqA E d t x y = some b
  | 0, t, x, y, hx, hy => by cases hx
  | d + 1, t, x, y, hx, hy => by
    have ih := eqA_total d
    unfold keyOk at hx hy
    unfold eqA
    split at hx
    . rename_i fs xs hu
      split at hy
      . rename_i fs' ys hu'
        rw [hu] at hu'; cases hu'
        simp only [Bool.and_eq_true] at hx hy
        simp only [hu, hx.1, if_true]
        obtain ⟨_, hx⟩ := hx
        obtain ⟨_, hy⟩ := hy
        generalize fs.toList = L at hx hy
        induction L with
        | nil => exact ⟨true, rfl⟩
        | cons f L ih2 =>
          simp only [List.all_cons, Bool.and_eq_true, bne_iff_ne, ne_eq] at hx hy
          obtain ⟨⟨hn, kx⟩, hx⟩ := hx
          obtain ⟨⟨_, ky⟩, hy⟩ := hy
          obtain ⟨b2, hb2⟩ := ih2 hx hy
          have key : ∃ b, (match sizeT E.P f.type, aggT E.P f.type with
              | some s, some true =>
                if f.offset + s <= xs.length /\ f.offset + s <= ys.length then eqA E d f.type (.agg ((xs.drop f.offset).take s)) (.agg ((ys.drop f.offset).take s)) else none
              | some _, some false => match xs[f.offset]?, ys[f.offset]? with
                | some x, some y => eqA E d f.type x y
                | _, _ => none
              | _, _ => none) = some b := by
            unfold keyAt partA at kx ky
            cases ha : aggT E.P f.type with
            | none => simp [ha] at kx
            | some g => cases hs : sizeT E.P f.type with
              | none => simp [ha, hs] at kx
              | some s => cases g with
                | true =>
                  simp only [ha, hs] at kx ky
                  by_cases h1 : f.offset + s <= xs.length
                  . by_cases h2 : f.offset + s <= ys.length
                    . simp only [if_pos h1, if_pos h2] at kx ky
                      simp only [h1, h2, and_self, if_true]
                      exact ih _ _ _ kx ky
                    . simp [h2] at ky
                  . simp [h1] at kx
                | false =>
                  simp only [ha, hs] at kx ky
                  cases h1 : xs[f.offset]? with
                  | none => simp [h1] at kx
                  | some u => cases h2 : ys[f.offset]? with
                    | none => simp [h2] at ky
                    | some v =>
                      simp only [h1, h2] at kx ky ⊢
                      exact ih _ _ _ kx ky
          obtain ⟨b1, hb1⟩ := key
          refine ⟨b1 && b2, ?_⟩
          unfold eqFields
          rw [if_neg hn]
          split at hb1
          . rename_i s h1 h2
            simp only [h1, h2]
            split at hb1
            . rename_i hc
              rw [if_pos hc, hb1, hb2]
              rfl
            . cases hb1
          . rename_i s h1 h2
            simp only [h1, h2]
            split at hb1
            . rename_i u v e1 e2
              simp only [e1, e2, hb1, hb2]
              rfl
            . cases hb1
          . cases hb1
      all_goals first | (rename_i h1 _; rw [hu] at h1; cases h1; done) | (rename_i h1; rw [hu] at h1; cases h1; done) | cases hy
    . rename_i n e xs hu
      split at hy
      . rename_i h1; rw [hu] at h1; cases h1
      . rename_i n' e' ys hu'
        rw [hu] at hu'; cases hu'
        simp only [hu]
        cases hs : sizeT E.P e with
        | none => simp [hs] at hx
        | some s =>
          simp only [hs] at hx hy
          simp only [Bool.and_eq_true, Option.isSome_iff_exists] at hx hy
          obtain ⟨⟨g, hg⟩, hx⟩ := hx
          have hy := hy.2
          simp only [hg]
          have key : ∀ (m i : Nat), (∀ j, i <= j -> j < i + m -> keyAt (keyOk E d) (partA E e xs (j * s)) e = true /\ keyAt (keyOk E d) (partA E e ys (j * s)) e = true) -> ∃ b, eqElems (eqA E d e) g s xs ys i m = some b := by
            intro m
            induction m with
            | zero => intro i _; exact ⟨true, rfl⟩
            | succ m ihm =>
              intro i hi
              obtain ⟨b2, hb2⟩ := ihm (i + 1) fun j h1 h2 => hi j (by omega) (by omega)
              obtain ⟨kx, ky⟩ := hi i (Nat.le_refl _) (by omega)
              unfold keyAt partA at kx ky
              simp only [hg, hs] at kx ky
              unfold eqElems
              cases g with
              | true =>
                simp only [if_true] at kx ky ⊢
                by_cases h1 : i * s + s <= xs.length
                . by_cases h2 : i * s + s <= ys.length
                  . simp only [if_pos h1, if_pos h2] at kx ky
                    obtain ⟨b1, hb1⟩ := ih _ _ _ kx ky
                    rw [if_pos ⟨h1, h2⟩, hb1, hb2]
                    exact ⟨_, rfl⟩
                  . simp [h2] at ky
                . simp [h1] at kx
              | false =>
                simp only [Bool.false_eq_true, if_false] at kx ky ⊢
                cases h1 : xs[i * s]? with
                | none => simp [h1] at kx
                | some u => cases h2 : ys[i * s]? with
                  | none => simp [h2] at ky
                  | some v =>
                    simp only [h1, h2] at kx ky ⊢
                    obtain ⟨b1, hb1⟩ := ih _ _ _ kx ky
                    rw [hb1, hb2]
                    exact ⟨_, rfl⟩
          exact key n 0 fun j _ hj => ⟨List.all_eq_true.1 hx j (by simpa using hj), List.all_eq_true.1 hy j (by simpa using hj)⟩
      all_goals first | (rename_i h1; rw [hu] at h1; cases h1; done) | cases hy
    . rename_i b hu
      split at hy
      all_goals first | (rename_i h1 _; rw [hu] at h1; cases h1; done) | (rename_i h1; rw [hu] at h1; cases h1; done) | (cases hy; done) | skip
      rename_i b' _
      exact ⟨b == b', by simp only [hu]⟩
    . rename_i k k' m hu
      split at hy
      all_goals first | (rename_i h1 _; rw [hu] at h1; cases h1; done) | (rename_i h1; rw [hu] at h1; cases h1; done) | (cases hy; done) | skip
      rename_i q q' m' hq
      rw [hu] at hq; cases hq
      have e1 := of_decide_eq_true hx
      have e2 := of_decide_eq_true hy
      subst e1 e2
      exact ⟨m == m', by simp only [hu, if_true]⟩
    . rename_i b hu
      split at hy
      all_goals first | (rename_i h1 _; rw [hu] at h1; cases h1; done) | (rename_i h1; rw [hu] at h1; cases h1; done) | (cases hy; done) | skip
      rename_i b' _
      exact ⟨b == b', by simp only [hu]⟩
    . cases hx
def foundAt (A : List MapEntry) (i0 : Nat) : Option Nat -> Option (Nat × Value)
  | none => none
  | some i => (A[i - i0]?).map fun e => (i, e.val)
theorem findM_asking (hE : E.Ok) {t : TypeId} {k : PV} {kv : Value} (hk : Rep Γ ρ k kv) : ∀ {es : List (PV × PV)} {A : List MapEntry} {i : Nat} {r : Option Nat}, findM E t k es i = some r -> EntsOk Γ ρ es A ->
    (∀ j, r = some j -> i <= j /\ j < i + es.length) /\ ∀ w, (Instr.findAsking t kv A i).run E.P w = .ok (foundAt A i r) w
  | [], A, i, r, h, hA => by
    cases h
    have : A = [] := List.eq_nil_of_length_eq_zero (by simpa using hA.1)
    subst this
    exact ⟨fun j hj => by (cases hj), fun w => by simp [Instr.findAsking, foundAt]⟩
  | e :: es, [], i, r, h, hA => by have := hA.1; simp at this
  | e :: es, a :: A, i, r, h, hA => by
    have h0 := hA.2 0 e a rfl rfl
    have hA' : EntsOk Γ ρ es A := ⟨by have := hA.1; simpa using this, fun j e' a' h1 h2 => hA.2 (j + 1) e' a' (by simpa using h1) (by simpa using h2)⟩
    unfold findM at h
    split at h
    . rename_i he
      cases h
      have heq := eqA_ok hE 50 Op.maxDepth (by decide) t k e.1 kv a.key true he hk h0.1
      refine ⟨fun j hj => by cases hj; simp, fun w => ?_⟩
      have : (Op.equal t kv a.key).run E.P w = .ok true w := heq w
      simp [Instr.findAsking, this, foundAt]
    . rename_i he
      have heq := eqA_ok hE 50 Op.maxDepth (by decide) t k e.1 kv a.key false he hk h0.1
      obtain ⟨h1, h2⟩ := findM_asking hE hk h hA'
      refine ⟨fun j hj => by have := h1 j hj; simp only [List.length_cons]; omega, fun w => ?_⟩
      have : (Op.equal t kv a.key).run E.P w = .ok false w := heq w
      simp only [Instr.findAsking, Sem.run_bind, this, Result.andThen_ok, Bool.false_eq_true, if_false, h2 w]
      cases r with
      | none => rfl
      | some j =>
        have := (h1 j rfl).1
        simp only [foundAt]
        rw [show j - i = (j - (i + 1)) + 1 by omega, List.getElem?_cons_succ]
    . cases h
theorem findM_now (hE : E.Ok) {t : TypeId} {d : TypeDesc} (hu : E.P.underlying t = some d) {k : PV} {kv : Value} (hk : Rep Γ ρ k kv) : ∀ {es : List (PV × PV)} {A : List MapEntry} {i : Nat} {r : Option Nat} {q : Option (Nat × Value)}, findM E t k es i = some r -> EntsOk Γ ρ es A ->
    Instr.findNow d kv A i = some q -> (∀ j, r = some j -> i <= j) /\ q = foundAt A i r
  | [], A, i, r, q, h, hA, hq => by
    cases h
    have : A = [] := List.eq_nil_of_length_eq_zero (by simpa using hA.1)
    subst this
    simp only [Instr.findNow, Option.some.injEq] at hq
    exact ⟨fun j hj => by (cases hj), hq.symm⟩
  | e :: es, [], i, r, q, h, hA, hq => by have := hA.1; simp at this
  | e :: es, a :: A, i, r, q, h, hA, hq => by
    have h0 := hA.2 0 e a rfl rfl
    have hA' : EntsOk Γ ρ es A := ⟨by have := hA.1; simpa using this, fun j e' a' h1 h2 => hA.2 (j + 1) e' a' (by simpa using h1) (by simpa using h2)⟩
    have hs : ∀ b, eqA E 50 t k e.1 = some b -> ∀ b', Instr.sameNow d kv a.key = some b' -> b' = b := by
      intro b hb b' hb'
      have h1 := h0.1
      unfold Instr.sameNow at hb'
      generalize e.1 = ke at hb h1
      split at hb'
      . rename_i k1 n1 k2 n2 e1 e2
        rw [e2] at h1
        cases hk; cases h1
        split at hb'
        . rename_i hkk
          cases hb'
          simp only [eqA, hu, hkk, if_true, Option.some.injEq] at hb
          exact hb
        . cases hb'
      . rename_i e1 e2
        rw [e2] at h1
        cases hk; cases h1
        cases hb'
        simp only [eqA, hu, Option.some.injEq] at hb
        rw [<- hb]
        exact bytes_same _ _
      . rename_i e1 e2
        rw [e2] at h1
        cases hk; cases h1
        cases hb'
        simp only [eqA, hu, Option.some.injEq] at hb
        exact hb
      . cases hb'
    unfold Instr.findNow at hq
    unfold findM at h
    split at h
    . rename_i he
      cases h
      split at hq
      . cases hq
        exact ⟨fun j hj => by cases hj; exact Nat.le_refl _, by simp [foundAt]⟩
      . rename_i hn
        have := hs true he false hn
        cases this
      . cases hq
    . rename_i he
      split at hq
      . rename_i hn
        have := hs false he true hn
        cases this
      . obtain ⟨h1, h2⟩ := findM_now hE hu hk h hA' hq
        refine ⟨fun j hj => by have := h1 j hj; omega, ?_⟩
        rw [h2]
        cases r with
        | none => rfl
        | some j =>
          have := h1 j rfl
          simp only [foundAt]
          rw [show j - i = (j - (i + 1)) + 1 by omega, List.getElem?_cons_succ]
      . cases hq
    . cases h
theorem findM_ok (hE : E.Ok) {t : TypeId} {d : TypeDesc} (hu : E.P.underlying t = some d) {k : PV} {kv : Value} (hk : Rep Γ ρ k kv) {es : List (PV × PV)} {A : List MapEntry} {r : Option Nat} (h : findM E t k es 0 = some r) (hA : EntsOk Γ ρ es A) :
    (∀ j, r = some j -> j < es.length) /\ ∀ w, (Instr.findKey t kv A).run E.P w = .ok (foundAt A 0 r) w := by
  obtain ⟨h1, h2⟩ := findM_asking hE hk h hA
  refine ⟨fun j hj => by have := h1 j hj; omega, fun w => ?_⟩
  unfold Instr.findKey
  simp only [Sem.run_bind, run_underlying hu, Result.andThen_ok]
  cases hn : Instr.findNow d kv A 0 with
  | some q =>
    rw [(findM_now hE hu hk h hA hn).2]
    rfl
  | none => exact h2 w
theorem keyT_ok {t kt et : TypeId} (h : keyT E t = some (kt, et)) : E.P.underlying t = some (.map kt et) := by
  unfold keyT at h
  split at h
  . cases h; assumption
  . cases h
theorem keyOk_under {d : Nat} {t : TypeId} {x : PV} (h : keyOk E d t x = true) : ∃ u, E.P.underlying t = some u := by
  cases d with
  | zero => cases h
  | succ d =>
    unfold keyOk at h
    split at h <;> first
      | exact ⟨_, by assumption⟩
      | cases h
theorem EntsOk.at {es : List (PV × PV)} {A : List MapEntry} (h : EntsOk Γ ρ es A) {i : Nat} {e : PV × PV} (he : es[i]? = some e) : ∃ a, A[i]? = some a /\ Rep Γ ρ e.1 a.key /\ Rep Γ ρ e.2 a.val := by
  have hlt : i < A.length := by have := (List.getElem?_eq_some_iff.1 he).1; have := h.1; omega
  exact ⟨A[i], List.getElem?_eq_getElem hlt, h.2 i e _ he (List.getElem?_eq_getElem hlt)⟩
theorem EntsOk.push {es : List (PV × PV)} {A : Array MapEntry} (h : EntsOk Γ ρ es A.toList) {k v : PV} {a : MapEntry} (hk : Rep Γ ρ k a.key) (hv : Rep Γ ρ v a.val) : EntsOk Γ ρ (es ++ [(k, v)]) (A.push a).toList := by
  have hl := h.1
  refine ⟨by simp at hl ⊢; omega, fun j e b h1 h2 => ?_⟩
  simp only [Array.toList_push] at h2
  by_cases hj : j < es.length
  . rw [List.getElem?_append_left hj] at h1
    rw [List.getElem?_append_left (by omega)] at h2
    exact h.2 j e b h1 h2
  . rw [List.getElem?_append_right (by omega)] at h1
    rw [List.getElem?_append_right (by omega), hl] at h2
    have : j - es.length = 0 := by
      have := (List.getElem?_eq_some_iff.1 h1).1
      simpa using this
    rw [this] at h1 h2
    simp at h1 h2
    subst h1 h2
    exact ⟨hk, hv⟩
theorem EntsOk.setAt {es : List (PV × PV)} {A : Array MapEntry} (h : EntsOk Γ ρ es A.toList) {i : Nat} {k v : PV} {f : MapEntry -> MapEntry} {a0 : MapEntry} (ha : A.toList[i]? = some a0) (hk : Rep Γ ρ k (f a0).key) (hv : Rep Γ ρ v (f a0).val) : EntsOk Γ ρ (es.set i (k, v)) (A.modify i f).toList := by
  have hl := h.1
  refine ⟨by simp at hl ⊢; omega, fun j e b h1 h2 => ?_⟩
  rw [Array.toList_modify, List.getElem?_modify] at h2
  by_cases hj : i = j
  . subst hj
    have hlt := (List.getElem?_eq_some_iff.1 ha).1
    rw [List.getElem?_set_self (by omega)] at h1
    rw [ha] at h2
    simp at h1 h2
    subst h1 h2
    exact ⟨hk, hv⟩
  . rw [List.getElem?_set_ne hj] at h1
    simp [hj] at h2
    exact h.2 j e b h1 (by simpa using h2)
theorem EntsOk.erase {es : List (PV × PV)} {A : Array MapEntry} (h : EntsOk Γ ρ es A.toList) (i : Nat) : EntsOk Γ ρ (es.eraseIdx i) (A.eraseIdxIfInBounds i).toList := by
  have hl := h.1
  rw [Array.toList_eraseIdxIfInBounds]
  refine ⟨by simp only [List.length_eraseIdx, hl], fun j e b h1 h2 => ?_⟩
  rw [List.getElem?_eraseIdx] at h1 h2
  split at h1
  . rename_i hc; rw [if_pos hc] at h2; exact h.2 j e b h1 h2
  . rename_i hc; rw [if_neg hc] at h2; exact h.2 (j + 1) e b h1 h2
theorem born_modify {A : Array MapEntry} {i : Nat} {f : MapEntry -> MapEntry} (hf : ∀ e, (f e).born = e.born) : (A.modify i f).toList.map MapEntry.born = A.toList.map MapEntry.born := by
  apply List.ext_getElem?
  intro j
  rw [Array.toList_modify]
  simp only [List.getElem?_map, List.getElem?_modify]
  cases A.toList[j]? with
  | none => rfl
  | some e => simp; split <;> simp [hf]
end
end
section
section
variable {E : Env} {fl : Nat} {Γ : Sealed} {ρ : Ren} {σ : Store} {w : World}
theorem rep_none : Rep Γ ρ (.tup []) (.tuple #[]) := .tup (vs := #[]) rfl (fun j x v hx => by simp at hx)
theorem rep_pair {x y : PV} {v u : Value} (h : Rep Γ ρ x v) (k : Rep Γ ρ y u) : Rep Γ ρ (.tup [x, y]) (.tuple #[v, u]) := by
  have := Reps.cons h (Reps.cons k Reps.nil)
  exact .tup (vs := #[v, u]) rfl (fun j x v hx hv => this.2 j x v hx (by simpa using hv))
theorem rep_three {x y z : PV} {v u t : Value} (h : Rep Γ ρ x v) (k : Rep Γ ρ y u) (l : Rep Γ ρ z t) : Rep Γ ρ (.tup [x, y, z]) (.tuple #[v, u, t]) := by
  have := Reps.cons h (Reps.cons k (Reps.cons l Reps.nil))
  exact .tup (vs := #[v, u, t]) rfl (fun j x v hx hv => this.2 j x v hx (by simpa using hv))
theorem makeMapA_ok (h : Rel E fl Γ ρ σ w) (hfl : fl <= σ.length) {t : TypeId} {p : TypeId × TypeId} (ht : keyT E t = some p) {r : Option PV} {v : Option Value} (hr : RepOpt Γ ρ r v) (hk : r = none ∨ ∃ k n, r = some (.int k n)) :
    ∃ u w', (Instr.makeMap t v).run E.P w = .ok u w' /\ Moves E fl Γ ρ σ w (.mp σ.length) (newMap σ ⟨[], [], 0, none⟩) u w' := by
  obtain ⟨ρ', k1, k2, k3⟩ := newMap_ok h hfl (o := .map #[] 0) (m := ⟨[], [], 0, none⟩) fun ρ' _ => ⟨rfl, rfl, #[], heap_alloc_new w _, rfl, rfl, fun j e a he => by simp at he⟩
  refine ⟨.map (some w.heap.size), w.alloc (.map #[] 0), ?_, Γ, ρ', .mp _ k3 rfl, k1, k2⟩
  obtain ⟨kt, et⟩ := p
  rcases hk with rfl | ⟨k, n, rfl⟩
  . cases v with
    | none => simp [Instr.makeMap]
    | some v => exact hr.elim
  . cases v with
    | none => exact hr.elim
    | some v =>
      have hr : Rep Γ ρ (.int k n) v := hr
      cases hr
      simp [Instr.makeMap, run_underlying (keyT_ok ht), asInt, asIntOf]
theorem lookA_ok (hE : E.Ok) (h : Rel E fl Γ ρ σ w) {t : TypeId} {x k r : PV} {v u : Value} {ok : Bool} (hc : lookA E σ t x k ok = some r) (hx : Rep Γ ρ x v) (hk : Rep Γ ρ k u) :
    ∃ q, (Instr.lookup t v u ok).run E.P w = .ok q w /\ Rep Γ ρ r q := by
  unfold lookA at hc
  split at hc
  . rename_i kt et ht
    have hm := keyT_ok ht
    split at hc
    . rename_i hkey
      obtain ⟨d, hd⟩ := keyOk_under hkey
      split at hc
      . rename_i es hes
        have hA : ∃ A : Array MapEntry, ((v = .map none /\ A = #[]) ∨ ∃ (r clock : Nat), v = .map (some r) /\ w.heap[r]? = some (.map A clock)) /\ EntsOk Γ ρ es A.toList := by
          split at hes
          . cases hes
            cases hx
            exact ⟨#[], .inl ⟨rfl, rfl⟩, rfl, fun j e a he => by simp at he⟩
          . rename_i id
            cases hx with
            | mp l h1 hz =>
              cases hg : getMap σ id with
              | none => simp [hg] at hes
              | some m =>
                simp [hg] at hes
                subst hes
                obtain ⟨_, _, _, _, A, a1, a2, a3⟩ := h.mapAt h1 hg
                exact ⟨A, .inr ⟨_, _, rfl, a1⟩, a3⟩
          . cases hes
        obtain ⟨A, hrun, hents⟩ := hA
        have hck := keyOk_ok A.isEmpty 50 10000 (by decide) hkey hk w
        split at hc
        . rename_i i hf
          obtain ⟨hlt, hfind⟩ := findM_ok hE hd hk hf hents
          split at hc
          . rename_i e he
            cases hc
            obtain ⟨a, ha, _, hv⟩ := hents.at he
            have ha' : A[i]? = some a := by simpa using ha
            have hv' := hv.viewV (E.kinds et)
            have hrr : (Instr.lookup t v u ok).run E.P w = .ok (if ok then .tuple #[a.val, .bool true] else a.val) w := by
              rcases hrun with ⟨rfl, rfl⟩ | ⟨r, clock, rfl, hb⟩
              . cases ha'
              . simp only [Instr.lookup, Sem.run_bind, run_underlying hm, Result.andThen_ok, MapKept.run_getObj_map hb, hck, hfind w, foundAt, Nat.sub_zero, ha, Option.map_some, Sem.run_pure]
            refine ⟨_, hrr, ?_⟩
            cases ok
            . exact hv'
            . exact rep_pair hv' (.bool true)
          . cases hc
        . rename_i hf
          obtain ⟨hlt, hfind⟩ := findM_ok hE hd hk hf hents
          split at hc
          . rename_i z hz
            cases hc
            obtain ⟨i, zv, hi, hzv, hrz, hz1⟩ := zeroT_rep (Γ := Γ) (ρ := ρ) hz
            have hv' := hrz.viewV (E.kinds et)
            have hrr : (Instr.lookup t v u ok).run E.P w = .ok (if ok then .tuple #[zv, .bool false] else zv) w := by
              rcases hrun with ⟨rfl, rfl⟩ | ⟨r, clock, rfl, hb⟩
              . simp only [Instr.lookup, Sem.run_bind, run_underlying hm, Sem.run_pure, Result.andThen_ok, hck, hfind w, foundAt, zeroValue, typeInfo, run_program, hi, hzv]
              . simp only [Instr.lookup, Sem.run_bind, run_underlying hm, Sem.run_pure, Result.andThen_ok, MapKept.run_getObj_map hb, hck, hfind w, foundAt, zeroValue, typeInfo, run_program, hi, hzv]
            refine ⟨_, hrr, ?_⟩
            cases ok
            . exact hv'
            . exact rep_pair hv' (.bool false)
          . cases hc
        . cases hc
      . cases hc
    . cases hc
  . cases hc
theorem updateA_ok (hE : E.Ok) (h : Rel E fl Γ ρ σ w) {t : TypeId} {x k z : PV} {v u y : Value} {σ' : Store} (hc : updateA E fl σ t x k z = some σ') (hx : Rep Γ ρ x v) (hk : Rep Γ ρ k u) (hz : Rep Γ ρ z y) :
    ∃ w', (Instr.mapUpdate t v u y).run E.P w = .ok () w' /\ Rel E fl Γ ρ σ' w' /\ Post fl Γ ρ σ w Γ ρ σ' w' := by
  unfold updateA at hc
  split at hc
  . rename_i kt et id ht
    have hm := keyT_ok ht
    split at hc
    . rename_i hg
      rw [Bool.and_eq_true] at hg
      obtain ⟨hkey, hid⟩ := hg
      have hid := Nat.le_of_ble_eq_true hid
      obtain ⟨d, hd⟩ := keyOk_under hkey
      have hck := keyOk_ok false 50 10000 (by decide) hkey hk w
      split at hc
      . rename_i m hgm
        cases hx with
        | mp l h1 hlz =>
          obtain ⟨hget, l1, l2, hit, A, a1, a2, a3⟩ := h.mapAt h1 hgm
          simp only [Option.map_eq_some_iff] at hc
          obtain ⟨m', hm', rfl⟩ := hc
          unfold putM at hm'
          split at hm'
          . rename_i i hf
            obtain ⟨hlt, hfind⟩ := findM_ok hE hd hk hf a3
            split at hm'
            . rename_i e he
              split at hm'
              . rename_i hsame
                cases hm'
                obtain ⟨a, ha, hak, hav⟩ := a3.at he
                have ha' : A[i]? = some a := by simpa using ha
                obtain ⟨e1, e2⟩ := sameK_eq hsame hak hk
                have hst := run_keyThatStays (P := E.P) e2 w
                obtain ⟨k1, k2⟩ := setMap_ok h h1 hid hget (o := .map (A.modify i fun e => { e with key := u, val := y }) m.clock) (m := { m with es := m.es.set i (k, z) })
                  ⟨l1, l2, by rw [hit]; exact ⟨_, putB_new _ a1, (born_modify (A := A) (i := i) (f := fun e => { e with key := u, val := y }) fun e => rfl).trans a2, a3.setAt ha hk hz⟩⟩
                refine ⟨_, ?_, k1, k2⟩
                simp only [Instr.mapUpdate, Sem.run_bind, run_underlying hm, Result.andThen_ok, MapKept.run_getObj_map a1, hck, hfind w, foundAt, Nat.sub_zero, ha, Option.map_some, ha', Option.getD_some, hst, MapKept.run_setObj_map _ a1]
                rfl
              . cases hm'
            . cases hm'
          . rename_i hf
            cases hm'
            obtain ⟨hlt, hfind⟩ := findM_ok hE hd hk hf a3
            obtain ⟨k1, k2⟩ := setMap_ok h h1 hid hget (o := .map (A.push { key := u, val := y, born := m.clock }) (m.clock + 1)) (m := { m with es := m.es ++ [(k, z)], born := m.born ++ [m.clock], clock := m.clock + 1 })
              ⟨l1, l2, by simp only [hit]; exact ⟨_, putB_new _ a1, by simp [a2], a3.push hk hz⟩⟩
            refine ⟨_, ?_, k1, k2⟩
            simp only [Instr.mapUpdate, Sem.run_bind, run_underlying hm, Result.andThen_ok, MapKept.run_getObj_map a1, hck, hfind w, foundAt, MapKept.run_setObj_map _ a1]
            rfl
          . cases hm'
      . cases hc
    . cases hc
  . cases hc
theorem entryA_ok (hE : E.Ok) (h : Rel E fl Γ ρ σ w) {t : TypeId} {x k p : PV} {v u : Value} {σ' : Store} (hc : entryA E fl σ t x k = some (p, σ')) (hx : Rep Γ ρ x v) (hk : Rep Γ ρ k u) :
    ∃ r w', (Instr.mapEntry t v u).run E.P w = .ok r w' /\ Moves E fl Γ ρ σ w p σ' r w' := by
  unfold entryA at hc
  split at hc
  . rename_i kt et id ht
    have hm := keyT_ok ht
    split at hc
    . rename_i hg
      rw [Bool.and_eq_true] at hg
      obtain ⟨hkey, hid⟩ := hg
      have hid := Nat.le_of_ble_eq_true hid
      obtain ⟨d, hd⟩ := keyOk_under hkey
      have hck := keyOk_ok false 50 10000 (by decide) hkey hk w
      split at hc
      . rename_i m hgm
        cases hx with
        | mp l h1 hlz =>
          obtain ⟨hget, l1, l2, hit, A, a1, a2, a3⟩ := h.mapAt h1 hgm
          split at hc
          . rename_i i hf
            obtain ⟨hlt, hfind⟩ := findM_ok hE hd hk hf a3
            split at hc
            . rename_i e b he hb
              split at hc
              . rename_i hsame
                cases hc
                obtain ⟨a, ha, hak, hav⟩ := a3.at he
                have ha' : A[i]? = some a := by simpa using ha
                obtain ⟨e1, e2⟩ := sameK_eq hsame hak hk
                have hst := run_keyThatStays (P := E.P) e2 w
                have hborn : a.born = b := by
                  have : (A.toList.map MapEntry.born)[i]? = some b := by rw [a2]; exact hb
                  rw [List.getElem?_map, ha] at this
                  simpa using this
                have hset : m.es.set i (e.1, e.2) = m.es := by
                  apply List.ext_getElem?
                  intro j
                  by_cases hj : i = j
                  . subst hj
                    have := (List.getElem?_eq_some_iff.1 he).1
                    rw [List.getElem?_set_self this, he]
                  . rw [List.getElem?_set_ne hj]
                have hents := a3.setAt (i := i) (k := e.1) (v := e.2) (f := fun e => { e with key := u }) ha (by rw [e1] at hak; exact hak) hav
                rw [hset] at hents
                obtain ⟨k1, k2⟩ := setMap_ok h h1 hid hget (o := .map (A.modify i fun e => { e with key := u }) m.clock) (m := m)
                  ⟨l1, l2, by rw [hit]; exact ⟨_, putB_new _ a1, (born_modify (A := A) (i := i) (f := fun e => { e with key := u }) fun e => rfl).trans a2, hents⟩⟩
                have hsame : σ.set id (.map m) = σ := by
                  apply List.ext_getElem?
                  intro j
                  by_cases hj : id = j
                  . subst hj
                    rw [List.getElem?_set_self (h.id_lt h1), hget]
                  . rw [List.getElem?_set_ne hj]
                rw [hsame] at k1 k2
                refine ⟨.tuple #[a.val, Go.goInt a.born], _, ?_, Γ, ρ, rep_pair (hav.viewV _) (by rw [hborn]; exact .int _ _), k1, k2⟩
                simp only [Instr.mapEntry, Sem.run_bind, run_underlying hm, Result.andThen_ok, MapKept.run_getObj_map a1, hck, hfind w, foundAt, Nat.sub_zero, ha, Option.map_some, ha', Option.getD_some, hst, MapKept.run_setObj_map _ a1]
                rfl
              . cases hc
            . cases hc
          . rename_i hf
            obtain ⟨hlt, hfind⟩ := findM_ok hE hd hk hf a3
            split at hc
            . rename_i z hz
              cases hc
              obtain ⟨i, zv, hi, hzv, hrz, hz1⟩ := zeroT_rep (Γ := Γ) (ρ := ρ) hz
              obtain ⟨k1, k2⟩ := setMap_ok h h1 hid hget (o := .map (A.push { key := u, val := zv, born := m.clock }) (m.clock + 1)) (m := { m with es := m.es ++ [(k, z)], born := m.born ++ [m.clock], clock := m.clock + 1 })
                ⟨l1, l2, by simp only [hit]; exact ⟨_, putB_new _ a1, by simp [a2], a3.push hk hrz⟩⟩
              refine ⟨.tuple #[zv, Go.goInt m.clock], _, ?_, Γ, ρ, rep_pair (hrz.viewV _) (.int _ _), k1, k2⟩
              simp only [Instr.mapEntry, Sem.run_bind, run_underlying hm, Result.andThen_ok, MapKept.run_getObj_map a1, hck, hfind w, foundAt, zeroValue, typeInfo, run_program, hi, hzv, Sem.run_pure, MapKept.run_setObj_map _ a1]
              rfl
            . cases hc
          . cases hc
      . cases hc
    . cases hc
  . cases hc
theorem placeI_ok : ∀ {bs : List Nat} {A : List MapEntry} {b : Int} {i q : Nat}, placeI b bs i = some q -> A.map MapEntry.born = bs -> i <= q /\ ∀ (B : Array MapEntry), B.toList = A -> B.findIdx? (fun e => (e.born : Int) == b) = some (q - i) := by
  have main : ∀ {bs : List Nat} {A : List MapEntry} {b : Int} {i q : Nat}, placeI b bs i = some q -> A.map MapEntry.born = bs -> i <= q /\ A.findIdx? (fun e => (e.born : Int) == b) = some (q - i) := by
    intro bs
    induction bs with
    | nil => intro A b i q h _; cases h
    | cons x xs ih =>
      intro A b i q h hA
      cases A with
      | nil => cases hA
      | cons a A =>
        simp only [List.map_cons, List.cons.injEq] at hA
        unfold placeI at h
        split at h
        . rename_i hb
          cases h
          refine ⟨Nat.le_refl _, ?_⟩
          rw [List.findIdx?_cons, hA.1, if_pos hb, Nat.sub_self]
        . rename_i hb
          obtain ⟨h1, h2⟩ := ih h hA.2
          refine ⟨by omega, ?_⟩
          rw [List.findIdx?_cons, hA.1, if_neg hb, h2]
          simp
          omega
  intro bs A b i q h hA
  obtain ⟨h1, h2⟩ := main h hA
  refine ⟨h1, fun B hB => ?_⟩
  rw [<- h2, <- hB, <- List.findIdx?_toArray]
theorem entryStoreA_ok (h : Rel E fl Γ ρ σ w) {t : TypeId} {x b z : PV} {v u y : Value} {σ' : Store} (hc : entryStoreA fl σ x b z = some σ') (hx : Rep Γ ρ x v) (hb : Rep Γ ρ b u) (hz : Rep Γ ρ z y) :
    ∃ w', (Instr.entryStore t v u y).run E.P w = .ok () w' /\ Rel E fl Γ ρ σ' w' /\ Post fl Γ ρ σ w Γ ρ σ' w' := by
  unfold entryStoreA at hc
  split at hc
  . rename_i id kd n
    split at hc
    . rename_i hid
      have hid := Nat.le_of_ble_eq_true hid
      split at hc
      . rename_i m hgm
        cases hb
        cases hx with
        | mp l h1 hlz =>
          obtain ⟨hget, l1, l2, hit, A, a1, a2, a3⟩ := h.mapAt h1 hgm
          split at hc
          . rename_i i hp
            obtain ⟨_, hidx⟩ := placeI_ok hp a2
            have hidx := hidx A rfl
            rw [Nat.sub_zero] at hidx
            split at hc
            . rename_i e he
              cases hc
              obtain ⟨a, ha, hak, hav⟩ := a3.at he
              obtain ⟨k1, k2⟩ := setMap_ok h h1 hid hget (o := .map (A.modify i fun e => { e with val := y }) m.clock) (m := { m with es := m.es.set i (e.1, z) })
                ⟨l1, l2, by simp only [hit]; exact ⟨_, putB_new _ a1, (born_modify (A := A) (i := i) (f := fun e => { e with val := y }) fun e => rfl).trans a2, a3.setAt ha hak hz⟩⟩
              refine ⟨_, ?_, k1, k2⟩
              simp only [Instr.entryStore, Sem.run_bind, Result.andThen_ok, MapKept.run_getObj_map a1, asInt, asIntOf, Sem.run_pure, hidx, MapKept.run_setObj_map _ a1]
              rfl
            . cases hc
          . cases hc
      . cases hc
    . cases hc
  . cases hc
theorem born_erase (A : List MapEntry) (i : Nat) : (A.eraseIdx i).map MapEntry.born = (A.map MapEntry.born).eraseIdx i := by
  apply List.ext_getElem?
  intro j
  simp only [List.getElem?_map, List.getElem?_eraseIdx]
  split <;> rfl
theorem deleteA_ok (hE : E.Ok) (h : Rel E fl Γ ρ σ w) {argTypes : Array TypeId} {ty t : TypeId} (h0 : argTypes[0]? = some t) {x k p : PV} {v u : Value} {σ' : Store} (hc : deleteA E fl σ t x k = some (p, σ')) (hx : Rep Γ ρ x v) (hk : Rep Γ ρ k u) :
    ∃ r w', (Builtin.delete_ argTypes ty #[v, u]).run E.P w = .ok r w' /\ Moves E fl Γ ρ σ w p σ' r w' := by
  unfold deleteA at hc
  split at hc
  . rename_i kt et ht
    have hm := keyT_ok ht
    split at hc
    . rename_i hkey
      cases hc
      cases hx
      have hck := keyOk_ok true 50 10000 (by decide) hkey hk w
      refine ⟨.tuple #[], w, ?_, Moves.stay h rep_none⟩
      simp [Builtin.delete_, h0, run_underlying hm, hck]
    . cases hc
  . rename_i kt et id ht
    have hm := keyT_ok ht
    split at hc
    . rename_i hg
      rw [Bool.and_eq_true] at hg
      obtain ⟨hkey, hid⟩ := hg
      have hid := Nat.le_of_ble_eq_true hid
      obtain ⟨d, hd⟩ := keyOk_under hkey
      split at hc
      . rename_i m hgm
        cases hx with
        | mp l h1 hlz =>
          obtain ⟨hget, l1, l2, hit, A, a1, a2, a3⟩ := h.mapAt h1 hgm
          have hck := keyOk_ok A.isEmpty 50 10000 (by decide) hkey hk w
          split at hc
          . rename_i i hf
            obtain ⟨hlt, hfind⟩ := findM_ok hE hd hk hf a3
            cases hc
            have hilt := hlt i rfl
            obtain ⟨a, ha, _⟩ := a3.at (List.getElem?_eq_getElem hilt)
            obtain ⟨k1, k2⟩ := setMap_ok h h1 hid hget (o := .map (A.eraseIdxIfInBounds i) m.clock) (m := { m with es := m.es.eraseIdx i, born := m.born.eraseIdx i })
              ⟨l1, l2, by simp only [hit]; exact ⟨_, putB_new _ a1, by rw [Array.toList_eraseIdxIfInBounds, <- a2]; exact born_erase _ _, a3.erase i⟩⟩
            refine ⟨.tuple #[], _, ?_, Γ, ρ, rep_none, k1, k2⟩
            simp [Builtin.delete_, h0, run_underlying hm, MapKept.run_getObj_map a1, hck, hfind w, foundAt, ha, MapKept.run_setObj_map _ a1]
            rfl
          . rename_i hf
            obtain ⟨hlt, hfind⟩ := findM_ok hE hd hk hf a3
            cases hc
            obtain ⟨k1, k2⟩ := setMap_ok h h1 hid hget (o := .map A m.clock) (m := m) ⟨l1, l2, by rw [hit]; exact ⟨_, putB_new _ a1, a2, a3⟩⟩
            have hsame : σ.set id (.map m) = σ := by
              apply List.ext_getElem?
              intro j
              by_cases hj : id = j
              . subst hj
                rw [List.getElem?_set_self (h.id_lt h1), hget]
              . rw [List.getElem?_set_ne hj]
            rw [hsame] at k1 k2
            refine ⟨.tuple #[], _, ?_, Γ, ρ, rep_none, k1, k2⟩
            simp [Builtin.delete_, h0, run_underlying hm, MapKept.run_getObj_map a1, hck, hfind w, foundAt, MapKept.run_setObj_map _ a1]
            rfl
          . cases hc
      . cases hc
    . cases hc
  . cases hc
theorem clearM_ok (h : Rel E fl Γ ρ σ w) {argTypes : Array TypeId} {ty t kt et : TypeId} (h0 : argTypes[0]? = some t) (hm : E.P.underlying t = some (.map kt et)) {x p : PV} {v : Value} {σ' : Store} (hc : clearM fl σ x = some (p, σ')) (hx : Rep Γ ρ x v) :
    ∃ r w', (Builtin.clear_ argTypes ty #[v]).run E.P w = .ok r w' /\ Moves E fl Γ ρ σ w p σ' r w' := by
  unfold clearM at hc
  split at hc
  . cases hc
    cases hx
    exact ⟨.tuple #[], w, by simp [Builtin.clear_, h0, run_underlying hm], Moves.stay h rep_none⟩
  . rename_i id
    split at hc
    . rename_i hid
      have hid := Nat.le_of_ble_eq_true hid
      split at hc
      . rename_i m hgm
        cases hc
        cases hx with
        | mp l h1 hlz =>
          obtain ⟨hget, l1, l2, hit, A, a1, a2, a3⟩ := h.mapAt h1 hgm
          obtain ⟨k1, k2⟩ := setMap_ok h h1 hid hget (o := .map #[] m.clock) (m := { m with es := [], born := [] })
            ⟨l1, l2, by simp only [hit]; exact ⟨#[], putB_new _ a1, rfl, rfl, fun j e a he => by simp at he⟩⟩
          refine ⟨.tuple #[], _, ?_, Γ, ρ, rep_none, k1, k2⟩
          simp [Builtin.clear_, h0, run_underlying hm, MapKept.run_getObj_map a1, MapKept.run_setObj_map _ a1]
          rfl
      . cases hc
    . cases hc
  . cases hc
theorem rangeA_ok (h : Rel E fl Γ ρ σ w) (hfl : fl <= σ.length) {t : TypeId} {x p : PV} {v : Value} {σ' : Store} (hc : rangeA E σ t x = some (p, σ')) (hx : Rep Γ ρ x v) :
    ∃ r w', (Instr.range t v).run E.P w = .ok r w' /\ Moves E fl Γ ρ σ w p σ' r w' := by
  unfold rangeA at hc
  split at hc
  . rename_i kt ht
    obtain ⟨kt, et⟩ := kt
    have hm := keyT_ok ht
    cases hc
    cases hx
    obtain ⟨ρ', k1, k2, k3⟩ := newMap_ok h hfl (o := .mapIter none 0 #[] 0) (m := ⟨[], [], 0, some (none, 0, [], 0)⟩) fun ρ' _ => ⟨rfl, rfl, none, heap_alloc_new w _, rfl⟩
    refine ⟨.pointer (some ⟨w.heap.size, 0, none⟩), w.alloc (.mapIter none 0 #[] 0), ?_, Γ, ρ', .ptr _ k3 rfl, k1, k2⟩
    simp [Instr.range, run_underlying hm]
  . rename_i kt id ht
    obtain ⟨kt, et⟩ := kt
    have hm := keyT_ok ht
    split at hc
    . rename_i m hgm
      cases hc
      cases hx with
      | mp l h1 hlz =>
        obtain ⟨hget, l1, l2, hit, A, a1, a2, a3⟩ := h.mapAt h1 hgm
        obtain ⟨ρ', k1, k2, k3⟩ := newMap_ok h hfl (o := .mapIter (some l.block) m.clock #[] m.clock) (m := ⟨[], [], 0, some (some id, m.clock, [], m.clock)⟩) fun ρ' hle => ⟨rfl, rfl, some l.block, heap_alloc_new w _, OverOk.move (Γ := Γ) (Γ' := Γ) (o := some id) ⟨l, h1, hlz, rfl⟩ hle⟩
        refine ⟨.pointer (some ⟨w.heap.size, 0, none⟩), w.alloc (.mapIter (some l.block) m.clock #[] m.clock), ?_, Γ, ρ', .ptr _ k3 rfl, k1, k2⟩
        simp [Instr.range, run_underlying hm, MapKept.run_getObj_map a1]
    . cases hc
  . cases hc
theorem run_getObj_iter {P : Program} {r : Nat} {mo : Option Nat} {a c : Nat} {b : Array Nat} (hb : w.heap[r]? = some (.mapIter mo a b c)) : (getObj r).run P w = .ok (.mapIter mo a b c) w := by
  simp [getObj, Sem.run, hb]
theorem run_setObj_iter {P : Program} {r : Nat} {mo : Option Nat} {a c : Nat} {b : Array Nat} (o : Obj) (hb : w.heap[r]? = some (.mapIter mo a b c)) : (setObj r o).run P w = .ok () (World.putB w r o) := by
  simp [setObj, Sem.run, hb, World.putB]
theorem leftM_ok (seen : List Nat) : ∀ (bs : List Nat) (A : List MapEntry) (i : Nat), A.map MapEntry.born = bs -> ∀ (k : Nat), (leftM seen bs i).length = (A.filter fun e => !seen.contains e.born).length /\
    ∀ (j q : Nat), (leftM seen bs i)[j]? = some q -> i <= q /\ (A.filter fun e => !seen.contains e.born)[j]? = A[q - i]?
  | [], A, i, h, k => by
    have : A = [] := by simpa using h
    subst this
    exact ⟨rfl, fun j q hq => by simp [leftM] at hq⟩
  | b :: bs, [], i, h, k => by cases h
  | b :: bs, a :: A, i, h, k => by
    simp only [List.map_cons, List.cons.injEq] at h
    obtain ⟨h1, h2⟩ := leftM_ok seen bs A (i + 1) h.2 k
    unfold leftM
    rw [List.filter_cons, h.1]
    by_cases hs : seen.contains b = true
    . rw [if_pos hs, if_neg (by rw [hs]; decide)]
      refine ⟨h1, fun j q hq => ?_⟩
      obtain ⟨h3, h4⟩ := h2 j q hq
      refine ⟨by omega, ?_⟩
      rw [h4, show q - i = (q - (i + 1)) + 1 by omega, List.getElem?_cons_succ]
    . rw [if_neg hs, if_pos (by rw [Bool.not_eq_true] at hs; rw [hs]; decide)]
      refine ⟨by simp [h1], fun j q hq => ?_⟩
      cases j with
      | zero =>
        simp at hq
        subst hq
        exact ⟨Nat.le_refl _, by simp⟩
      | succ j =>
        obtain ⟨h3, h4⟩ := h2 j q (by simpa using hq)
        refine ⟨by omega, ?_⟩
        rw [List.getElem?_cons_succ, h4, show q - i = (q - (i + 1)) + 1 by omega, List.getElem?_cons_succ]
theorem nextA_ok (h : Rel E fl Γ ρ σ w) {ty : TypeId} {x p : PV} {v : Value} {σ' : Store} (hc : nextA fl σ x = some (p, σ')) (hx : Rep Γ ρ x v) :
    ∃ r w', (Instr.next v false ty).run E.P w = .ok r w' /\ Moves E fl Γ ρ σ w p σ' r w' := by
  unfold nextA at hc
  split at hc
  . rename_i it
    split at hc
    . rename_i q hq
      have hl : ∃ l : Loc, ρ it = some l /\ v = .pointer (some ⟨l.block, 0, none⟩) /\ MapOk Γ ρ w l q := by
        cases hx with
        | ptr l h1 h2 =>
          obtain ⟨ob, ho, hk⟩ := h.mem it l h1
          rw [hq] at ho
          cases ho
          exact ⟨l, h1, rfl, hk⟩
        | ptrOld l h1 h2 a =>
          obtain ⟨ob, ho, hk⟩ := h.mem it l h1
          rw [hq] at ho
          cases ho
          have := hk.2.1
          omega
      obtain ⟨l, h1, rfl, l1, l2, hk⟩ := hl
      have hover : (pure (Value.tuple #[.bool false]) : Sem Value).run E.P w = .ok (Value.tuple #[.bool false]) w := rfl
      have hfalse : Rep Γ ρ (.tup [.bool false]) (.tuple #[.bool false]) := .tup (vs := #[.bool false]) rfl (fun j x v hx hv => (Reps.cons (.bool false) Reps.nil : Reps Γ ρ [.bool false] [.bool false]).2 j x v hx (by simpa using hv))
      split at hc
      . rename_i a b c hi
        cases hc
        rw [hi] at hk
        obtain ⟨mo, m1, m2⟩ := hk
        have m2 : mo = none := m2
        subst m2
        refine ⟨.tuple #[.bool false], w, ?_, Moves.stay h hfalse⟩
        simp [Instr.next, run_getObj_iter m1]
      . rename_i id since seen last hi
        rw [hi] at hk
        obtain ⟨mo, m1, l', m2, m3, rfl⟩ := hk
        split at hc
        . rename_i m hgm
          obtain ⟨hget, l1', l2', hit, A, a1, a2, a3⟩ := h.mapAt m2 hgm
          split at hc
          . cases hc
          . rename_i hno
            have hborns : A.all (fun e => decide (e.born ≥ last)) = m.born.all (fun b => Nat.ble last b) := by
              rw [<- a2, <- Array.all_toList, List.all_map]
              congr 1
              funext e
              by_cases hc : last <= e.born
              . simp [hc, Nat.ble_eq]
              . have : Nat.ble last e.born = false := by rw [<- Bool.not_eq_true, Nat.ble_eq]; exact hc
                simp [hc, this]
            have hempty : A.isEmpty = m.es.isEmpty := by
              have := a3.1
              cases hA : A.toList with
              | nil =>
                have : A = #[] := by apply Array.ext'; simpa using hA
                subst this
                cases hm : m.es with
                | nil => rfl
                | cons e es => simp [hm] at this
              | cons e es =>
                have hne : A.isEmpty = false := by
                  rw [<- Bool.not_eq_true, Array.isEmpty_iff]
                  intro e; subst e; simp at hA
                rw [hne]
                cases hm : m.es with
                | nil => rw [hA, hm] at this; simp at this
                | cons e es => rfl
            have hguard : (!seen.toArray.isEmpty && !A.isEmpty && A.all fun x => decide (x.born ≥ last)) = false := by
              rw [hborns, hempty]
              have : seen.toArray.isEmpty = seen.isEmpty := by cases seen <;> rfl
              rw [this]
              simpa using hno
            obtain ⟨c1, c2⟩ := leftM_ok seen m.born A.toList 0 a2 0
            have hleft : (A.filter fun e => !seen.toArray.contains e.born).toList = A.toList.filter fun e => !seen.contains e.born := by simp
            split at hc
            . rename_i hnil
              cases hc
              rw [hnil] at c1
              have hf : A.filter (fun e => !seen.toArray.contains e.born) = #[] := by
                apply Array.ext'
                rw [hleft]
                exact List.eq_nil_of_length_eq_zero (by simpa using c1.symm)
              refine ⟨.tuple #[.bool false], w, ?_, Moves.stay h hfalse⟩
              simp only [Instr.next, Sem.run_bind, run_getObj_iter m1, Result.andThen_ok, MapKept.run_getObj_map a1, hguard, hf, Bool.false_eq_true, if_false]
              simp [Question.forced]
            . rename_i i hone
              split at hc
              . rename_i e b he hb
                split at hc
                . rename_i hcond
                  cases hc
                  rw [Bool.and_eq_true] at hcond
                  have hsince : b < since := Nat.le_of_ble_eq_true hcond.1
                  have hid := Nat.le_of_ble_eq_true hcond.2
                  obtain ⟨a, ha, hak, hav⟩ := a3.at he
                  have hborn : a.born = b := by
                    have : (A.toList.map MapEntry.born)[i]? = some b := by rw [a2]; exact hb
                    rw [List.getElem?_map, ha] at this
                    simpa using this
                  obtain ⟨_, c3⟩ := c2 0 i (by rw [hone]; rfl)
                  rw [Nat.sub_zero, ha] at c3
                  rw [hone] at c1
                  have hf : A.filter (fun e => !seen.toArray.contains e.born) = #[a] := by
                    apply Array.ext'
                    rw [hleft]
                    generalize A.toList.filter (fun e => !seen.contains e.born) = F at c1 c3
                    match F, c1, c3 with
                    | [y], _, c3 => simp at c3; rw [c3]
                  obtain ⟨k1, k2⟩ := setMap_ok h h1 hid hq (o := .mapIter (some l'.block) since (seen ++ [b]).toArray m.clock) (m := { q with iter := some (some id, since, seen ++ [b], m.clock) })
                    ⟨l1, l2, some l'.block, putB_new _ m1, l', m2, m3, rfl⟩
                  refine ⟨.tuple #[.bool true, a.key, a.val], _, ?_, Γ, ρ, rep_three (.bool true) hak hav, k1, k2⟩
                  have hs2 : (seen ++ [b]).toArray = seen.toArray.push a.born := by rw [hborn]; simp
                  rw [hs2]
                  have h1' : a.born < since := by omega
                  have h2' : ¬ since <= a.born := by omega
                  simp only [Instr.next, Sem.run_bind, run_getObj_iter m1, Result.andThen_ok, MapKept.run_getObj_map a1, hguard, hf, Bool.false_eq_true, if_false]
                  simp [h1', h2', Question.forced, run_setObj_iter _ m1]
                . cases hc
              . cases hc
            . cases hc
        . cases hc
      . cases hc
    . cases hc
  . cases hc
theorem entryIterA_ok (h : Rel E fl Γ ρ σ w) {x p : PV} {v : Value} (hc : entryIterA σ x = some p) (hx : Rep Γ ρ x v) :
    ∃ r, (Instr.entry v).run E.P w = .ok r w /\ Rep Γ ρ p r := by
  unfold entryIterA at hc
  split at hc
  . rename_i it
    split at hc
    . rename_i q hq
      have hl : ∃ l : Loc, ρ it = some l /\ v = .pointer (some ⟨l.block, 0, none⟩) /\ MapOk Γ ρ w l q := by
        cases hx with
        | ptr l h1 h2 =>
          obtain ⟨ob, ho, hk⟩ := h.mem it l h1
          rw [hq] at ho
          cases ho
          exact ⟨l, h1, rfl, hk⟩
        | ptrOld l h1 h2 a =>
          obtain ⟨ob, ho, hk⟩ := h.mem it l h1
          rw [hq] at ho
          cases ho
          have := hk.2.1
          omega
      obtain ⟨l, h1, rfl, l1, l2, hk⟩ := hl
      split at hc
      . rename_i id since seen last hi
        rw [hi] at hk
        obtain ⟨mo, m1, l', m2, m3, rfl⟩ := hk
        split at hc
        . rename_i m b hgm hb
          obtain ⟨hget, l1', l2', hit, A, a1, a2, a3⟩ := h.mapAt m2 hgm
          split at hc
          . rename_i hcl
            split at hc
            . rename_i i hp
              simp only [Option.map_eq_some_iff] at hc
              obtain ⟨e, he, rfl⟩ := hc
              obtain ⟨_, hidx⟩ := placeI_ok hp a2
              have hidx := hidx A rfl
              rw [Nat.sub_zero] at hidx
              obtain ⟨a, ha, hak, hav⟩ := a3.at he
              have ha' : A[i]? = some a := by simpa using ha
              have hfind : A.find? (fun e => e.born == b) = some a := by
                have h1 : A.toList.findIdx? (fun e => (e.born : Int) == (b : Int)) = some i := by
                  rw [<- List.findIdx?_toArray]; exact hidx
                have e1 : (fun e : MapEntry => (e.born : Int) == (b : Int)) = fun e => e.born == b := by
                  funext e
                  rw [Bool.eq_iff_iff, beq_iff_eq, beq_iff_eq]
                  omega
                rw [e1] at h1
                rw [<- Array.find?_toList]
                obtain ⟨hlt, h2, h3⟩ := List.findIdx?_eq_some_iff_getElem.1 h1
                rw [List.find?_eq_some_iff_getElem]
                have hai : A.toList[i] = a := by
                  rw [List.getElem?_eq_getElem hlt] at ha
                  exact Option.some.inj ha
                exact ⟨by rw [<- hai]; exact h2, i, hlt, hai, fun j hj => by rw [Bool.not_eq_true']; exact Bool.eq_false_iff.2 (h3 j hj)⟩
              have hback : seen.toArray.back? = some b := by rw [List.back?_toArray]; exact hb
              refine ⟨.tuple #[a.key, a.val], ?_, rep_pair hak hav⟩
              simp [Instr.entry, run_getObj_iter m1, hback, MapKept.run_getObj_map a1, hcl, hfind]
            . cases hc
          . cases hc
        . cases hc
      . cases hc
    . cases hc
  . cases hc
end
end
end Go.Proofs.YtaofbpldflcjmaaDoor.Am
