/- How the store and the world move together: something new; an object that turns, grows or moves; an object that is sealed. -/
import Derived.Test.YtpbemfikhmeedaaGreatDoorMZRel
set_option linter.unusedVariables false
set_option linter.unusedSimpArgs false
namespace Go.Proofs.YtpbemfikhmeedaaGreatDoor.Am
section
variable {E : Env} {fl : Nat} {Γ : Sealed} {ρ : Ren} {σ : Store} {w : World}
structure Same (w w' : World) : Prop where
  size : w.heap.size <= w'.heap.size
  os : w'.os = w.os
  tape : w'.tape = w.tape
  output : OutOk w w'
theorem cell?_heap {w w' : World} {a : Addr} (h : w'.heap[a.block]? = w.heap[a.block]?) : w'.cell? a = w.cell? a := by unfold World.cell?; rw [h]
theorem new_ok (h : Rel E fl Γ ρ σ w) (hfl : fl <= σ.length) {w' : World} (hs : Same w w') (hh : ∀ b, b < w.heap.size -> w'.heap[b]? = w.heap[b]?)
    {m : Mem} {C : Array Value} {T : TypeId} {cap blk : Nat} (hb : w.heap.size <= blk) (hC : w'.heap[blk]? = some (.cells C T (0, 0))) (hsz : C.size = cap * m.size)
    (hlen : m.cells.length = m.len * m.size) (hcap : m.len <= cap) (hex : m.exact = true -> cap = m.len) (h1 : m.cells.all PV.oneCell = true) (hr : Reps Γ ρ m.cells (C.toList.take m.cells.length)) :
    let ρ' : Ren := fun j => if j = σ.length then some ⟨blk, cap, m.len, m.size⟩ else ρ j
    Rel E fl Γ ρ' (σ ++ [.mem m]) w' /\ Post fl Γ ρ σ w Γ ρ' (σ ++ [.mem m]) w' /\ ρ' σ.length = some ⟨blk, cap, m.len, m.size⟩ := by
  intro ρ'
  have hnone : ρ σ.length = none := by
    cases hc : ρ σ.length with
    | none => rfl
    | some l => exact absurd (h.id_lt hc) (Nat.lt_irrefl _)
  have hle : Le Γ ρ Γ ρ' := ⟨fun _ _ _ hv => hv, fun id l hl => ⟨l, by
    have : id ≠ σ.length := fun e => by rw [e, hnone] at hl; cases hl
    simp [ρ', this, hl], .inl rfl⟩⟩
  refine ⟨?_, ?_, by simp [ρ']⟩
  . refine ⟨fun b o v hv => ?_, fun id l hl => ?_, fun id l m2 hl hf hm hi o => ?_, fun i j li lj hi hj e => ?_, fun g cells hg => ?_, ?_⟩
    . rw [<- h.fix b o v hv]
      exact cell?_heap (hh b (World.block_lt_of_cell? _ _ (h.fix b o v hv)))
    . by_cases hid : id = σ.length
      . subst hid
        simp only [ρ', if_true, Option.some.injEq] at hl
        subst hl
        exact ⟨.mem m, by simp, rfl, rfl, hlen, hcap, hex, h1, C, T, hC, hsz, hr.mono hle⟩
      . simp only [ρ', hid, if_false] at hl
        obtain ⟨ob, ho, hk⟩ := h.mem id l hl
        have hlt := h.id_lt hl
        exact ⟨ob, by rw [List.getElem?_append_left hlt]; exact ho, hk.move hle (hh _ (h.block_lt hl))⟩
    . by_cases hid : id = σ.length
      . subst hid
        simp only [ρ', if_true, Option.some.injEq] at hl
        subst hl
        cases hg : Γ blk o with
        | none => rfl
        | some v => have := h.seal_lt (b := blk) (o := o) (by simp [hg]); omega
      . simp only [ρ', hid, if_false] at hl
        rw [List.getElem?_append_left (h.id_lt hl)] at hm
        exact h.apart id l m2 hl hf hm hi o
    . by_cases hii : i = σ.length <;> by_cases hjj : j = σ.length
      . omega
      . simp only [ρ', hii, hjj, if_true, if_false, Option.some.injEq] at hi hj
        have := h.block_lt hj
        rw [<- hi] at e
        simp at e
        omega
      . simp only [ρ', hii, hjj, if_true, if_false, Option.some.injEq] at hi hj
        have := h.block_lt hi
        rw [<- hj] at e
        simp at e
        omega
      . simp only [ρ', hii, hjj, if_false] at hi hj
        exact h.inj i j li lj hi hj e
    . obtain ⟨vs, hv⟩ := h.glob g cells hg
      exact ⟨vs, fun j x hx => ⟨(hv j x hx).1, (hv j x hx).2.1, (hv j x hx).2.2.mono hle⟩⟩
    . refine h.rock.move h.glob (fun _ _ _ h => h) (fun b hb _ => hh b hb) (fun rb id l hlt r2 hl => ?_)
      by_cases hid : id = σ.length
      . simp only [ρ', hid, if_true, Option.some.injEq] at hl
        subst hl
        exact fun e => by simp only at e; omega
      . simp only [ρ', hid, if_false] at hl
        exact r2 id l hl
  . refine ⟨hle, fun id l hl => ?_, fun id hi => ?_, fun id hi => ?_, fun b o hn hs => absurd hn hs, fun b hb _ => hh b hb, hs.size, hs.os, hs.tape, hs.output, by simp, fun id m2 hm hi => ?_⟩
    . by_cases hid : id = σ.length
      . simp only [ρ', hid, if_true, Option.some.injEq] at hl
        subst hl
        exact .inr hb
      . simp only [ρ', hid, if_false] at hl
        exact .inl ⟨l, hl, rfl⟩
    . simp only [ρ', if_neg (show id ≠ σ.length by omega)]
    . rw [List.getElem?_append_left (by omega)]; exact .refl _
    . exact ⟨m2, by rw [List.getElem?_append_left (List.getElem?_eq_some_iff.1 hm).1]; exact hm, hi⟩
theorem change_ok (h : Rel E fl Γ ρ σ w) {id : Nat} {l : Loc} {m m' : Mem} (hl : ρ id = some l) (hm : σ[id]? = some (.mem m)) (hid : fl <= id) (hice : m.ice = false)
    {w' : World} (hs : Same w w') (hh : ∀ b, b < w.heap.size -> b ≠ l.block -> w'.heap[b]? = w.heap[b]?)
    {C : Array Value} {T : TypeId} {cap blk : Nat} (hb : blk = l.block /\ cap = l.cap ∨ w.heap.size <= blk /\ m.len < m'.len) (hC : w'.heap[blk]? = some (.cells C T (0, 0))) (hsz : C.size = cap * m'.size)
    (hsize : m'.size = m.size) (hice' : m'.ice = false) (hgrow : m'.len = m.len ∨ (m.len < m'.len /\ 0 < m.size))
    (hlen : m'.cells.length = m'.len * m'.size) (hcap : m'.len <= cap) (hex : m'.exact = true -> cap = m'.len) (h1 : m'.cells.all PV.oneCell = true) (hr : Reps Γ ρ m'.cells (C.toList.take m'.cells.length)) :
    let ρ' : Ren := fun j => if j = id then some ⟨blk, cap, m'.len, m'.size⟩ else ρ j
    Rel E fl Γ ρ' (σ.set id (.mem m')) w' /\ Post fl Γ ρ σ w Γ ρ' (σ.set id (.mem m')) w' /\ ρ' id = some ⟨blk, cap, m'.len, m'.size⟩ := by
  intro ρ'
  obtain ⟨e1, e2, e3, e4, e5, e6, C0, T0, e7, e8, e9⟩ := (h.memAt hl (by simp [getMem, hm] : getMem σ id = some m)).2
  have hidlt := h.id_lt hl
  have hloc : (⟨blk, cap, m'.len, m'.size⟩ : Loc) = l ∨ (l.len < m'.len /\ m'.size = l.size /\ 0 < l.size) := by
    rcases hgrow with hg | ⟨hg, hz⟩
    . rcases hb with ⟨hb1, hb2⟩ | ⟨_, hb2⟩
      . left
        cases l
        simp_all
      . omega
    . exact .inr ⟨by omega, by rw [hsize, e2], by rw [e2]; exact hz⟩
  have hle : Le Γ ρ Γ ρ' := ⟨fun _ _ _ hv => hv, fun j l2 hl2 => by
    by_cases hj : j = id
    . subst hj
      rw [hl] at hl2
      cases hl2
      exact ⟨_, by simp [ρ'], hloc⟩
    . exact ⟨l2, by simp [ρ', hj, hl2], .inl rfl⟩⟩
  have happ := h.apart id l m hl hid hm hice
  have hblk : blk = l.block ∨ w.heap.size <= blk := by rcases hb with ⟨hb, _⟩ | ⟨hb, _⟩ <;> simp [hb]
  have hgblk : ∀ o, Γ blk o = none := fun o => by
    rcases hblk with e | e
    . rw [e]; exact happ o
    . cases hg : Γ blk o with
      | none => rfl
      | some v => have := h.seal_lt (b := blk) (o := o) (by simp [hg]); omega
  refine ⟨?_, ?_, by simp [ρ']⟩
  . refine ⟨fun b o v hv => ?_, fun j l2 hl2 => ?_, fun j l2 m2 hl2 hf hm2 hi o => ?_, fun i j li lj hi hj e => ?_, fun g cells hg => ?_, ?_⟩
    . rw [<- h.fix b o v hv]
      refine cell?_heap (hh b (World.block_lt_of_cell? _ _ (h.fix b o v hv)) fun e => ?_)
      subst e
      rw [happ o] at hv
      cases hv
    . by_cases hj : j = id
      . subst hj
        simp only [ρ', if_true, Option.some.injEq] at hl2
        subst hl2
        exact ⟨.mem m', by simp [hidlt], rfl, rfl, hlen, hcap, hex, h1, C, T, hC, hsz, hr.mono hle⟩
      . simp only [ρ', hj, if_false] at hl2
        obtain ⟨ob, ho, hk⟩ := h.mem j l2 hl2
        have hne : l2.block ≠ l.block := fun e => hj (h.inj j id l2 l hl2 hl e)
        exact ⟨ob, by rw [List.getElem?_set_ne (Ne.symm hj)]; exact ho, hk.move hle (hh _ (h.block_lt hl2) hne)⟩
    . by_cases hj : j = id
      . subst hj
        simp only [ρ', if_true, Option.some.injEq] at hl2
        subst hl2
        exact hgblk o
      . simp only [ρ', hj, if_false] at hl2
        rw [List.getElem?_set_ne (Ne.symm hj)] at hm2
        exact h.apart j l2 m2 hl2 hf hm2 hi o
    . by_cases hii : i = id <;> by_cases hjj : j = id
      . rw [hii, hjj]
      . simp only [ρ', hii, hjj, if_true, if_false, Option.some.injEq] at hi hj
        have hlt := h.block_lt hj
        rw [<- hi] at e
        simp only at e
        rcases hblk with e' | e'
        . exact absurd (h.inj j id lj l hj hl (by rw [<- e, e'])) hjj
        . omega
      . simp only [ρ', hii, hjj, if_true, if_false, Option.some.injEq] at hi hj
        have hlt := h.block_lt hi
        rw [<- hj] at e
        simp only at e
        rcases hblk with e' | e'
        . exact absurd (h.inj i id li l hi hl (by rw [e, e'])) hii
        . omega
      . simp only [ρ', hii, hjj, if_false] at hi hj
        exact h.inj i j li lj hi hj e
    . obtain ⟨vs, hv⟩ := h.glob g cells hg
      exact ⟨vs, fun j x hx => ⟨(hv j x hx).1, (hv j x hx).2.1, (hv j x hx).2.2.mono hle⟩⟩
    . refine h.rock.move h.glob (fun _ _ _ h => h) (fun b hb hn => hh b hb (Ne.symm (hn id l hl))) (fun rb j l2 hlt r2 hl2 => ?_)
      by_cases hj : j = id
      . simp only [ρ', hj, if_true, Option.some.injEq] at hl2
        subst hl2
        intro e
        simp only at e
        rcases hblk with e' | e'
        . exact r2 id l hl (by rw [<- e', e])
        . omega
      . simp only [ρ', hj, if_false] at hl2
        exact r2 j l2 hl2
  . refine ⟨hle, fun j l2 hl2 => ?_, fun j hi => ?_, fun j hi => ?_, fun b o hn hs => absurd hn hs, fun b hb hc => ?_, hs.size, hs.os, hs.tape, hs.output, by simp, fun j m2 hm2 hi => ?_⟩
    . by_cases hj : j = id
      . simp only [ρ', hj, if_true, Option.some.injEq] at hl2
        subst hl2
        rcases hblk with e | e
        . exact .inl ⟨l, by rw [hj]; exact hl, e.symm⟩
        . exact .inr e
      . simp only [ρ', hj, if_false] at hl2
        exact .inl ⟨l2, hl2, rfl⟩
    . simp only [ρ', if_neg (show j ≠ id by omega)]
    . rw [List.getElem?_set_ne (by omega)]; exact .refl _
    . exact hh b hb fun e => by have := hc id l hl e.symm; omega
    . by_cases hj : j = id
      . subst hj; rw [hm] at hm2; cases hm2; rw [hice] at hi; cases hi
      . exact ⟨m2, by rw [List.getElem?_set_ne (Ne.symm hj)]; exact hm2, hi⟩
theorem seal_new (h : Rel E fl Γ ρ σ w) {w' : World} (hs : Same w w') (hh : ∀ b, b < w.heap.size -> w'.heap[b]? = w.heap[b]?)
    {C : Array Value} {T : TypeId} {blk : Nat} {fr : Nat × Nat} (hb : w.heap.size <= blk) (hC : w'.heap[blk]? = some (.cells C T fr)) :
    let Γ' : Sealed := fun b o => if b = blk then C[o]? else Γ b o
    Rel E fl Γ' ρ σ w' /\ Post fl Γ ρ σ w Γ' ρ σ w' /\ ∀ o, Γ' blk o = C[o]? := by
  intro Γ'
  have hnone : ∀ o, Γ blk o = none := fun o => by
    cases hg : Γ blk o with
    | none => rfl
    | some v => have := h.seal_lt (b := blk) (o := o) (by simp [hg]); omega
  have hle : Le Γ ρ Γ' ρ := ⟨fun b o v hv => by
    have : b ≠ blk := fun e => by rw [e, hnone o] at hv; cases hv
    simp [Γ', this, hv], fun id l hl => ⟨l, hl, .inl rfl⟩⟩
  refine ⟨?_, ?_, fun o => by simp [Γ']⟩
  . refine ⟨fun b o v hv => ?_, fun id l hl => ?_, fun id l m hl hf hm hi o => ?_, h.inj, fun g cells hg => ?_, h.rock.move h.glob hle.fix (fun b hb _ => hh b hb) (fun _ id l _ hn hl => hn id l hl)⟩
    . by_cases e : b = blk
      . subst e
        simp only [Γ', if_true] at hv
        simp [World.cell?, hC, hv]
      . simp only [Γ', e, if_false] at hv
        rw [<- h.fix b o v hv]
        exact cell?_heap (hh b (World.block_lt_of_cell? _ _ (h.fix b o v hv)))
    . obtain ⟨ob, ho, hk⟩ := h.mem id l hl
      exact ⟨ob, ho, hk.move hle (hh _ (h.block_lt hl))⟩
    . have : l.block ≠ blk := by have := h.block_lt hl; omega
      simp only [Γ', this, if_false]
      exact h.apart id l m hl hf hm hi o
    . obtain ⟨vs, hv⟩ := h.glob g cells hg
      exact ⟨vs, fun j x hx => ⟨hle.fix _ _ _ (hv j x hx).1, (hv j x hx).2.1, (hv j x hx).2.2.mono hle⟩⟩
  . refine { Post.refl fl Γ ρ σ w with le := hle, fresh := fun b o hn hc => ?_, frame := fun b hb _ => hh b hb, size := hs.size, os := hs.os, tape := hs.tape, output := hs.output }
    by_cases e : b = blk
    . exact .inl (by omega)
    . simp only [Γ', e, if_false] at hc
      exact absurd hn hc
theorem ice_ok (h : Rel E fl Γ ρ σ w) {id : Nat} {l : Loc} {m : Mem} (hl : ρ id = some l) (hm : σ[id]? = some (.mem m)) :
    ∃ Γ', Rel E fl Γ' ρ (σ.set id (.mem { m with ice := true })) w /\ Post fl Γ ρ σ w Γ' ρ (σ.set id (.mem { m with ice := true })) w /\
      ∀ (j : Nat) (x : PV), m.cells[j]? = some x -> ∃ v, Γ' l.block j = some v /\ Rep Γ' ρ x v /\ x.oneCell = true := by
  obtain ⟨e1, e2, e3, e4, e5, e6, C, T, e7, e8, e9⟩ := (h.memAt hl (by simp [getMem, hm] : getMem σ id = some m)).2
  have hidlt := h.id_lt hl
  have hcell : ∀ o, w.cell? ⟨l.block, o, none⟩ = C[o]? := fun o => by simp [World.cell?, e7]
  refine ⟨fun b o => if b = l.block then C[o]? else Γ b o, ?_⟩
  generalize hΓ : (fun b o => if b = l.block then C[o]? else Γ b o : Sealed) = Γ'
  have hle : Le Γ ρ Γ' ρ := ⟨fun b o v hv => by
    subst hΓ
    by_cases e : b = l.block
    . subst e
      have := h.fix _ o v hv
      rw [hcell] at this
      simp [this]
    . simp [e, hv], fun id l hl => ⟨l, hl, .inl rfl⟩⟩
  refine ⟨?_, ?_, fun j x hx => ?_⟩
  . refine ⟨fun b o v hv => ?_, fun j l2 hl2 => ?_, fun j l2 m2 hl2 hf hm2 hi o => ?_, h.inj, fun g cells hg => ?_, h.rock.move h.glob hle.fix (fun _ _ _ => rfl) (fun _ id l _ hn hl => hn id l hl)⟩
    . subst hΓ
      by_cases e : b = l.block
      . subst e; simp only [if_true] at hv; rw [hcell, hv]
      . simp only [e, if_false] at hv; exact h.fix b o v hv
    . by_cases hj : j = id
      . subst hj
        rw [hl] at hl2
        cases hl2
        exact ⟨.mem { m with ice := true }, by simp [hidlt], e1, e2, e3, e4, e5, e6, C, T, e7, e8, e9.mono hle⟩
      . obtain ⟨ob, ho, hk⟩ := h.mem j l2 hl2
        exact ⟨ob, by rw [List.getElem?_set_ne (Ne.symm hj)]; exact ho, hk.move hle rfl⟩
    . by_cases hj : j = id
      . subst hj
        simp [hidlt] at hm2
        rw [<- hm2] at hi
        cases hi
      . rw [List.getElem?_set_ne (Ne.symm hj)] at hm2
        subst hΓ
        have hne : l2.block ≠ l.block := fun e => hj (h.inj j id l2 l hl2 hl e)
        simp only [hne, if_false]
        exact h.apart j l2 m2 hl2 hf hm2 hi o
    . obtain ⟨vs, hv⟩ := h.glob g cells hg
      exact ⟨vs, fun j x hx => ⟨hle.fix _ _ _ (hv j x hx).1, (hv j x hx).2.1, (hv j x hx).2.2.mono hle⟩⟩
  . refine { Post.refl fl Γ ρ σ w with le := hle, fresh := fun b o hn hc => ?_, lowS := fun j hj => ?_, len := by simp, ice := fun j m2 hm2 hi => ?_ }
    . by_cases hj : j = id
      . subst hj
        rw [hm]
        simp [hidlt, SameOb]
      . rw [List.getElem?_set_ne (Ne.symm hj)]; exact .refl _
    . subst hΓ
      by_cases e : b = l.block
      . exact .inr ⟨id, l, { m with ice := true }, hl, e.symm, by simp [hidlt], rfl⟩
      . simp only [e, if_false] at hc
        exact absurd hn hc
    . by_cases hj : j = id
      . subst hj
        exact ⟨{ m with ice := true }, by simp [hidlt], rfl⟩
      . exact ⟨m2, by rw [List.getElem?_set_ne (Ne.symm hj)]; exact hm2, hi⟩
  . have hj : j < m.cells.length := (List.getElem?_eq_some_iff.1 hx).1
    have hjC : j < (C.toList.take m.cells.length).length := by have := e9.1; omega
    have hv : (C.toList.take m.cells.length)[j]? = some (C.toList.take m.cells.length)[j] := List.getElem?_eq_getElem hjC
    refine ⟨_, ?_, (e9.2 j x _ hx hv).mono hle, List.all_eq_true.1 e6 x (List.mem_of_getElem? hx)⟩
    subst hΓ
    rw [List.getElem?_take, if_pos hj, Array.getElem?_toList] at hv
    simp only [if_true]
    exact hv
end
end Go.Proofs.YtpbemfikhmeedaaGreatDoor.Am
