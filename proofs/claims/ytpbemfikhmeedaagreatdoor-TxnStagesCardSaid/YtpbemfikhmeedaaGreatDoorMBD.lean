/- Part of the road on a part of the store: cutting what is known to what was there ahead of an operation, and joining what it made. -/
import Derived.Test.YtpbemfikhmeedaaGreatDoorMBS
import Derived.Test.YtpbemfikhmeedaaGreatDoorMZAm2
import Derived.Scope
import Derived.RangeFuncLeaves
import Derived.RangeFuncOwn
set_option linter.unusedVariables false
set_option linter.unusedSimpArgs false
namespace Go.Proofs.YtpbemfikhmeedaaGreatDoor.Am
section
section
variable {E : Env} {fl : Nat} {Γ : Sealed} {ρ : Ren} {σ : Store} {w : World}
theorem sameIce_get : ∀ {σ σ' : Store} {id : Nat} {m m' : Mem}, sameIce σ σ' = true -> σ[id]? = some (.mem m) -> σ'[id]? = some (.mem m') -> m'.ice = m.ice /\ m'.box = m.box
  | [], σ', id, m, m', _, h, _ => by simp at h
  | .mem n :: σ, [], id, m, m', _, _, h => by simp at h
  | .map n :: σ, [], id, m, m', _, _, h => by simp at h
  | .mem n :: σ, .map n' :: σ', id, m, m', h, _, _ => by simp [sameIce] at h
  | .map n :: σ, .mem n' :: σ', id, m, m', h, _, _ => by simp [sameIce] at h
  | .mem n :: σ, .mem n' :: σ', 0, m, m', h, h1, h2 => by
    simp only [sameIce, Bool.and_eq_true, beq_iff_eq] at h
    simp at h1 h2
    subst h1 h2
    exact ⟨h.1.symm, h.2.1.symm⟩
  | .map n :: σ, .map n' :: σ', 0, m, m', h, h1, h2 => by simp at h1
  | .mem n :: σ, .mem n' :: σ', id + 1, m, m', h, h1, h2 => by
    simp only [sameIce, Bool.and_eq_true] at h
    exact sameIce_get h.2.2 (by simpa using h1) (by simpa using h2)
  | .map n :: σ, .map n' :: σ', id + 1, m, m', h, h1, h2 => by
    simp only [sameIce] at h
    exact sameIce_get h (by simpa using h1) (by simpa using h2)
theorem stays {Γ' ρ' σ' w'} (hp : Post σ.length Γ ρ σ w Γ' ρ' σ' w') (hi : sameIce σ σ' = true) : σ ++ σ'.drop σ.length = σ' := by
  apply List.ext_getElem?
  intro j
  by_cases hj : j < σ.length
  . rw [List.getElem?_append_left hj]
    have h := hp.lowS j hj
    have hj' : j < σ'.length := Nat.lt_of_lt_of_le hj hp.len
    have e1 : σ[j]? = some σ[j] := by simp [hj]
    have e2 : σ'[j]? = some σ'[j] := by simp [hj']
    cases h1 : σ[j] with
    | map es =>
      rw [e1, h1] at h
      simp only [SameOb] at h
      rw [e1, h1]
      exact h
    | mem m =>
      rw [e1, h1] at h
      obtain ⟨m', hm', k1, k2, k3, k4⟩ := h.mem
      have k5 := sameIce_get hi (e1.trans (by rw [h1])) hm'
      rw [e1, h1, hm']
      cases m; cases m'
      simp_all
  . rw [List.getElem?_append_right (by omega), List.getElem?_drop]
    congr 1
    omega
theorem Rel.raise {fl' : Nat} (h : Rel E fl Γ ρ σ w) (hf : fl <= fl') : Rel E fl' Γ ρ σ w :=
  { h with apart := fun id l m hl hid => h.apart id l m hl (Nat.le_trans hf hid) }
def cutR (k : Nat) (ρ : Ren) : Ren := fun id => if id < k then ρ id else none
theorem cutR_some {k : Nat} {id : Nat} {l : Loc} (h : cutR k ρ id = some l) : id < k /\ ρ id = some l := by
  unfold cutR at h
  split at h
  . exact ⟨by assumption, h⟩
  . cases h
theorem cutR_lt {k : Nat} {id : Nat} (h : id < k) : ρ id = cutR k ρ id := by unfold cutR; rw [if_pos h]
theorem cut_le (k : Nat) : Le Γ (cutR k ρ) Γ ρ := ⟨fun _ _ _ h => h, fun id l h => ⟨l, (cutR_some h).2, .inl rfl⟩⟩
theorem Rel.cut (hE : E.Ok) {more : Store} (h : Rel E fl Γ ρ (σ ++ more) w) (hf : fl <= σ.length) (hold : ∀ (id : Nat) (l : Loc) (ob : Ob), id < σ.length -> ρ id = some l -> σ[id]? = some ob -> obOld σ.length ob = true) :
    Rel E fl Γ (cutR σ.length ρ) σ w := by
  refine ⟨h.fix, fun id l hl => ?_, fun id l m hl hid hm hi o => ?_, fun i j li lj hi hj => h.inj i j li lj (cutR_some hi).2 (cutR_some hj).2, fun g cells hg => ?_, h.rock.move h.glob (fun _ _ _ h => h) (fun _ _ _ => rfl) (fun b id l _ hn hl => hn id l (cutR_some hl).2)⟩
  . obtain ⟨h1, h2⟩ := cutR_some hl
    obtain ⟨ob, ho, hk⟩ := h.mem id l h2
    rw [List.getElem?_append_left h1] at ho
    exact ⟨ob, ho, hk.old (fun id hid => cutR_lt hid) (hold id l ob h1 h2 ho)⟩
  . obtain ⟨h1, h2⟩ := cutR_some hl
    exact h.apart id l m h2 hid (by rw [List.getElem?_append_left h1]; exact hm) hi o
  . obtain ⟨vs, hv⟩ := h.glob g cells hg
    exact ⟨vs, fun j x hx => ⟨(hv j x hx).1, (hv j x hx).2.1, (hv j x hx).2.2.old (n := 0) (fun id hid => absurd hid (Nat.not_lt_zero id)) (oldL_get (hE.glob g cells hg) hx)⟩⟩
theorem Rel.pad {more : Store} (h : Rel E fl Γ ρ σ w) : Rel E fl Γ ρ (σ ++ more) w := by
  refine ⟨h.fix, fun id l hl => ?_, fun id l m hl hid hm => h.apart id l m hl hid ?_, h.inj, h.glob, h.rock⟩
  . obtain ⟨ob, ho, hk⟩ := h.mem id l hl
    exact ⟨ob, by rw [List.getElem?_append_left (h.id_lt hl)]; exact ho, hk⟩
  . rwa [List.getElem?_append_left (h.id_lt hl)] at hm
theorem Post.pad {Γ' ρ' σ' w'} {more : Store} (hR : Rel E fl Γ ρ σ w) (hf : fl <= σ.length) (h : Post fl Γ ρ σ w Γ' ρ' σ' w') : Post fl Γ ρ σ w Γ' ρ' (σ' ++ more) w' := by
  have hget : ∀ id, id < σ.length -> (σ' ++ more)[id]? = σ'[id]? := fun id hid => List.getElem?_append_left (Nat.lt_of_lt_of_le hid h.len)
  refine { h with lowS := fun id hid => ?_, fresh := fun b o h1 h2 => ?_, len := ?_, ice := fun id m h1 h2 => ?_ }
  . rw [hget id (by omega)]; exact h.lowS id hid
  . rcases h.fresh b o h1 h2 with h3 | ⟨id, l, m, h3, h4, h5, h6⟩
    . exact .inl h3
    . exact .inr ⟨id, l, m, h3, h4, by rw [hget id (hR.id_lt h3)]; exact h5, h6⟩
  . have := h.len
    simp
    omega
  . obtain ⟨m', h3, h4⟩ := h.ice id m h1 h2
    exact ⟨m', by rw [hget id (List.getElem?_eq_some_iff.1 h1).1]; exact h3, h4⟩
def joinR (a b : Nat) (ρ ρ1 : Ren) : Ren := fun id => if a <= id /\ id < b then ρ1 id else ρ id
theorem join_ok {new more : Store} {Γ1 : Sealed} {ρ1 : Ren} {w1 : World} (h : Rel E fl Γ ρ (σ ++ (new ++ more)) w) (hf : fl <= σ.length) (hnone : ∀ id, σ.length <= id -> id < (σ ++ new).length -> ρ id = none)
    (h1 : Rel E σ.length Γ1 ρ1 (σ ++ new) w1) (hp : Post σ.length Γ (cutR σ.length ρ) σ w Γ1 ρ1 (σ ++ new) w1) :
    let ρ2 := joinR σ.length (σ ++ new).length ρ ρ1
    Rel E fl Γ1 ρ2 (σ ++ (new ++ more)) w1 /\ Post fl Γ ρ (σ ++ (new ++ more)) w Γ1 ρ2 (σ ++ (new ++ more)) w1 /\ Le Γ1 ρ1 Γ1 ρ2 := by
  intro ρ2
  have hnew : ∀ id, σ.length <= id -> id < (σ ++ new).length -> ρ2 id = ρ1 id := fun id ha hb => by simp only [ρ2, joinR, if_pos (And.intro ha hb)]
  have hold : ∀ id, ¬ (σ.length <= id /\ id < (σ ++ new).length) -> ρ2 id = ρ id := fun id hn => by simp only [ρ2, joinR, if_neg hn]
  have hlow : ∀ id, id < σ.length -> ρ1 id = ρ id := fun id hid => (hp.low id hid).trans (cutR_lt hid).symm
  have hst : ∀ id, id < (σ ++ new).length -> (σ ++ (new ++ more))[id]? = (σ ++ new)[id]? := fun id hid => by rw [<- List.append_assoc, List.getElem?_append_left hid]
  have hle1 : Le Γ1 ρ1 Γ1 ρ2 := ⟨fun _ _ _ h => h, fun id l hl => ⟨l, by
    have hid := h1.id_lt hl
    by_cases ha : σ.length <= id
    . rw [hnew id ha hid]; exact hl
    . rw [hold id (fun hc => ha hc.1), <- hlow id (by omega)]; exact hl, .inl rfl⟩⟩
  have hle : Le Γ ρ Γ1 ρ2 := ⟨hp.le.fix, fun id l hl => ⟨l, by
    rw [hold id (fun hc => by rw [hnone id hc.1 hc.2] at hl; cases hl)]; exact hl, .inl rfl⟩⟩
  have hheap : ∀ b, b < w.heap.size -> w1.heap[b]? = w.heap[b]? := fun b hb => hp.frame b hb fun id l hl _ => (cutR_some hl).1
  have hnewblk : ∀ id l, σ.length <= id -> ρ1 id = some l -> w.heap.size <= l.block := by
    intro id l ha hl
    rcases hp.blocks id l hl with ⟨l0, h0, _⟩ | h0
    . have := (cutR_some h0).1; omega
    . exact h0
  have hfresh : ∀ b o, Γ b o = none -> Γ1 b o ≠ none -> w.heap.size <= b ∨ ∃ (id : Nat) (l : Loc) (m : Mem), ρ id = some l /\ l.block = b /\ (σ ++ (new ++ more))[id]? = some (.mem m) /\ m.ice = true := by
    intro b o k1 k2
    rcases hp.fresh b o k1 k2 with k3 | ⟨id, l, m, k3, k4, k5, k6⟩
    . exact .inl k3
    . obtain ⟨k7, k8⟩ := cutR_some k3
      exact .inr ⟨id, l, m, k8, k4, by rw [hst id (by simp; omega)]; exact k5, k6⟩
  refine ⟨⟨h1.fix, fun id l hl => ?_, fun id l m hl hid hm hi o => ?_, fun i j li lj hi hj e => ?_, fun g cells hg => ?_, ?_⟩, ?_, hle1⟩
  . by_cases hc : σ.length <= id /\ id < (σ ++ new).length
    . rw [hnew id hc.1 hc.2] at hl
      obtain ⟨ob, ho, hk⟩ := h1.mem id l hl
      exact ⟨ob, by rw [hst id hc.2]; exact ho, hk.move hle1 rfl⟩
    . rw [hold id hc] at hl
      obtain ⟨ob, ho, hk⟩ := h.mem id l hl
      exact ⟨ob, ho, hk.move hle (hheap _ (h.block_lt hl))⟩
  . by_cases hc : σ.length <= id /\ id < (σ ++ new).length
    . rw [hnew id hc.1 hc.2] at hl
      rw [hst id hc.2] at hm
      exact h1.apart id l m hl hc.1 hm hi o
    . rw [hold id hc] at hl
      cases hg : Γ1 l.block o with
      | none => rfl
      | some u =>
        rcases hfresh l.block o (h.apart id l m hl hid hm hi o) (by simp [hg]) with h3 | ⟨id', l', m', h3, h4, h5, h6⟩
        . have := h.block_lt hl; omega
        . have := h.inj id' id l' l h3 hl h4
          subst this
          rw [hm] at h5; cases h5; rw [hi] at h6; cases h6
  . by_cases hci : σ.length <= i /\ i < (σ ++ new).length
    . rw [hnew i hci.1 hci.2] at hi
      by_cases hcj : σ.length <= j /\ j < (σ ++ new).length
      . rw [hnew j hcj.1 hcj.2] at hj
        exact h1.inj i j li lj hi hj e
      . rw [hold j hcj] at hj
        have k1 := hnewblk i li hci.1 hi
        have k2 := h.block_lt hj
        omega
    . rw [hold i hci] at hi
      by_cases hcj : σ.length <= j /\ j < (σ ++ new).length
      . rw [hnew j hcj.1 hcj.2] at hj
        have k1 := hnewblk j lj hcj.1 hj
        have k2 := h.block_lt hi
        omega
      . rw [hold j hcj] at hj
        exact h.inj i j li lj hi hj e
  . obtain ⟨vs, hv⟩ := h.glob g cells hg
    exact ⟨vs, fun j x hx => ⟨hle.fix _ _ _ (hv j x hx).1, (hv j x hx).2.1, (hv j x hx).2.2.mono hle⟩⟩
  . refine h.rock.move h.glob hp.le.fix (fun b hb _ => hheap b hb) (fun b id l hb hn hl => ?_)
    by_cases hc : σ.length <= id /\ id < (σ ++ new).length
    . rw [hnew id hc.1 hc.2] at hl
      have := hnewblk id l hc.1 hl
      omega
    . rw [hold id hc] at hl
      exact hn id l hl
  . exact {
      le := hle
      blocks := fun id l' hl => by
        by_cases hc : σ.length <= id /\ id < (σ ++ new).length
        . rw [hnew id hc.1 hc.2] at hl
          exact .inr (hnewblk id l' hc.1 hl)
        . rw [hold id hc] at hl
          exact .inl ⟨l', hl, rfl⟩
      low := fun id hid => hold id (fun hc => by omega)
      lowS := fun id _ => .refl _
      fresh := hfresh
      frame := fun b hb _ => hheap b hb
      size := hp.size
      os := hp.os
      tape := hp.tape
      output := hp.output
      len := Nat.le_refl _
      ice := fun id m k1 k2 => ⟨m, k1, k2⟩ }
theorem tight_ok (hE : E.Ok) {rec : Rec} (hrec : SoundRec E rec) (h : Rel E fl Γ ρ σ w) (hfl : fl <= σ.length) {ev : Operand -> Option PV} {a : Act} (he : EnvOk Γ ρ ev a) {o : Oper} {p : PV} {σ' : Store}
    (hs : opA E rec fl true ev σ o.op = some (p, σ')) : (∃ new, σ' = σ ++ new) /\ StepOk E.P o a w (Moves E σ.length Γ ρ σ w p σ') := by
  simp only [opA, if_true] at hs
  split at hs
  . rename_i v σ1 hv
    split at hs
    . rename_i hi
      cases hs
      refine ⟨⟨_, rfl⟩, (stepA_ok hE hrec (h.raise hfl) (Nat.le_refl _) he hv).mono fun r w' hm => ?_⟩
      obtain ⟨Γ1, ρ1, hr, hR, hP⟩ := hm
      rw [stays hP hi]
      exact ⟨Γ1, ρ1, hr, hR, hP⟩
    . cases hs
  . cases hs
end
end
section
theorem masksGo_prefix : ∀ (ops : List Oper) (acc : List Nat), ∃ m, masksGo ops acc = acc ++ m /\ m.length = ops.length
  | [], acc => ⟨[], by simp [masksGo], rfl⟩
  | o :: ops, acc => by
    obtain ⟨m, h1, h2⟩ := masksGo_prefix ops (acc ++ [maskOf acc o])
    exact ⟨maskOf acc o :: m, by simp [masksGo, h1], by simp [h2]⟩
theorem masksGo_get : ∀ (ops : List Oper) (acc : List Nat) (j : Nat) (o : Oper), ops[j]? = some o ->
    (masksGo ops acc)[acc.length + j]? = some (maskOf ((masksGo ops acc).take (acc.length + j)) o)
  | [], acc, j, o, h => by simp at h
  | o :: ops, acc, 0, o', h => by
    simp at h
    subst h
    obtain ⟨m, h1, h2⟩ := masksGo_prefix ops (acc ++ [maskOf acc o])
    simp only [masksGo, h1, Nat.add_zero, List.append_assoc]
    rw [List.getElem?_append_right (Nat.le_refl _), List.take_left']
    . simp
    . rfl
  | o :: ops, acc, j + 1, o', h => by
    have := masksGo_get ops (acc ++ [maskOf acc o]) j o' (by simpa using h)
    simp only [masksGo]
    rw [show acc.length + (j + 1) = (acc ++ [maskOf acc o]).length + j by simp; omega]
    exact this
def anc (ops : Array Oper) (i j : Nat) : Prop := ((masks ops).getD j 0).testBit i = true
theorem mask_bits (acc : List Nat) (i : Nat) : ∀ (l : List Edge) (s : Nat), (l.foldl (fun s e => if Region.binds .any e then s ||| 2 ^ e.on ||| acc.getD e.on 0 else s) s).testBit i = true ->
    s.testBit i = true ∨ ∃ e ∈ l, Region.binds .any e = true /\ (e.on = i ∨ (acc.getD e.on 0).testBit i = true)
  | [], s, h => .inl h
  | e :: l, s, h => by
    rcases mask_bits acc i l _ h with h1 | ⟨e', h1, h2⟩
    . dsimp only at h1
      split at h1
      . rename_i hb
        rw [Nat.testBit_or, Nat.testBit_or, Bool.or_eq_true, Bool.or_eq_true] at h1
        rcases h1 with (h1 | h1) | h1
        . exact .inl h1
        . rw [Nat.testBit_two_pow] at h1
          exact .inr ⟨e, by simp, hb, .inl (by simpa using h1)⟩
        . exact .inr ⟨e, by simp, hb, .inr h1⟩
      . exact .inl h1
    . exact .inr ⟨e', by simp [h1], h2⟩
theorem anc_edge {ops : Array Oper} {i j : Nat} (h : anc ops i j) : ∃ o, ops[j]? = some o /\ ∃ e ∈ o.after, Region.binds .any e = true /\ (e.on = i ∨ anc ops i e.on) := by
  unfold anc at h
  obtain ⟨m, h1, h2⟩ := masksGo_prefix ops.toList []
  have hlen : (masks ops).length = ops.size := by unfold masks; rw [h1]; simpa using h2
  rcases Nat.lt_or_ge j ops.size with hj | hj
  . have ho : ops[j]? = some ops[j] := by simp [hj]
    have hg := masksGo_get ops.toList [] j ops[j] (by simp [hj])
    simp only [List.length_nil, Nat.zero_add] at hg
    have hm : (masks ops).getD j 0 = maskOf ((masks ops).take j) ops[j] := by
      unfold masks
      rw [List.getD_eq_getElem?_getD, hg]
      rfl
    rw [hm] at h
    unfold maskOf at h
    rcases mask_bits _ i _ 0 h with h3 | ⟨e, h3, h4, h5⟩
    . simp at h3
    . refine ⟨_, ho, e, by simpa using h3, h4, ?_⟩
      rcases h5 with h5 | h5
      . exact .inl h5
      . refine .inr ?_
        unfold anc
        by_cases hlt : e.on < j
        . rw [List.getD_eq_getElem?_getD, List.getElem?_take, if_pos hlt] at h5
          rw [List.getD_eq_getElem?_getD]
          exact h5
        . rw [List.getD_eq_getElem?_getD, List.getElem?_take, if_neg hlt] at h5
          simp at h5
  . rw [List.getD_eq_getElem?_getD, List.getElem?_eq_none (by omega)] at h
    simp at h
def Closed (ops : Array Oper) (L : Array Bool) : Prop := ∀ i j, L.getD j false = true -> anc ops i j -> L.getD i false = true
theorem ready_anc {ops : Array Oper} {L : Array Bool} (hc : Closed ops L) {j : Nat} (hr : j ∈ Region.ready .any ops L) {i : Nat} (h : anc ops i j) : L.getD i false = true := by
  obtain ⟨_, o, ho, hall⟩ := mem_ready.1 hr
  obtain ⟨o', ho', e, he, hb, h1⟩ := anc_edge h
  rw [ho] at ho'
  cases ho'
  have hl := hall e he hb
  rcases h1 with h1 | h1
  . rw [<- h1]; exact hl
  . exact hc i e.on hl h1
theorem getD_set {L : Array Bool} {i j : Nat} : (L.setIfInBounds i true).getD j false = true ↔ L.getD j false = true ∨ (j = i /\ i < L.size) := by
  by_cases h : i = j
  . subst h
    by_cases hlt : i < L.size <;> simp [hlt]
  . rw [getD_set_ne false h]
    simp [Ne.symm h]
theorem closed_set {ops : Array Oper} {L : Array Bool} (hc : Closed ops L) {j : Nat} (hr : j ∈ Region.ready .any ops L) : Closed ops (L.setIfInBounds j true) := by
  intro i k hk ha
  rw [getD_set] at hk ⊢
  rcases hk with hk | ⟨rfl, _⟩
  . exact .inl (hc i k hk ha)
  . exact .inl (ready_anc hc hr ha)
theorem ordered_anc {ops : Array Oper} {i j : Nat} (h : ordered (masks ops) i j = true) (hij : i < j) : anc ops i j := by
  unfold ordered at h
  rw [Nat.max_eq_right (by omega), Nat.min_eq_left (by omega)] at h
  exact h
theorem ordered_anc' {ops : Array Oper} {i j : Nat} (h : ordered (masks ops) i j = true) (hij : j < i) : anc ops j i := by
  unfold ordered at h
  rw [Nat.max_eq_left (by omega), Nat.min_eq_right (by omega)] at h
  exact h
theorem edgesGo_ok : ∀ (l : List Oper) (i : Nat), edgesGo l i = true -> ∀ (j : Nat) (o : Oper), l[j]? = some o -> ∀ e ∈ o.after, Region.binds .any e = true -> e.on < i + j
  | [], i, h, j, o, ho, e, he, hb => by simp at ho
  | o :: l, i, h, 0, o', ho, e, he, hb => by
    simp at ho
    subst ho
    simp only [edgesGo, Bool.and_eq_true, List.all_eq_true, Bool.or_eq_true, decide_eq_true_eq, Bool.not_eq_true'] at h
    rcases h.1 e (by simpa using he) with h1 | h1
    . rw [hb] at h1; cases h1
    . exact h1
  | o :: l, i, h, j + 1, o', ho, e, he, hb => by
    simp only [edgesGo, Bool.and_eq_true] at h
    have := edgesGo_ok l (i + 1) h.2 j o' (by simpa using ho) e he hb
    omega
theorem pairGo_ok {ops : Array Oper} {b : List Nat} {x : Oper} {i : Nat} : ∀ (l : List Oper) (k : Nat), pairGo ops b x i l k = true -> ∀ (j : Nat) (y : Oper), l[j]? = some y -> i = k + j ∨ ordered b i (k + j) = true ∨ slotsApart ops x y = true
  | [], k, h, j, y, hy => by simp at hy
  | y :: l, k, h, 0, y', hy => by
    simp at hy
    subst hy
    simp only [pairGo, Bool.and_eq_true, Bool.or_eq_true, beq_iff_eq] at h
    rcases h.1 with (h1 | h1) | h1
    . exact .inl h1
    . exact .inr (.inl h1)
    . exact .inr (.inr h1)
  | y :: l, k, h, j + 1, y', hy => by
    simp only [pairGo, Bool.and_eq_true] at h
    have := pairGo_ok l (k + 1) h.2 j y' (by simpa using hy)
    rwa [show k + 1 + j = k + (j + 1) by omega] at this
theorem pairsGo_ok {ops : Array Oper} {b : List Nat} : ∀ (l : List Oper) (k : Nat), pairsGo ops b l k = true -> ∀ (i : Nat) (x : Oper), l[i]? = some x -> pairGo ops b x (k + i) ops.toList 0 = true
  | [], k, h, i, x, hx => by simp at hx
  | x :: l, k, h, 0, x', hx => by
    simp at hx
    subst hx
    simp only [pairsGo, Bool.and_eq_true] at h
    exact h.1
  | x :: l, k, h, i + 1, x', hx => by
    simp only [pairsGo, Bool.and_eq_true] at h
    have := pairsGo_ok l (k + 1) h.2 i x' (by simpa using hx)
    rwa [show k + 1 + i = k + (i + 1) by omega] at this
theorem anyBeside_ok {b : List Nat} {i : Nat} {x : Op} : ∀ (l : List Oper) (k : Nat), anyBeside b i x l k = false -> ∀ (j : Nat) (y : Oper), l[j]? = some y -> i = k + j ∨ ordered b i (k + j) = true ∨ isPure y.op = true ∨ (isLoad y.op = true /\ isStore x = true)
  | [], k, h, j, y, hy => by simp at hy
  | y :: l, k, h, 0, y', hy => by
    simp at hy
    subst hy
    simp only [anyBeside, Bool.or_eq_false_iff] at h
    have h1 := h.1
    simp only [Bool.and_eq_false_iff, Bool.not_eq_false', Bool.and_eq_true] at h1
    rcases h1 with ((h1 | h1) | h1) | h1
    . exact .inl (by simpa using h1)
    . exact .inr (.inl (by simpa using h1))
    . exact .inr (.inr (.inl (by simpa using h1)))
    . exact .inr (.inr (.inr (by simpa using h1)))
  | y :: l, k, h, j + 1, y', hy => by
    simp only [anyBeside, Bool.or_eq_false_iff] at h
    have := anyBeside_ok l (k + 1) h.2 j y' (by simpa using hy)
    rwa [show k + 1 + j = k + (j + 1) by omega] at this
theorem tightGo_ok {ops : Array Oper} {b : List Nat} : ∀ (l : List Oper) (k : Nat) (i : Nat) (x : Oper), l[i]? = some x -> (tightGo ops b l k)[i]? = some (!isPure x.op && !isLoad x.op && anyBeside b (k + i) x.op ops.toList 0)
  | [], k, i, x, hx => by simp at hx
  | x :: l, k, 0, x', hx => by
    simp at hx
    subst hx
    rfl
  | x :: l, k, i + 1, x', hx => by
    have := tightGo_ok (ops := ops) (b := b) l (k + 1) i x' (by simpa using hx)
    simp only [tightGo, List.getElem?_cons_succ]
    rwa [show k + 1 + i = k + (i + 1) by omega] at this
theorem footOk_ok {b : List Nat} {i : Nat} {x : Op} {f : Option Nat} : ∀ (l : List Oper) (k : Nat) (fs : List (Option Nat)), footOk b i x f l k fs = true -> ∀ (j : Nat) (y : Oper) (g : Option Nat), l[j]? = some y -> fs[j]? = some g -> beside b i (k + j) x y.op = true -> f = none ∨ f ≠ g ∨ entryPair x y.op = true
  | [], k, fs, h, j, y, g, hy, _, _ => by simp at hy
  | y :: l, k, [], h, j, y', g, hy, hg, _ => by simp at hg
  | y :: l, k, g :: gs, h, 0, y', g', hy, hg, hb => by
    simp at hy hg
    subst hy hg
    simp only [footOk, Bool.and_eq_true, Bool.or_eq_true, Bool.not_eq_true', Option.isNone_iff_eq_none, bne_iff_ne, ne_eq] at h
    rw [Nat.add_zero] at hb
    rcases h.1 with ((h1 | h1) | h1) | h1
    . rw [hb] at h1; cases h1
    . exact .inl h1
    . exact .inr (.inl h1)
    . exact .inr (.inr h1)
  | y :: l, k, g :: gs, h, j + 1, y', g', hy, hg, hb => by
    simp only [footOk, Bool.and_eq_true] at h
    exact footOk_ok l (k + 1) gs h.2 j y' g' (by simpa using hy) (by simpa using hg) (by rwa [show k + 1 + j = k + (j + 1) by omega])
structure Checks (ops : Array Oper) : Prop where
  edges : ∀ (j : Nat) (o : Oper), ops[j]? = some o -> ∀ e ∈ o.after, Region.binds .any e = true -> e.on < j
  dsts : ∀ (i j : Nat) (x y : Oper) (d : Tmp), ops[i]? = some x -> ops[j]? = some y -> x.dst = some d -> y.dst = some d -> i = j
  pairs : ∀ (i j : Nat) (x y : Oper), ops[i]? = some x -> ops[j]? = some y -> i ≠ j -> ordered (masks ops) i j = true ∨ slotsApart ops x y = true
theorem dsts_nodup : ∀ (l : List Oper), (l.filterMap (·.dst)).Nodup -> ∀ (i j : Nat) (x y : Oper) (d : Tmp), l[i]? = some x -> l[j]? = some y -> x.dst = some d -> y.dst = some d -> i = j
  | [], _, i, j, x, y, d, hx, _, _, _ => by simp at hx
  | o :: l, h, i, j, x, y, d, hx, hy, dx, dy => by
    have hmem : ∀ (k : Nat) (z : Oper), l[k]? = some z -> z.dst = some d -> d ∈ l.filterMap (·.dst) := fun k z hz dz => List.mem_filterMap.2 ⟨z, List.mem_of_getElem? hz, dz⟩
    cases hd : o.dst with
    | none =>
      simp only [List.filterMap_cons, hd] at h
      cases i with
      | zero => simp at hx; subst hx; rw [hd] at dx; cases dx
      | succ i => cases j with
        | zero => simp at hy; subst hy; rw [hd] at dy; cases dy
        | succ j => rw [dsts_nodup l h i j x y d (by simpa using hx) (by simpa using hy) dx dy]
    | some d0 =>
      simp only [List.filterMap_cons, hd, List.nodup_cons] at h
      cases i with
      | zero =>
        simp at hx; subst hx
        rw [hd] at dx; cases dx
        cases j with
        | zero => rfl
        | succ j => exact absurd (hmem j y (by simpa using hy) dy) h.1
      | succ i => cases j with
        | zero =>
          simp at hy; subst hy
          rw [hd] at dy; cases dy
          exact absurd (hmem i x (by simpa using hx) dx) h.1
        | succ j => rw [dsts_nodup l h.2 i j x y d (by simpa using hx) (by simpa using hy) dx dy]
theorem checks_ok {ops : Array Oper} (h : pairsOk ops (masks ops) = true) : Checks ops := by
  simp only [pairsOk, Bool.and_eq_true] at h
  obtain ⟨⟨h1, h2⟩, h3⟩ := h
  refine ⟨fun j o ho e he hb => ?_, fun i j x y d hx hy dx dy => ?_, fun i j x y hx hy hne => ?_⟩
  . have := edgesGo_ok ops.toList 0 h1 j o (by simpa using ho) e he hb
    omega
  . simp only [dstsOk, decide_eq_true_eq] at h2
    exact dsts_nodup ops.toList h2 i j x y d (by simpa using hx) (by simpa using hy) dx dy
  . have := pairsGo_ok ops.toList 0 h3 i x (by simpa using hx)
    have := pairGo_ok ops.toList 0 this j y (by simpa using hy)
    simp only [Nat.zero_add] at this
    rcases this with h | h | h
    . exact absurd h hne
    . exact .inl h
    . exact .inr h
theorem loose_ordered {ops : Array Oper} {i j : Nat} {x y : Oper} (hx : ops[i]? = some x) (hy : ops[j]? = some y) (hne : i ≠ j) (ht : (tightOf ops (masks ops)).getD i true = false) (hpx : isPure x.op = false) (hlx : isLoad x.op = false) (hpy : isPure y.op = false) :
    ordered (masks ops) i j = true ∨ (isLoad y.op = true /\ isStore x.op = true) := by
  have h1 := tightGo_ok (ops := ops) (b := masks ops) ops.toList 0 i x (by simpa using hx)
  simp only [Nat.zero_add] at h1
  unfold tightOf at ht
  rw [List.getD_eq_getElem?_getD, h1] at ht
  simp only [Option.getD_some, hpx, hlx, Bool.not_false, Bool.true_and] at ht
  have := anyBeside_ok ops.toList 0 ht j y (by simpa using hy)
  simp only [Nat.zero_add] at this
  rcases this with h | h | h | h
  . exact absurd h hne
  . exact .inl h
  . rw [hpy] at h; cases h
  . exact .inr h
theorem ordered_symm (b : List Nat) (i j : Nat) : ordered b i j = ordered b j i := by
  unfold ordered
  rw [Nat.max_comm, Nat.min_comm]
end
section
section
variable {E : Env} {fl : Nat} {rec : Rec} {ops : Array Oper} {tight : List Bool}
structure Ran (E : Env) (rec : Rec) (fl : Nat) (ops : Array Oper) (tight : List Bool) (foot : Nat -> Option Nat) (p : Slots × Store) (i : Nat) (o : Oper) (v : PV) (q : Slots × Store) : Prop where
  slots : q.1 = putA p.1 o.dst v
  does : (wantedA ops (maskS (o.looksAt ops) p.1) o = some true /\ opA E rec fl (tight.getD i true) (evalA (maskS (o.looksAt ops) p.1)) p.2 o.op = some (v, q.2) /\ foot i = footOf (evalA (maskS (o.looksAt ops) p.1)) o.op /\ (isLoad o.op = true -> oldV p.2.length v = true)) ∨
    (wantedA ops (maskS (o.looksAt ops) p.1) o = some false /\ v = .tup [] /\ q.2 = p.2 /\ foot i = none)
  apart : ∀ (k : Nat) (y : Oper), k < i -> ops[k]? = some y -> beside (masks ops) i k o.op y.op = true -> foot i = none ∨ foot i ≠ foot k ∨ entryPair o.op y.op = true
theorem trace : ∀ (rest : List Oper) (i : Nat) (foot0 : Nat -> Option Nat) {fs : List (Option Nat)} {s s' : Slots} {σ σ' : Store}, opsD E rec fl ops (masks ops) tight rest i fs s σ = some (s', σ') -> fs.length = i -> (∀ k, k < i -> fs[k]? = some (foot0 k)) ->
    ∃ (st : Nat -> Slots × Store) (val : Nat -> PV) (foot : Nat -> Option Nat), st i = (s, σ) /\ st (i + rest.length) = (s', σ') /\ (∀ k, k < i -> foot k = foot0 k) /\
      ∀ (k : Nat) (o : Oper), rest[k]? = some o -> Ran E rec fl ops tight foot (st (i + k)) (i + k) o (val (i + k)) (st (i + k + 1))
  | [], i, foot0, fs, s, s', σ, σ', h, _, _ => by
    cases h
    exact ⟨fun _ => (s, σ), fun _ => .nils, foot0, rfl, rfl, fun _ _ => rfl, fun k o h => by simp at h⟩
  | o :: rest, i, foot0, fs, s, s', σ, σ', h, hfs, hfoot => by
    unfold opsD at h
    have key : ∃ v σ1 f, opsD E rec fl ops (masks ops) tight rest (i + 1) (fs ++ [f]) (putA s o.dst v) σ1 = some (s', σ') /\
        (∀ foot : Nat -> Option Nat, foot i = f -> (∀ k, k < i -> foot k = foot0 k) -> Ran E rec fl ops tight foot (s, σ) i o v (putA s o.dst v, σ1)) := by
      split at h
      . rename_i hw
        split at h
        . rename_i v σ1 ho
          split at h
          . rename_i hb
            simp only [besideOk, Bool.and_eq_true, Bool.or_eq_true, Bool.not_eq_true'] at hb
            refine ⟨v, σ1, _, h, fun foot e1 e2 => ⟨rfl, .inl ⟨hw, ho, e1, fun hl => ?_⟩, fun k y hk hy hbe => ?_⟩⟩
            . rcases hb.1 with h1 | h1
              . rw [hl] at h1; cases h1
              . exact h1
            . rw [e1, e2 k hk]
              exact footOk_ok ops.toList 0 fs hb.2 k y (foot0 k) (by simpa using hy) (hfoot k hk) (by rwa [Nat.zero_add])
          . cases h
        . cases h
      . rename_i hw
        exact ⟨.tup [], σ, none, h, fun foot e1 e2 => ⟨rfl, .inr ⟨hw, rfl, rfl, e1⟩, fun k y hk hy hbe => .inl e1⟩⟩
      . cases h
    obtain ⟨v, σ1, f, ho, hr⟩ := key
    obtain ⟨st, val, foot, h1, h2, h3, h4⟩ := trace rest (i + 1) (fun j => if j = i then f else foot0 j) ho (by simp [hfs]) (fun k hk => by
      by_cases e : k = i
      . subst e
        rw [List.getElem?_append_right (by omega)]
        simp [hfs]
      . rw [List.getElem?_append_left (by omega), hfoot k (by omega)]
        simp [e])
    have hfi : foot i = f := by rw [h3 i (by omega)]; simp
    have hfl : ∀ k, k < i -> foot k = foot0 k := fun k hk => by
      rw [h3 k (by omega)]
      simp [show k ≠ i by omega]
    refine ⟨fun j => if j = i then (s, σ) else st j, fun j => if j = i then v else val j, foot, by simp, ?_, hfl, ?_⟩
    . dsimp only
      rw [if_neg (by simp), <- h2]
      congr 1
      simp
      omega
    . intro k o' hk
      dsimp only
      cases k with
      | zero =>
        simp at hk
        subst hk
        rw [if_pos (by omega), if_pos (by omega), if_neg (by omega)]
        simpa [h1] using hr foot hfi hfl
      | succ k =>
        have := h4 k o' (by simpa using hk)
        rw [if_neg (by omega), if_neg (by omega), if_neg (by omega)]
        rwa [show i + 1 + k = i + (k + 1) by omega] at this
theorem tight_load {i : Nat} {o : Oper} (ho : ops[i]? = some o) (hp : isLoad o.op = true) : (tightOf ops (masks ops)).getD i true = false := by
  have h1 := tightGo_ok (ops := ops) (b := masks ops) ops.toList 0 i o (by simpa using ho)
  unfold tightOf
  rw [List.getD_eq_getElem?_getD, h1]
  simp [hp]
theorem tight_pure {i : Nat} {o : Oper} (ho : ops[i]? = some o) (hp : isPure o.op = true) : (tightOf ops (masks ops)).getD i true = false := by
  have h1 := tightGo_ok (ops := ops) (b := masks ops) ops.toList 0 i o (by simpa using ho)
  unfold tightOf
  rw [List.getD_eq_getElem?_getD, h1]
  simp [hp]
theorem opA_pure {ev : Operand -> Option PV} {σ σ' τ : Store} {o : Op} {v : PV} (hp : isPure o = true) (h : opA E rec fl false ev σ o = some (v, σ')) : opA E rec fl false ev τ o = some (v, τ) := by
  simp only [opA, Bool.false_eq_true, if_false, stepA, hp, if_true] at h ⊢
  cases hq : pureA E ev o with
  | none => simp [hq] at h
  | some x => simp [hq] at h ⊢; exact h.1
theorem getD_false {L : Array Bool} {i : Nat} (h : L.getD i true = false) : L.getD i false = false := by
  by_cases hi : i < L.size
  . simpa [Array.getD, hi] using h
  . simp [Array.getD, hi] at h
variable {st : Nat -> Slots × Store} {val : Nat -> PV} {foot : Nat -> Option Nat} {s : Slots}
def Firm (ops : Array Oper) (j : Nat) : Prop := ∃ o, ops[j]? = some o /\ isPure o.op = false /\ isLoad o.op = false /\ (tightOf ops (masks ops)).getD j true = false
theorem not_firm {i : Nat} {o : Oper} (ho : ops[i]? = some o) (hn : ¬ Firm ops i) : isPure o.op = true ∨ isLoad o.op = true ∨ (isPure o.op = false /\ isLoad o.op = false /\ (tightOf ops (masks ops)).getD i true = true) := by
  cases hp : isPure o.op with
  | true => exact .inl rfl
  | false =>
    cases hl : isLoad o.op with
    | true => exact .inr (.inl rfl)
    | false =>
      cases ht : (tightOf ops (masks ops)).getD i true with
      | true => exact .inr (.inr ⟨rfl, rfl, rfl⟩)
      | false => exact absurd ⟨o, ho, hp, hl, ht⟩ hn
abbrev Textual (E : Env) (rec : Rec) (fl : Nat) (ops : Array Oper) (foot : Nat -> Option Nat) (st : Nat -> Slots × Store) (val : Nat -> PV) : Prop :=
  ∀ (i : Nat) (o : Oper), ops[i]? = some o -> Ran E rec fl ops (tightOf ops (masks ops)) foot (st i) i o (val i) (st (i + 1))
theorem pure_same (hran : Textual E rec fl ops foot st val) {i : Nat} {o : Oper} (ho : ops[i]? = some o) (hp : isPure o.op = true) : (st (i + 1)).2 = (st i).2 := by
  rcases (hran i o ho).does with ⟨_, h, _⟩ | ⟨_, _, h, _⟩
  . rw [tight_pure ho hp] at h
    have := opA_pure (τ := (st i).2) hp h
    rw [h, Option.some.injEq, Prod.mk.injEq] at this
    exact this.2
  . exact h
theorem load_at {ev : Operand -> Option PV} {σ σ' τ : Store} {o : Op} {v : PV} {fl' : Nat} (hp : isLoad o = true) (hs : ∀ id, footOf ev o = some id -> τ[id]? = σ[id]?) (h : opA E rec fl false ev σ o = some (v, σ')) :
    σ' = σ /\ stepA E rec fl' ev τ o = some (v, τ) /\ ∀ id, footOf ev o = some id -> id < σ.length := by
  cases o with
  | load t a =>
    simp only [opA, Bool.false_eq_true, if_false, stepA, isPure, memA] at h ⊢
    simp only [footOf] at hs ⊢
    cases ha : ev a with
    | none => simp [ha] at h
    | some p =>
      simp only [ha] at h hs ⊢
      cases hl : loadAt E σ t p with
      | none => simp [hl] at h
      | some x =>
        simp [hl] at h
        obtain ⟨rfl, rfl⟩ := h
        have hid : ∀ id b f, p = .ptr id b f -> id < σ.length := by
          intro id b f e
          subst e
          unfold loadAt loadRaw at hl
          cases hg : getMem σ id with
          | none => simp [cellsAt, hg] at hl; obtain ⟨q, hl, _⟩ := hl; split at hl <;> (try split at hl) <;> simp_all
          | some m =>
            unfold getMem at hg
            split at hg
            . rename_i m' hm
              exact (List.getElem?_eq_some_iff.1 hm).1
            . cases hg
        refine ⟨rfl, ?_, fun id he => ?_⟩
        . have : loadAt E τ t p = loadAt E σ t p := by
            cases p with
            | ptr id b f =>
              have e : getMem τ id = getMem σ id := by unfold getMem; rw [hs id rfl]
              simp only [loadAt, loadRaw, cellsAt, e]
            | _ => rfl
          rw [this, hl]
          rfl
        . cases p with
          | ptr id' b f => cases he; exact hid _ _ _ rfl
          | _ => cases he
  | lookup t x kk ok =>
    simp only [opA, Bool.false_eq_true, if_false, stepA, isPure, memA] at h ⊢
    simp only [footOf] at hs ⊢
    cases hx : ev x with
    | none => simp [hx] at h
    | some p =>
      cases hk : ev kk with
      | none => simp [hx, hk] at h
      | some q =>
        simp only [hx, hk] at h hs ⊢
        cases hl : lookA E σ t p q ok with
        | none => simp [hl] at h
        | some r =>
          simp [hl] at h
          obtain ⟨rfl, rfl⟩ := h
          have e : lookA E τ t p q ok = lookA E σ t p q ok := by
            cases p with
            | mp id =>
              have e : getMap τ id = getMap σ id := by unfold getMap; rw [hs id rfl]
              simp only [lookA, e]
            | _ => rfl
          refine ⟨rfl, by rw [e, hl]; rfl, fun id he => ?_⟩
          cases p with
          | mp id' =>
            cases he
            cases hg : getMap σ id with
            | some m => exact (List.getElem?_eq_some_iff.1 (getMap_get hg).1).1
            | none =>
              exfalso
              unfold lookA at hl
              simp only [hg, Option.map_none] at hl
              split at hl
              . split at hl
                . cases hl
                . cases hl
              . cases hl
          | _ => cases he
  | slice t x lo hi mx =>
    simp only [opA, Bool.false_eq_true, if_false, stepA, isPure, memA] at h ⊢
    simp only [footOf] at hs ⊢
    cases hx : ev x with
    | none => simp [hx] at h
    | some p =>
      cases h1 : evalOpt ev lo with
      | none => simp [hx, h1] at h
      | some l =>
        cases h2 : evalOpt ev hi with
        | none => simp [hx, h1, h2] at h
        | some hh =>
          cases h3 : evalOpt ev mx with
          | none => simp [hx, h1, h2, h3] at h
          | some mm =>
            simp only [hx, h1, h2, h3] at h hs ⊢
            cases hl : sliceA E σ t p l hh mm with
            | none => simp [hl] at h
            | some r =>
              simp [hl] at h
              obtain ⟨rfl, rfl⟩ := h
              have e : sliceA E τ t p l hh mm = sliceA E σ t p l hh mm := by
                cases p with
                | osl id b c es len xc =>
                  have e : getMem τ id = getMem σ id := by unfold getMem; rw [hs id rfl]
                  have e2 : ∀ s, sliceSl τ s (.osl id b c es len xc) l hh mm = sliceSl σ s (.osl id b c es len xc) l hh mm := fun s => by simp only [sliceSl, e]
                  unfold sliceA
                  generalize E.P.underlying t = u
                  cases u with
                  | none => rfl
                  | some d => cases d <;> first | rfl | (dsimp only; simp only [e2])
                | _ =>
                  unfold sliceA
                  generalize E.P.underlying t = u
                  cases u with
                  | none => rfl
                  | some d => cases d <;> rfl
              refine ⟨rfl, by rw [e, hl]; rfl, fun id he => ?_⟩
              cases p with
              | osl id' b c es len xc =>
                cases he
                cases hg : getMem σ id with
                | some m =>
                  unfold getMem at hg
                  split at hg
                  . rename_i m' hm
                    exact (List.getElem?_eq_some_iff.1 hm).1
                  . cases hg
                | none =>
                  exfalso
                  unfold sliceA at hl
                  split at hl
                  . cases hl
                  . split at hl
                    . rename_i e2; cases e2
                    . split at hl
                      . split at hl
                        . simp [sliceSl, hg] at hl
                        . cases hl
                      . cases hl
                    . split at hl
                      . split at hl
                        . cases hl
                        . split at hl
                          . split at hl
                            . split at hl
                              . split at hl
                                . cases hl
                                . cases hl
                              . cases hl
                            . cases hl
                          . cases hl
                      . cases hl
                    . cases hl
              | _ => cases he
  | _ => cases hp
theorem load_same (hran : Textual E rec fl ops foot st val) {i : Nat} {o : Oper} (ho : ops[i]? = some o) (hp : isLoad o.op = true) : (st (i + 1)).2 = (st i).2 := by
  rcases (hran i o ho).does with ⟨_, h, _⟩ | ⟨_, _, h, _⟩
  . rw [tight_load ho hp] at h
    exact (load_at (fl' := fl) (τ := (st i).2) hp (fun _ _ => rfl) h).1
  . exact h
theorem grows (hran : Textual E rec fl ops foot st val) {i : Nat} {o : Oper} (ho : ops[i]? = some o) (hn : ¬ Firm ops i) : ∃ new, (st (i + 1)).2 = (st i).2 ++ new := by
  rcases not_firm ho hn with hp | hp | ⟨hp, _, ht⟩
  . exact ⟨[], by rw [pure_same hran ho hp, List.append_nil]⟩
  . exact ⟨[], by rw [load_same hran ho hp, List.append_nil]⟩
  . rcases (hran i o ho).does with ⟨_, h, _⟩ | ⟨_, _, h, _⟩
    . rw [ht] at h
      simp only [opA, if_true] at h
      split at h
      . split at h
        . simp only [Option.some.injEq, Prod.mk.injEq] at h
          exact ⟨_, h.2.symm⟩
        . cases h
      . cases h
    . exact ⟨[], by rw [h, List.append_nil]⟩
theorem appendA_keep {σ σ' : Store} {e : TypeId} {x v : PV} {n : Nat} {new : List PV} (h : appendA E fl σ e x n new = some (v, σ')) {id : Nat} (hid : ∀ b c es len xc, x ≠ .osl id b c es len xc) (hlt : id < σ.length) : σ'[id]? = σ[id]? := by
  unfold appendA at h
  split at h
  . simp only at h
    split at h
    . split at h
      . split at h <;> first | (cases h; rfl) | (cases h; done)
      . split at h
        . split at h
          . cases h; rw [List.getElem?_append_left hlt]
          . cases h
        . split at h
          . cases h; rw [List.getElem?_append_left hlt]
          . cases h
        . rename_i id' b c es len
          have hne : id' ≠ id := fun e => hid b c es len none (by rw [e])
          split at h
          . split at h
            . split at h
              . cases h; rw [List.getElem?_set_ne hne]
              . split at h
                . cases h; rw [List.getElem?_set_ne hne]
                . cases h
            . cases h
          . cases h
        . cases h
    . cases h
  . cases h
theorem append_keep {σ σ' : Store} {ats : Array TypeId} {v : PV} {id : Nat} (hlt : id < σ.length) : ∀ (as : List PV), builtinA E fl σ .append ats as = some (v, σ') ->
    (match (some as : Option (List PV)) with | some (.osl id _ _ _ _ _ :: _) => some id | _ => none) ≠ some id -> σ'[id]? = σ[id]?
  | [], h, _ => by simp [builtinA] at h
  | [_], h, _ => by simp [builtinA] at h
  | _ :: _ :: _ :: _, h, _ => by simp [builtinA] at h
  | [x, y], h, hid => by
    simp only [builtinA] at h
    split at h
    . split at h
      . split at h
        . exact appendA_keep h (fun b c es len xc e => hid (by subst e; rfl)) hlt
        . cases h
      . cases h
    . cases h
theorem store_keep {ev : Operand -> Option PV} {σ σ' : Store} {o : Op} {v : PV} (hp : isStore o = true) (h : opA E rec fl false ev σ o = some (v, σ')) {id : Nat} (hid : footOf ev o ≠ some id) (hlt : id < σ.length) : σ'[id]? = σ[id]? := by
  cases o with
  | call c =>
    obtain ⟨callee, args, ats⟩ := c
    cases callee with
    | value f => cases hp
    | invoke i m => cases hp
    | builtin b =>
      cases b <;> first | (cases hp; done) | skip
      simp only [opA, Bool.false_eq_true, if_false, stepA, isPure, memA] at h
      simp only [footOf] at hid
      split at h
      . rename_i as has
        rw [has] at hid
        exact append_keep hlt _ h hid
      . cases h
  | store t a x =>
    simp only [opA, Bool.false_eq_true, if_false, stepA, isPure, memA] at h
    simp only [footOf] at hid
    split at h
    . rename_i p q hp1 hq1
      rw [hp1] at hid
      cases hs : storeAt E fl σ t p q with
      | none => simp [hs] at h
      | some σ1 =>
        simp [hs] at h
        obtain ⟨_, rfl⟩ := h
        unfold storeAt at hs
        split at hs
        . rename_i id' b f
          split at hs
          . split at hs
            . cases hs
              have : id' ≠ id := fun e => hid (by rw [e])
              rw [List.getElem?_set_ne this]
            . cases hs
          . cases hs
        . cases hs
    . cases h
  | mapUpdate t x kk y =>
    simp only [opA, Bool.false_eq_true, if_false, stepA, isPure, memA] at h
    simp only [footOf] at hid
    split at h
    . rename_i p q z hp1 hq1 hz1
      rw [hp1] at hid
      cases hs : updateA E fl σ t p q z with
      | none => simp [hs] at h
      | some σ1 =>
        simp [hs] at h
        obtain ⟨_, rfl⟩ := h
        unfold updateA at hs
        split at hs
        . rename_i kt et id' ht
          have hne : id' ≠ id := fun e => hid (by rw [e])
          split at hs
          . split at hs
            . simp only [Option.map_eq_some_iff] at hs
              obtain ⟨m', _, rfl⟩ := hs
              rw [List.getElem?_set_ne hne]
            . cases hs
          . cases hs
        . cases hs
    . cases h
  | mapEntry t x kk =>
    simp only [opA, Bool.false_eq_true, if_false, stepA, isPure, memA] at h
    simp only [footOf] at hid
    split at h
    . rename_i p q hp1 hq1
      rw [hp1] at hid
      unfold entryA at h
      split at h
      . rename_i kt et id' ht
        have hne : id' ≠ id := fun e => hid (by rw [e])
        split at h
        . split at h
          . split at h
            . split at h
              . split at h
                . cases h; rfl
                . cases h
              . cases h
            . split at h
              . cases h
                rw [List.getElem?_set_ne hne]
              . cases h
            . cases h
          . cases h
        . cases h
      . cases h
    . cases h
  | entryStore t x b y =>
    simp only [opA, Bool.false_eq_true, if_false, stepA, isPure, memA] at h
    simp only [footOf] at hid
    split at h
    . rename_i p q z hp1 hq1 hz1
      rw [hp1] at hid
      cases hs : entryStoreA fl σ p q z with
      | none => simp [hs] at h
      | some σ1 =>
        simp [hs] at h
        obtain ⟨_, rfl⟩ := h
        unfold entryStoreA at hs
        split at hs
        . rename_i id' kd n
          have hne : id' ≠ id := fun e => hid (by rw [e])
          split at hs
          . split at hs
            . split at hs
              . split at hs
                . cases hs
                  rw [List.getElem?_set_ne hne]
                . cases hs
              . cases hs
            . cases hs
          . cases hs
        . cases hs
    . cases h
  | _ => cases hp
inductive More (E : Env) (t : TypeId) : Option Ob -> Option Ob -> Prop
  | refl (a : Option Ob) : More E t a a
  | step {a : Option Ob} {m m' : MapO} {kt et : TypeId} {z k : PV} (hk : keyT E t = some (kt, et)) (hz : zeroT E.P et = some z) (ho : keyOk E 50 kt k = true) (h : More E t a (some (.map m))) (hi : m.iter = none) (hi' : m'.iter = none)
      (he : m'.es = m.es ++ [(k, z)]) : More E t a (some (.map m'))
theorem More.trans {t : TypeId} {a b c : Option Ob} (h : More E t a b) (k : More E t b c) : More E t a c := by
  induction k with
  | refl => exact h
  | step hk hz ho _ hi hi' he ih => exact .step hk hz ho ih hi hi' he
theorem More.ents {t kt et : TypeId} {z : PV} (hk : keyT E t = some (kt, et)) (hz : zeroT E.P et = some z) {a b : Option Ob} (h : More E t a b) :
    a = b ∨ ∃ (m m' : MapO) (ex : List (PV × PV)), a = some (.map m) /\ b = some (.map m') /\ m.iter = none /\ m'.iter = none /\ m'.es = m.es ++ ex /\ ∀ e ∈ ex, e.2 = z /\ keyOk E 50 kt e.1 = true := by
  induction h with
  | refl => exact .inl rfl
  | @step m m' kt' et' z' k hk' hz' ho _ hi hi' he ih =>
    rw [hk] at hk'; cases hk'
    rw [hz] at hz'; cases hz'
    rcases ih with rfl | ⟨m0, m1, ex, h1, h2, h3, h4, h5, h6⟩
    . exact .inr ⟨m, m', [(k, z)], rfl, rfl, hi, hi', he, fun e hm => by simp only [List.mem_singleton] at hm; subst hm; exact ⟨rfl, ho⟩⟩
    . cases h2
      refine .inr ⟨m0, m', ex ++ [(k, z)], h1, rfl, h3, hi', by rw [he, h5, List.append_assoc], fun e hm => ?_⟩
      rcases List.mem_append.1 hm with hm | hm
      . exact h6 e hm
      . simp only [List.mem_singleton] at hm; subst hm; exact ⟨rfl, ho⟩
theorem More.some {t : TypeId} {a b : Option Ob} (h : More E t a b) (ha : a.isSome = true) : b.isSome = true := by
  cases h with
  | refl => exact ha
  | step => rfl
theorem find_app {t : TypeId} {k : PV} : ∀ (es ex : List (PV × PV)) (i : Nat), findM E t k (es ++ ex) i = match findM E t k es i with
    | some (some j) => some (some j)
    | some none => findM E t k ex (i + es.length)
    | none => none
  | [], ex, i => by simp [findM]
  | e :: es, ex, i => by
    simp only [List.cons_append, findM]
    cases eqA E 50 t k e.1 with
    | none => rfl
    | some b => cases b with
      | true => rfl
      | false =>
        simp only
        rw [find_app es ex (i + 1), List.length_cons, show i + 1 + es.length = i + (es.length + 1) by omega]
theorem find_ex {t : TypeId} {k : PV} (ho : keyOk E 50 t k = true) : ∀ (ex : List (PV × PV)) (i : Nat), (∀ e ∈ ex, keyOk E 50 t e.1 = true) -> ∃ r, findM E t k ex i = some r /\ ∀ j, r = some j -> i <= j /\ j < i + ex.length
  | [], i, _ => ⟨none, rfl, fun j h => by cases h⟩
  | e :: ex, i, h => by
    obtain ⟨b, hb⟩ := eqA_total 50 t k e.1 ho (h e (by simp))
    simp only [findM, hb]
    cases b with
    | true => exact ⟨some i, rfl, fun j h => by cases h; simp⟩
    | false =>
      obtain ⟨r, h1, h2⟩ := find_ex ho ex (i + 1) fun e he => h e (by simp [he])
      refine ⟨r, h1, fun j hj => ?_⟩
      have := h2 j hj
      simp only [List.length_cons]
      omega
theorem find_lt {t : TypeId} {k : PV} : ∀ (es : List (PV × PV)) (i : Nat) {j : Nat}, findM E t k es i = some (some j) -> i <= j /\ j < i + es.length
  | [], i, j, h => by cases h
  | e :: es, i, j, h => by
    simp only [findM] at h
    split at h
    . cases h; simp
    . have := find_lt es (i + 1) h
      simp only [List.length_cons]
      omega
    . cases h
theorem look_more {t : TypeId} {id : Nat} {k r : PV} {σ τ : Store} (hm : More E t σ[id]? τ[id]?) : lookA E σ t (.mp id) k false = some r ↔ lookA E τ t (.mp id) k false = some r := by
  unfold lookA
  cases hk : keyT E t with
  | none => simp
  | some p =>
    obtain ⟨kt, et⟩ := p
    simp only
    cases ho : keyOk E 50 kt k with
    | false => simp
    | true =>
      simp only [if_true]
      cases hz : zeroT E.P et with
      | none =>
        have : σ[id]? = τ[id]? := by
          generalize σ[id]? = a at hm
          generalize τ[id]? = b at hm
          cases hm with
          | refl => rfl
          | step hk' hz' => rw [hk] at hk'; cases hk'; rw [hz] at hz'; cases hz'
        have e : getMap τ id = getMap σ id := by unfold getMap; rw [this]
        rw [e]
      | some z =>
        rcases hm.ents hk hz with h | ⟨m, m', ex, h1, h2, h3, h4, h5, h6⟩
        . have e : getMap τ id = getMap σ id := by unfold getMap; rw [h]
          rw [e]
        . have e1 : getMap σ id = some m := by unfold getMap; simp only [h1, h3]
          have e2 : getMap τ id = some m' := by unfold getMap; simp only [h2, h4]
          simp only [e1, e2, Option.map_some, h5]
          rw [find_app]
          cases hf : findM E kt k m.es 0 with
          | none => simp
          | some q => cases q with
            | some j =>
              have hj := find_lt _ _ hf
              simp only
              rw [List.getElem?_append_left (by omega)]
            | none =>
              simp only
              obtain ⟨q, hq, hb⟩ := find_ex (E := E) ho ex (0 + m.es.length) fun e he => (h6 e he).2
              rw [hq]
              cases q with
              | none => rfl
              | some j =>
                have hj := hb j rfl
                simp only
                rw [List.getElem?_append_right (by omega)]
                have hlt : j - m.es.length < ex.length := by omega
                rw [List.getElem?_eq_getElem hlt]
                have := (h6 ex[j - m.es.length] (List.getElem_mem hlt)).1
                simp only [this, Bool.false_eq_true, if_false]
def Near (E : Env) (o : Op) (a b : Option Ob) : Prop := match o with
  | .lookup t _ _ false => More E t a b
  | _ => a = b
theorem Near.refl {o : Op} (a : Option Ob) : Near E o a a := by
  unfold Near
  split
  . exact .refl _
  . rfl
theorem Near.of_eq {o : Op} {a b : Option Ob} (h : a = b) : Near E o a b := h ▸ .refl a
theorem Near.cases {o : Op} : (∃ t x k, o = .lookup t x k false) ∨ ∀ a b : Option Ob, Near E o a b ↔ a = b := by
  by_cases hn : ∃ t x k, o = .lookup t x k false
  . exact .inl hn
  . refine .inr fun a b => ?_
    unfold Near
    split
    . exact absurd ⟨_, _, _, rfl⟩ hn
    . exact Iff.rfl
theorem Near.trans {o : Op} {a b c : Option Ob} (h : Near E o a b) (k : Near E o b c) : Near E o a c := by
  rcases Near.cases (E := E) (o := o) with ⟨t, x, q, rfl⟩ | hn
  . exact More.trans (t := t) h k
  . rw [hn] at h k ⊢
    exact h.trans k
theorem Near.some {o : Op} {a b : Option Ob} (h : Near E o a b) (ha : a.isSome = true) : b.isSome = true := by
  rcases Near.cases (E := E) (o := o) with ⟨t, x, q, rfl⟩ | hn
  . exact More.some (t := t) h ha
  . rw [hn] at h
    exact h ▸ ha
theorem load_near {ev : Operand -> Option PV} {σ σ' τ : Store} {o : Op} {v : PV} {fl' : Nat} (hp : isLoad o = true) (hs : ∀ id, footOf ev o = some id -> Near E o σ[id]? τ[id]? ∨ Near E o τ[id]? σ[id]?) (h : opA E rec fl false ev σ o = some (v, σ')) :
    stepA E rec fl' ev τ o = some (v, τ) := by
  by_cases hn : ∃ t x k, o = .lookup t x k false
  . obtain ⟨t, x, k, rfl⟩ := hn
    simp only [opA, Bool.false_eq_true, if_false, stepA, isPure, memA] at h ⊢
    simp only [footOf] at hs
    cases hx : ev x with
    | none => simp [hx] at h
    | some p =>
      cases hk : ev k with
      | none => simp [hx, hk] at h
      | some q =>
        simp only [hx, hk] at h hs ⊢
        cases hl : lookA E σ t p q false with
        | none => simp [hl] at h
        | some r =>
          simp [hl] at h
          obtain ⟨rfl, rfl⟩ := h
          have e : lookA E τ t p q false = some r := by
            cases p with
            | mp id =>
              rcases hs id rfl with h1 | h1
              . exact (look_more h1).1 hl
              . exact (look_more h1).2 hl
            | _ => exact hl
          rw [e]; rfl
  . refine (load_at (fl' := fl') hp (fun id hid => ?_) h).2.1
    have key : ∀ {a b : Option Ob}, Near E o a b -> a = b := by
      intro a b h
      unfold Near at h
      split at h
      . exact absurd ⟨_, _, _, rfl⟩ hn
      . exact h
    rcases hs id hid with h1 | h1
    . exact (key h1).symm
    . exact key h1
theorem entry_more {ev : Operand -> Option PV} {σ σ' : Store} {t : TypeId} {x k : Operand} {v : PV} (h : opA E rec fl false ev σ (.mapEntry t x k) = some (v, σ')) {id : Nat} (hid : footOf ev (.mapEntry t x k) = some id) : More E t σ[id]? σ'[id]? := by
  simp only [opA, Bool.false_eq_true, if_false, stepA, isPure, memA] at h
  simp only [footOf] at hid
  split at h
  . rename_i p q hx hk
    rw [hx] at hid
    cases p with
    | mp id' =>
      simp only [Option.some.injEq] at hid
      subst hid
      unfold entryA at h
      cases hkt : keyT E t with
      | none => simp [hkt] at h
      | some u =>
        obtain ⟨kt, et⟩ := u
        simp only [hkt] at h
        split at h
        . rename_i hc
          simp only [Bool.and_eq_true] at hc
          cases hg : getMap σ id' with
          | none => simp [hg] at h
          | some m =>
            obtain ⟨g1, g2⟩ := getMap_get hg
            simp only [hg] at h
            split at h
            . split at h
              . split at h
                . cases h; exact .refl _
                . cases h
              . cases h
            . split at h
              . rename_i z hz
                cases h
                have hlt := (List.getElem?_eq_some_iff.1 g1).1
                rw [List.getElem?_set_self hlt, g1]
                exact .step hkt hz hc.1 (.refl _) g2 g2 rfl
              . cases h
            . cases h
        . cases h
    | _ => cases hid
  . cases h
theorem keptN (hran : Textual E rec fl ops foot st val) {o : Op} {id : Nat} (a : Nat) (hid : id < (st a).2.length) : ∀ (k : Nat), a + k <= ops.size -> (∀ j, a <= j -> j < a + k -> id < (st j).2.length -> Firm ops j -> Near E o (st j).2[id]? (st (j + 1)).2[id]?) -> Near E o (st a).2[id]? (st (a + k)).2[id]?
  | 0, _, _ => .refl _
  | k + 1, hk, hn => by
    have h1 := keptN hran a hid k (by omega) fun j h1 h2 => hn j h1 (by omega)
    have hlt : id < (st (a + k)).2.length := by
      have := h1.some (by simp [hid])
      obtain ⟨x, hx⟩ := Option.isSome_iff_exists.1 this
      exact (List.getElem?_eq_some_iff.1 hx).1
    refine h1.trans ?_
    show Near E o _ (st (a + k + 1)).2[id]?
    by_cases hf : Firm ops (a + k)
    . exact hn (a + k) (by omega) (by omega) hlt hf
    . obtain ⟨new, hnew⟩ := grows hran (o := ops[a + k]'(by omega)) (by simp) hf
      rw [hnew, List.getElem?_append_left hlt]
      exact .refl _
theorem grow_range (hran : Textual E rec fl ops foot st val) (a : Nat) : ∀ (k : Nat), a + k <= ops.size -> (∀ j, a <= j -> j < a + k -> ¬ Firm ops j) -> ∃ more, (st (a + k)).2 = (st a).2 ++ more
  | 0, _, _ => ⟨[], by simp⟩
  | k + 1, hk, hn => by
    obtain ⟨m1, h1⟩ := grow_range hran a k (by omega) fun j h1 h2 => hn j h1 (by omega)
    obtain ⟨m2, h2⟩ := grows hran (o := ops[a + k]'(by omega)) (by simp) (hn (a + k) (by omega) (by omega))
    exact ⟨m1 ++ m2, by rw [show a + (k + 1) = a + k + 1 by omega, h2, h1, List.append_assoc]⟩
theorem grow_range' (hran : Textual E rec fl ops foot st val) {a b : Nat} (hab : a <= b) (hb : b <= ops.size) (hn : ∀ j, a <= j -> j < b -> ¬ Firm ops j) : ∃ more, (st b).2 = (st a).2 ++ more := by
  have := grow_range hran a (b - a) (by omega) fun j h1 h2 => hn j h1 (by omega)
  rwa [show a + (b - a) = b by omega] at this
theorem next_firm (ops : Array Oper) : ∀ (k p : Nat), p + k = ops.size -> ∃ e, p <= e /\ e <= ops.size /\ (e = ops.size ∨ Firm ops e) /\ ∀ j, p <= j -> j < e -> ¬ Firm ops j
  | 0, p, h => ⟨p, Nat.le_refl _, by omega, .inl (by omega), fun j h1 h2 => by omega⟩
  | k + 1, p, h => by
    by_cases hf : Firm ops p
    . exact ⟨p, Nat.le_refl _, by omega, .inr hf, fun j h1 h2 => by omega⟩
    . obtain ⟨e, h1, h2, h3, h4⟩ := next_firm ops k (p + 1) (by omega)
      refine ⟨e, by omega, h2, h3, fun j h5 h6 => ?_⟩
      by_cases hj : j = p
      . subst hj; exact hf
      . exact h4 j (by omega) h6
theorem mono_of {len : Nat -> Nat} {e : Nat} (h : ∀ j, j < e -> len j <= len (j + 1)) (a : Nat) : ∀ (b : Nat), a <= b -> b <= e -> len a <= len b
  | 0, h1, _ => by rw [show a = 0 by omega]; exact Nat.le_refl _
  | b + 1, h1, h2 => by
    by_cases hb : a = b + 1
    . subst hb; exact Nat.le_refl _
    . exact Nat.le_trans (mono_of h a b (by omega) (by omega)) (h b (by omega))
theorem putA_length (s : Slots) (d : Option Tmp) (v : PV) : (putA s d v).length = s.length := by cases d <;> simp [putA]
theorem putA_ne {s : Slots} {d : Option Tmp} {v : PV} {t : Tmp} (h : d ≠ some t) : (putA s d v)[t]? = s[t]? := by
  cases d with
  | none => rfl
  | some d => simp only [putA]; rw [List.getElem?_set_ne (fun e => h (by rw [e]))]
theorem slots_length (h0 : (st 0).1 = s) (hran : ∀ (i : Nat) (o : Oper), ops[i]? = some o -> Ran E rec fl ops tight foot (st i) i o (val i) (st (i + 1))) : ∀ (j : Nat), j <= ops.size -> (st j).1.length = s.length
  | 0, _ => by rw [h0]
  | j + 1, hj => by rw [(hran j (ops[j]'(by omega)) (by simp)).slots, putA_length, slots_length h0 hran j (by omega)]
theorem slots_before (h0 : (st 0).1 = s) (hran : ∀ (i : Nat) (o : Oper), ops[i]? = some o -> Ran E rec fl ops tight foot (st i) i o (val i) (st (i + 1))) {d : Tmp} : ∀ (j : Nat), j <= ops.size -> (∀ h o, h < j -> ops[h]? = some o -> o.dst ≠ some d) -> (st j).1[d]? = s[d]?
  | 0, _, _ => by rw [h0]
  | j + 1, hj, hn => by
    have ho : ops[j]? = some (ops[j]'(by omega)) := by simp
    rw [(hran j _ ho).slots, putA_ne (hn j _ (by omega) ho)]
    exact slots_before h0 hran j (by omega) fun h o h1 => hn h o (by omega)
theorem slots_after (hc : Checks ops) (h0 : (st 0).1 = s) (hran : ∀ (i : Nat) (o : Oper), ops[i]? = some o -> Ran E rec fl ops tight foot (st i) i o (val i) (st (i + 1))) {d : Tmp} {h : Nat} {o : Oper} (ho : ops[h]? = some o) (hd : o.dst = some d) :
    ∀ (k : Nat), h + 1 + k <= ops.size -> d < s.length -> (st (h + 1 + k)).1[d]? = some (some (val h))
  | 0, hk, hl => by
    have := slots_length h0 hran h (by omega)
    simp only [Nat.add_zero]
    rw [(hran h o ho).slots, hd]
    simp only [putA]
    rw [List.getElem?_set_self (show d < (st h).1.length by rw [this]; exact hl)]
  | k + 1, hk, hl => by
    have ho' : ops[h + 1 + k]? = some (ops[h + 1 + k]'(by omega)) := by simp
    have := slots_after hc h0 hran ho hd k (by omega) hl
    show (st (h + 1 + k + 1)).1[d]? = _
    rw [(hran _ _ ho').slots, putA_ne, this]
    intro e
    have := hc.dsts _ _ _ _ d ho ho' hd e
    omega
structure Inv (ops : Array Oper) (val : Nat -> PV) (s : Slots) (len : Nat -> Nat) (e : Nat) (Γ : Sealed) (ρ : Ren) (L : Array Bool) (a : Act) : Prop where
  size : a.tmps.size = s.length
  done : ∀ (h : Nat) (o : Oper) (d : Tmp), ops[h]? = some o -> o.dst = some d -> L.getD h false = true -> d < s.length -> ∃ u, a.tmps[d]? = some u /\ Rep Γ ρ (val h) u /\ oldV (len (min (h + 1) e)) (val h) = true
  rest : ∀ (d : Tmp) (v : PV), (∀ h o, ops[h]? = some o -> o.dst = some d -> L.getD h false = false) -> s[d]? = some (some v) -> ∃ u, a.tmps[d]? = some u /\ Rep Γ ρ v u /\ oldV (len 0) v = true
variable {Γ Γ' : Sealed} {ρ ρ' : Ren} {L : Array Bool} {a : Act} {len : Nat -> Nat} {e : Nat}
theorem Inv.mono (h : Inv ops val s len e Γ ρ L a) (hle : Le Γ ρ Γ' ρ') : Inv ops val s len e Γ' ρ' L a :=
  ⟨h.size, fun k o d h1 h2 h3 h4 => let ⟨u, h5, h6, h7⟩ := h.done k o d h1 h2 h3 h4; ⟨u, h5, h6.mono hle, h7⟩, fun d v h1 h2 => let ⟨u, h5, h6, h7⟩ := h.rest d v h1 h2; ⟨u, h5, h6.mono hle, h7⟩⟩
theorem Inv.on {e' : Nat} (h : Inv ops val s len e Γ ρ L a) (he : e <= e') (hG : ∀ j, j < e' -> len j <= len (j + 1)) : Inv ops val s len e' Γ ρ L a :=
  ⟨h.size, fun k o d h1 h2 h3 h4 => let ⟨u, h5, h6, h7⟩ := h.done k o d h1 h2 h3 h4; ⟨u, h5, h6, oldV_le (mono_of hG _ _ (by omega) (by omega)) _ h7⟩, h.rest⟩
theorem Inv.put (h : Inv ops val s len e Γ ρ L a) (hc : Checks ops) {i : Nat} {o : Oper} (ho : ops[i]? = some o) (hL : i < L.size) {r : Value} (hr : Rep Γ ρ (val i) r) (hold : oldV (len (min (i + 1) e)) (val i) = true) : Inv ops val s len e Γ ρ (L.setIfInBounds i true) (a.put o.dst r) := by
  have hne : ∀ (d : Tmp), o.dst ≠ some d -> (a.put o.dst r).tmps[d]? = a.tmps[d]? := by
    intro d hd
    cases e : o.dst with
    | none => rfl
    | some d' =>
      simp only [Act.put]
      rw [Array.getElem?_setIfInBounds_ne (fun x => hd (by rw [e, x]))]
  refine ⟨by cases e : o.dst <;> simp [Act.put, h.size], fun k o' d h1 h2 h3 h4 => ?_, fun d v h1 h2 => ?_⟩
  . by_cases hd : o.dst = some d
    . have := hc.dsts k i o' o d h1 ho h2 hd
      subst this
      refine ⟨r, ?_, hr, hold⟩
      rw [hd]
      simp [Act.put, h.size, h4]
    . rw [hne d hd]
      refine h.done k o' d h1 h2 ?_ h4
      rcases getD_set.1 h3 with h5 | ⟨rfl, _⟩
      . exact h5
      . rw [ho] at h1; cases h1; exact absurd h2 hd
  . have hd : o.dst ≠ some d := by
      intro e
      have := h1 i o ho e
      rw [<- Bool.not_eq_true, getD_set] at this
      exact this (.inr ⟨rfl, hL⟩)
    rw [hne d hd]
    refine h.rest d v (fun k o' h3 h4 => ?_) h2
    have := h1 k o' h3 h4
    rw [<- Bool.not_eq_true, getD_set] at this
    rw [<- Bool.not_eq_true]
    exact fun e => this (.inl e)
theorem slots_at (h : Inv ops val s len e Γ ρ L a) (hG : ∀ j, j < e -> len j <= len (j + 1)) (hc : Checks ops) (hcl : Closed ops L) (h0 : (st 0).1 = s) (hran : ∀ (i : Nat) (o : Oper), ops[i]? = some o -> Ran E rec fl ops tight foot (st i) i o (val i) (st (i + 1)))
    {i : Nat} {o : Oper} (ho : ops[i]? = some o) (hr : i ∈ Region.ready .any ops L) : a.tmps.size = (maskS (o.looksAt ops) (st i).1).length /\ ∀ (t : Nat) (v : PV), (maskS (o.looksAt ops) (st i).1)[t]? = some (some v) ->
      ∃ u, a.tmps[t]? = some u /\ Rep Γ ρ v u /\ oldV (len (min i e)) v = true := by
  have hlt : i < ops.size := (Array.getElem?_eq_some_iff.1 ho).1
  have hui : L.getD i false = false := getD_false (mem_ready.1 hr).1
  have hsz := slots_length h0 hran i (by omega)
  refine ⟨by rw [maskS_length, hsz]; exact h.size, fun t v ht => ?_⟩
  have hrest : (∀ h o, ops[h]? = some o -> o.dst = some t -> L.getD h false = false) -> s[t]? = some (some v) -> ∃ u, a.tmps[t]? = some u /\ Rep Γ ρ v u /\ oldV (len (min i e)) v = true := by
    intro h1 h2
    obtain ⟨u, h3, h4, h5⟩ := h.rest t v h1 h2
    exact ⟨u, h3, h4, oldV_le (mono_of hG _ _ (Nat.zero_le _) (by omega)) _ h5⟩
  obtain ⟨hv, hm⟩ := maskS_get.1 ht
  by_cases hex : ∃ (k : Nat) (o' : Oper), ops[k]? = some o' /\ o'.dst = some t
  . obtain ⟨k, o', hk, hd⟩ := hex
    have hkl : k < ops.size := (Array.getElem?_eq_some_iff.1 hk).1
    have hord : k = i ∨ ordered (masks ops) k i = true := by
      by_cases hki : k = i
      . exact .inl hki
      . rcases hc.pairs k i o' o hk ho hki with h1 | h1
        . exact .inr h1
        . exfalso
          unfold slotsApart at h1
          simp only [hd, Bool.and_eq_true, Bool.not_eq_true', List.contains_eq_mem, decide_eq_false_iff_not] at h1
          exact h1.1 hm
    by_cases hki : k < i
    . have hL : L.getD k false = true := ready_anc hcl hr (ordered_anc (hord.resolve_left (by omega)) hki)
      have hts : t < s.length := by
        rw [<- hsz]; exact (List.getElem?_eq_some_iff.1 hv).1
      have := slots_after hc h0 hran hk hd (i - (k + 1)) (by omega) hts
      rw [show k + 1 + (i - (k + 1)) = i by omega, hv] at this
      cases this
      obtain ⟨u, h3, h4, h5⟩ := h.done k o' t hk hd hL hts
      exact ⟨u, h3, h4, oldV_le (mono_of hG _ _ (by omega) (by omega)) _ h5⟩
    . have huk : L.getD k false = false := by
        rcases hord with rfl | hord
        . exact hui
        . cases hb : L.getD k false with
          | false => rfl
          | true =>
            by_cases e : k = i
            . subst e; rw [hui] at hb; cases hb
            . have := hcl i k hb (ordered_anc' hord (by omega))
              rw [hui] at this; cases this
      refine hrest (fun k' o'' h1 h2 => ?_) ?_
      . have := hc.dsts k' k o'' o' t h1 hk h2 hd
        subst this; exact huk
      . rw [<- slots_before h0 hran i (by omega) fun k' o'' h1 h2 h3 => ?_]
        . exact hv
        . have := hc.dsts k' k o'' o' t h2 hk h3 hd
          omega
  . refine hrest (fun k' o'' h1 h2 => (hex ⟨k', o'', h1, h2⟩).elim) ?_
    rw [<- slots_before h0 hran i (by omega) fun k' o'' h1 h2 h3 => hex ⟨k', o'', h2, h3⟩]
    exact hv
theorem slots_end (h : Inv ops val s len e Γ ρ L a) (hc : Checks ops) (h0 : (st 0).1 = s) (hran : ∀ (i : Nat) (o : Oper), ops[i]? = some o -> Ran E rec fl ops tight foot (st i) i o (val i) (st (i + 1)))
    (hall : ∀ j, j < ops.size -> L.getD j false = true) : SlotsOk Γ ρ (st ops.size).1 a := by
  have hsz := slots_length h0 hran ops.size (Nat.le_refl _)
  refine ⟨by rw [hsz]; exact h.size, fun t v hv => ?_⟩
  by_cases hex : ∃ (k : Nat) (o' : Oper), ops[k]? = some o' /\ o'.dst = some t
  . obtain ⟨k, o', hk, hd⟩ := hex
    have hkl : k < ops.size := (Array.getElem?_eq_some_iff.1 hk).1
    have hts : t < s.length := by
      rw [<- hsz]; exact (List.getElem?_eq_some_iff.1 hv).1
    have := slots_after hc h0 hran hk hd (ops.size - (k + 1)) (by omega) hts
    rw [show k + 1 + (ops.size - (k + 1)) = ops.size by omega, hv] at this
    cases this
    obtain ⟨u, h3, h4, _⟩ := h.done k o' t hk hd (hall k hkl) hts
    exact ⟨u, h3, h4⟩
  . have hb := slots_before h0 hran ops.size (Nat.le_refl _) fun k' o'' h1 h2 h3 => hex ⟨k', o'', h2, h3⟩
    obtain ⟨u, h3, h4, _⟩ := h.rest t v (fun k' o'' h1 h2 => (hex ⟨k', o'', h1, h2⟩).elim) (hb.symm.trans hv)
    exact ⟨u, h3, h4⟩
theorem all_listed (hc : Checks ops) (hsz : L.size = ops.size) (h : Region.ready .any ops L = []) : ∀ j, j < ops.size -> L.getD j false = true := by
  intro j
  induction j using Nat.strongRecOn with
  | _ j ih =>
    intro hj
    cases hb : L.getD j false with
    | true => rfl
    | false =>
      have hl : j < L.size := by omega
      have ht : L.getD j true = false := by simpa [Array.getD, hl] using hb
      have ho : ops[j]? = some ops[j] := by simp [hj]
      have : j ∈ Region.ready .any ops L := mem_ready.2 ⟨ht, _, ho, fun e he hb => ih e.on (hc.edges j _ ho e he hb) (by have := hc.edges j _ ho e he hb; omega)⟩
      rw [h] at this
      simp at this
end
end
section
section
variable {E : Env} {fl : Nat} {Γ : Sealed} {ρ : Ren} {σ : Store} {w : World}
theorem count_set_lt : ∀ (l : List Bool) (i : Nat), l[i]? = some false -> (l.set i true).count false + 1 = l.count false
  | [], i, h => by simp at h
  | x :: l, 0, h => by
    simp at h
    subst h
    simp
  | x :: l, i + 1, h => by
    have := count_set_lt l i (by simpa using h)
    simp only [List.set_cons_succ, List.count_cons]
    omega
structure At (E : Env) (fl : Nat) (ops : Array Oper) (st : Nat -> Slots × Store) (val : Nat -> PV) (s : Slots) (ds : Act) (Γ0 : Sealed) (ρ0 : Ren) (σ0 : Store) (w0 : World) (L : Array Bool) (a : Act) (w : World) (Γ : Sealed) (ρ : Ren) (e : Nat) : Prop where
  sz : L.size = ops.size
  cl : Closed ops L
  he : e <= ops.size
  hend : e = ops.size ∨ Firm ops e
  hF : ∀ j, Firm ops j -> (L.getD j false = true ↔ j < e)
  hI : Inv ops val s (fun j => (st j).2.length) e Γ ρ L a
  hd : a.defers = ds.defers
  hR : Rel E fl Γ ρ (st e).2 w
  hP : Post fl Γ0 ρ0 σ0 w0 Γ ρ (st e).2 w
  hD : ∀ i, i < e -> L.getD i false = false -> ∀ id, (st i).2.length <= id -> id < (st (i + 1)).2.length -> ρ id = none
  hG : ∀ j, j < e -> (st j).2.length <= (st (j + 1)).2.length
  hK : ∀ c, c <= e -> (∀ j, c <= j -> j < e -> ¬ Firm ops j) -> ∀ (id : Nat) (l : Loc) (m : Ob), id < (st c).2.length -> ρ id = some l -> (st e).2[id]? = some m -> obOld (st c).2.length m = true
variable {rec : Rec} {ops : Array Oper} {st : Nat -> Slots × Store} {val : Nat -> PV} {foot : Nat -> Option Nat} {s : Slots} {ds : Act} {L : Array Bool} {a : Act} {e : Nat} {Γ' : Sealed} {ρ' : Ren} {w' : World}
theorem mem_old (h : Rel E fl Γ ρ σ w) {id : Nat} {l : Loc} {ob : Ob} (hl : ρ id = some l) (hm : σ[id]? = some ob) : obOld σ.length ob = true := by
  obtain ⟨ob', ho, hk⟩ := h.mem id l hl
  rw [hm] at ho
  cases ho
  exact hk.isOld fun id l hl => h.id_lt hl
theorem rep_mp {id : Nat} {v : Value} (h : Rep Γ ρ (.mp id) v) : ∃ l, ρ id = some l := by
  cases h with
  | mp l h hz => exact ⟨l, h⟩
theorem rep_ptr {id b f : Nat} {v : Value} (h : Rep Γ ρ (.ptr id b f) v) : ∃ l, ρ id = some l := by
  cases h with
  | ptr l h hl => exact ⟨l, h⟩
  | ptrOld l h hl ad => exact ⟨l, h⟩
theorem rep_osl {id b c e n : Nat} {x : Option Nat} {v : Value} (h : Rep Γ ρ (.osl id b c e n x) v) : ∃ l, ρ id = some l := by
  cases h with
  | osl l cap h hl hc hx ho => exact ⟨l, h⟩
  | oslOld l h hl a cap hc hx => exact ⟨l, h⟩
theorem go_on (hran : Textual E rec fl ops foot st val) (hR0 : Rel E fl Γ ρ σ w) (hfl : fl <= σ.length) {p : Nat} (hp : p <= ops.size) (hpf : p = 0 ∨ ∃ q, p = q + 1 /\ Firm ops q) (hsz : L.size = ops.size) (hcl : Closed ops L)
    (hF : ∀ j, Firm ops j -> (L.getD j false = true ↔ j < p)) (hI : Inv ops val s (fun j => (st j).2.length) p Γ' ρ' L a) (hd : a.defers = ds.defers) (hR : Rel E fl Γ' ρ' (st p).2 w') (hP : Post fl Γ ρ σ w Γ' ρ' (st p).2 w')
    (hlow : ∀ i, i < p -> L.getD i false = false -> (st (i + 1)).2 = (st i).2) (hG : ∀ j, j < p -> (st j).2.length <= (st (j + 1)).2.length) : ∃ e, At E fl ops st val s ds Γ ρ σ w L a w' Γ' ρ' e := by
  obtain ⟨e, h1, h2, h3, h4⟩ := next_firm ops (ops.size - p) p (by omega)
  obtain ⟨more, hmore⟩ := grow_range' hran h1 h2 h4
  have hG' : ∀ j, j < e -> (st j).2.length <= (st (j + 1)).2.length := by
    intro j hj
    by_cases hjp : j < p
    . exact hG j hjp
    . obtain ⟨new, hn⟩ := grows hran (o := ops[j]'(by omega)) (by simp) (h4 j (by omega) hj)
      rw [hn]
      simp
  have hm := mono_of (len := fun j => (st j).2.length) hG'
  refine ⟨e, hsz, hcl, h2, h3, fun j hj => ?_, hI.on h1 hG', hd, ?_, ?_, fun i hi hL id k1 k2 => ?_, hG', fun c hc hno id l m k1 k2 k3 => ?_⟩
  . rw [hF j hj]
    constructor
    . intro h; omega
    . intro h
      rcases Nat.lt_or_ge j p with h5 | h5
      . exact h5
      . exact absurd hj (h4 j h5 h)
  . rw [hmore]; exact hR.pad
  . rw [hmore]; exact hP.pad hR0 hfl
  . rcases Nat.lt_or_ge i p with h5 | h5
    . rw [hlow i h5 hL] at k2
      omega
    . cases hn : ρ' id with
      | none => rfl
      | some l =>
        have h6 := hR.id_lt hn
        have h7 := hm p i h5 (by omega)
        omega
  . have hid := hR.id_lt k2
    rw [hmore, List.getElem?_append_left hid] at k3
    have hold := mem_old hR k2 k3
    rcases Nat.lt_or_ge c p with h5 | h5
    . rcases hpf with h6 | ⟨q, rfl, h6⟩
      . omega
      . exact absurd h6 (hno q (by omega) (by omega))
    . exact obOld_le (hm p c h5 hc) _ hold
theorem step_ok (hE : E.Ok) (hrec : SoundRec E rec) (hc : Checks ops) (h0 : (st 0).1 = s) (hran : Textual E rec fl ops foot st val) (hR0 : Rel E fl Γ ρ σ w) (hfl : fl <= σ.length) (hst0 : (st 0).2 = σ)
    (hA : At E fl ops st val s ds Γ ρ σ w L a w' Γ' ρ' e) {i : Nat} {o : Oper} (ho : ops[i]? = some o) (hr : i ∈ Region.ready .any ops L) {Q : Exit -> Act -> World -> Prop} {K : Act -> World -> Prop}
    (hK : ∀ (r : Value) (w2 : World) (Γ2 : Sealed) (ρ2 : Ren) (e2 : Nat), At E fl ops st val s ds Γ ρ σ w (L.setIfInBounds i true) (a.put o.dst r) w2 Γ2 ρ2 e2 -> K (a.put o.dst r) w2) : wpOp E.P ops Q i K a w' := by
  have hlt : i < ops.size := (Array.getElem?_eq_some_iff.1 ho).1
  have hui : L.getD i false = false := getD_false (mem_ready.1 hr).1
  have hLi : i < L.size := by have := hA.sz; omega
  have hcl' := closed_set hA.cl hr
  have hsz' : (L.setIfInBounds i true).size = ops.size := by simpa using hA.sz
  have hd' : ∀ r, (a.put o.dst r).defers = ds.defers := fun r => by rw [<- hA.hd]; cases o.dst <;> rfl
  have hm := mono_of (len := fun j => (st j).2.length) hA.hG
  obtain ⟨hsl, hsv⟩ := slots_at hA.hI hA.hG hc hA.cl h0 hran ho hr
  have hs : SlotsOk Γ' ρ' (maskS (o.looksAt ops) (st i).1) a := ⟨hsl, fun t v ht => let ⟨u, k1, k2, _⟩ := hsv t v ht; ⟨u, k1, k2⟩⟩
  have stay : ∀ (r : Value), ¬ Firm ops i -> Rep Γ' ρ' (val i) r -> oldV (st (min (i + 1) e)).2.length (val i) = true -> K (a.put o.dst r) w' := by
    intro r hn hrep hold
    refine hK r w' Γ' ρ' e ⟨hsz', hcl', hA.he, hA.hend, fun j hj => ?_, hA.hI.put hc ho hLi hrep hold, hd' r, hA.hR, hA.hP, fun j hj hL => hA.hD j hj ?_, hA.hG, hA.hK⟩
    . rw [<- hA.hF j hj, getD_set]
      constructor
      . rintro (h | ⟨rfl, _⟩)
        . exact h
        . exact absurd hj hn
      . exact .inl
    . cases hb : L.getD j false with
      | false => rfl
      | true => rw [getD_set.2 (.inl hb)] at hL; cases hL
  have firm : Firm ops i -> i = e := by
    intro hf
    have h1 : ¬ i < e := fun h => by have := (hA.hF i hf).2 h; rw [hui] at this; cases this
    rcases hA.hend with h2 | h2
    . omega
    . rcases Nat.lt_or_ge e i with h3 | h3
      . exfalso
        obtain ⟨oe, k1, k2, kl, k3⟩ := h2
        obtain ⟨oi, k4, k5, kl', k6⟩ := hf
        rcases loose_ordered k1 k4 (by omega) k3 k2 kl k5 with hq | hq
        . have := ready_anc hA.cl hr (ordered_anc hq h3)
          have := (hA.hF e ⟨oe, k1, k2, kl, k3⟩).1 this
          omega
        . rw [kl'] at hq; cases hq.1
      . omega
  have past : ∀ (r : Value) (w2 : World) (Γ2 : Sealed) (ρ2 : Ren), Firm ops i -> Rep Γ2 ρ2 (val i) r -> Rel E fl Γ2 ρ2 (st (i + 1)).2 w2 -> Post fl Γ' ρ' (st i).2 w' Γ2 ρ2 (st (i + 1)).2 w2 -> K (a.put o.dst r) w2 := by
    intro r w2 Γ2 ρ2 hf hrep hR2 hP2
    have hie := firm hf
    subst hie
    have hG2 : ∀ j, j < i + 1 -> (st j).2.length <= (st (j + 1)).2.length := by
      intro j hj
      by_cases hji : j = i
      . subst hji; exact hP2.len
      . exact hA.hG j (by omega)
    have q1 : ∀ j, Firm ops j -> ((L.setIfInBounds i true).getD j false = true ↔ j < i + 1) := by
      intro j hj
      rw [getD_set]
      have := hA.hF j hj
      constructor
      . rintro (h | ⟨rfl, _⟩)
        . have := this.1 h; omega
        . omega
      . intro h
        by_cases hji : j = i
        . exact .inr ⟨hji, hLi⟩
        . exact .inl (this.2 (by omega))
    have q2 : oldV (st (min (i + 1) (i + 1))).2.length (val i) = true := by
      rw [Nat.min_self]
      exact hrep.isOld fun id l hl => hR2.id_lt hl
    have q3 : ∀ j, j < i + 1 -> (L.setIfInBounds i true).getD j false = false -> (st (j + 1)).2 = (st j).2 := by
      intro j hj hL
      have hji : j ≠ i := fun e => by rw [getD_set.2 (.inr ⟨e, hLi⟩)] at hL; cases hL
      have hLj : L.getD j false = false := by
        cases hb : L.getD j false with
        | false => rfl
        | true => rw [getD_set.2 (.inl hb)] at hL; cases hL
      have hoj : ops[j]? = some (ops[j]'(by omega)) := by simp
      cases hp : isPure (ops[j]'(by omega)).op with
      | true => exact pure_same hran hoj hp
      | false =>
        obtain ⟨oi, k4, k5, kl, k6⟩ := hf
        rcases loose_ordered k4 hoj (by omega) k6 k5 kl hp with hq | hq
        . have := ready_anc hA.cl hr (ordered_anc (i := j) (j := i) (by rw [ordered_symm]; exact hq) (by omega))
          rw [hLj] at this; cases this
        . exact load_same hran hoj hq.1
    obtain ⟨e2, hA2⟩ := go_on (ds := ds) hran hR0 hfl (p := i + 1) (by omega) (.inr ⟨i, rfl, hf⟩) hsz' hcl' q1
      (((hA.hI.mono hP2.le).on (Nat.le_succ i) hG2).put hc ho hLi hrep q2) (hd' r) hR2 (hA.hP.trans hP2) q3 hG2
    exact hK r w2 Γ2 ρ2 e2 hA2
  unfold wpOp
  simp only [ho]
  rcases (hran i o ho).does with ⟨k1, k2, kfoot, kold⟩ | ⟨k1, k2, k3, _⟩
  . rw [wantedA_ok k1 hs, if_pos rfl]
    refine .inl ?_
    by_cases hf : Firm ops i
    . have hie := firm hf
      obtain ⟨oi, k4, k5, kl, k6⟩ := hf
      rw [k6] at k2
      simp only [opA, Bool.false_eq_true, if_false] at k2
      subst hie
      have hlen : fl <= (st i).2.length := Nat.le_trans hfl hA.hP.len
      refine stepA_ok hE hrec hA.hR hlen hs.env k2 _ _ fun r w2 hmv => ?_
      obtain ⟨Γ2, ρ2, hrep, hR2, hP2⟩ := hmv
      exact past r w2 Γ2 ρ2 ⟨oi, k4, k5, kl, k6⟩ hrep hR2 hP2
    . have hcut : SlotsOk Γ' (cutR (st (min i e)).2.length ρ') (maskS (o.looksAt ops) (st i).1) a :=
        ⟨hsl, fun t v ht => let ⟨u, q1, q2, q3⟩ := hsv t v ht; ⟨u, q1, q2.old (fun id hid => cutR_lt hid) q3⟩⟩
      rcases not_firm ho hf with hp | hp | ⟨hp, hpl, ht⟩
      . rw [tight_pure ho hp] at k2
        simp only [opA, Bool.false_eq_true, if_false, stepA, hp, if_true] at k2
        cases hq : pureA E (evalA (maskS (o.looksAt ops) (st i).1)) o.op with
        | none => simp [hq] at k2
        | some q =>
          simp [hq] at k2
          obtain ⟨rfl, _⟩ := k2
          obtain ⟨r, q1, q2⟩ := pureA_ok hE hcut.env hq
          refine StepOk.value (K := fun r' w2 => r' = r /\ w2 = w') (q2 w') ⟨rfl, rfl⟩ _ _ fun r' w2 hk => ?_
          obtain ⟨rfl, rfl⟩ := hk
          exact stay _ hf (q1.mono (cut_le _)) (oldV_le (hm _ _ (by omega) (by omega)) _ (q1.isOld fun id l hl => (cutR_some hl).1))
      . have hpi : isPure o.op = false := by
          cases ho' : o.op with
          | load t a => rfl
          | lookup t a b ok => rfl
          | slice t a b c d => rfl
          | _ => rw [ho'] at hp; cases hp
        rw [tight_load ho hp] at k2
        have hloc := (load_at (fl' := fl) (τ := (st i).2) hp (fun _ _ => rfl) k2).2.2
        have hstep1 : ∀ (id j : Nat) (oj : Oper), footOf (evalA (maskS (o.looksAt ops) (st i).1)) o.op = some id -> id < (st j).2.length -> ops[j]? = some oj -> (tightOf ops (masks ops)).getD j true = false -> isStore oj.op = true ->
            (foot j = none ∨ foot j ≠ foot i ∨ entryPair oj.op o.op = true) -> Near E o.op (st j).2[id]? (st (j + 1)).2[id]? := by
          intro id j oj hid hjl j1 j3 hst hap
          have hfoot : foot i = some id := kfoot.trans hid
          rcases (hran j oj j1).does with ⟨_, q2, q3, _⟩ | ⟨_, _, q3, _⟩
          . rw [j3] at q2
            by_cases hfj : footOf (evalA (maskS (oj.looksAt ops) (st j).1)) oj.op = some id
            . rcases hap with h | h | h
              . rw [q3, hfj] at h; cases h
              . exact absurd (q3.trans (hfj.trans hfoot.symm)) h
              . unfold entryPair at h
                split at h
                . rename_i e1 e2; rw [e1] at hst; cases hst
                . rename_i e1 e2
                  rw [e1] at q2 hfj
                  have ht := Nat.eq_of_beq_eq_true h
                  subst ht
                  rw [e2]
                  exact entry_more q2 hfj
                . cases h
            . exact .of_eq (store_keep hst q2 hfj hjl).symm
          . rw [q3]; exact .refl _
        have hsame : ∀ id, footOf (evalA (maskS (o.looksAt ops) (st i).1)) o.op = some id -> Near E o.op (st i).2[id]? (st e).2[id]? ∨ Near E o.op (st e).2[id]? (st i).2[id]? := by
          intro id hid
          have hfoot : foot i = some id := kfoot.trans hid
          rcases Nat.le_total i e with hle | hle
          . refine .inl ?_
            have := keptN hran (o := o.op) (id := id) i (hloc id hid) (e - i) (by have := hA.he; omega) fun j h1 h2 hjl hj => ?_
            . rwa [show i + (e - i) = e by omega] at this
            . obtain ⟨oj, j1, j2, jl, j3⟩ := hj
              have hji : j ≠ i := fun e => by subst e; rw [ho] at j1; cases j1; rw [hp] at jl; cases jl
              have hno : ordered (masks ops) j i = false := by
                cases hb : ordered (masks ops) j i with
                | false => rfl
                | true =>
                  have := hA.cl i j ((hA.hF j ⟨oj, j1, j2, jl, j3⟩).2 (by omega)) (ordered_anc' hb (by omega))
                  rw [hui] at this; cases this
              rcases loose_ordered j1 ho hji j3 j2 jl hpi with hq | hq
              . rw [hno] at hq; cases hq
              . exact hstep1 id j oj hid hjl j1 j3 hq.2 ((hran j oj j1).apart i o (by omega) ho (by simp [beside, hno, hq.1, hq.2]))
          . have hlt' : id < (st e).2.length := by
              cases hop : o.op with
              | load t a =>
                rw [hop] at hid
                simp only [footOf] at hid
                cases ha : evalA (maskS (o.looksAt ops) (st i).1) a with
                | none => simp [ha] at hid
                | some p =>
                  rw [ha] at hid
                  have hrep := hs.env a p ha
                  cases p with
                  | ptr id' b f =>
                    simp only [Option.some.injEq] at hid
                    subst hid
                    obtain ⟨l, h⟩ := rep_ptr hrep
                    exact hA.hR.id_lt h
                  | _ => cases hid
              | lookup t a b ok =>
                rw [hop] at hid
                simp only [footOf] at hid
                cases ha : evalA (maskS (o.looksAt ops) (st i).1) a with
                | none => simp [ha] at hid
                | some p =>
                  rw [ha] at hid
                  have hrep := hs.env a p ha
                  cases p with
                  | mp id' =>
                    simp only [Option.some.injEq] at hid
                    subst hid
                    obtain ⟨l, h⟩ := rep_mp hrep
                    exact hA.hR.id_lt h
                  | _ => cases hid
              | slice t a b c d =>
                rw [hop] at hid
                simp only [footOf] at hid
                cases ha : evalA (maskS (o.looksAt ops) (st i).1) a with
                | none => simp [ha] at hid
                | some p =>
                  rw [ha] at hid
                  have hrep := hs.env a p ha
                  cases p with
                  | osl id' b c es len xc =>
                    simp only [Option.some.injEq] at hid
                    subst hid
                    obtain ⟨l, h⟩ := rep_osl hrep
                    exact hA.hR.id_lt h
                  | _ => cases hid
              | _ => rw [hop] at hp; cases hp
            refine .inr ?_
            have := keptN hran (o := o.op) (id := id) e hlt' (i - e) (by omega) fun j h1 h2 hjl hj => ?_
            . rwa [show e + (i - e) = i by omega] at this
            . obtain ⟨oj, j1, j2, jl, j3⟩ := hj
              have hno : ordered (masks ops) j i = false := by
                cases hb : ordered (masks ops) j i with
                | false => rfl
                | true =>
                  have := (hA.hF j ⟨oj, j1, j2, jl, j3⟩).1 (ready_anc hA.cl hr (ordered_anc hb (by omega)))
                  omega
              rcases loose_ordered j1 ho (by omega) j3 j2 jl hpi with hq | hq
              . rw [hno] at hq; cases hq
              . refine hstep1 id j oj hid hjl j1 j3 hq.2 ?_
                rcases (hran i o ho).apart j oj (by omega) j1 (by rw [beside, ordered_symm, hno]; simp [hq.1, hq.2]) with h | h | h
                . rw [hfoot] at h; cases h
                . exact .inr (.inl fun he => h he.symm)
                . refine .inr (.inr ?_)
                  unfold entryPair at h ⊢
                  split at h
                  . rename_i e1 e2; have ht := Nat.eq_of_beq_eq_true h; subst ht; simp only [e1, e2]; exact Nat.beq_refl _
                  . rename_i e1 e2; rw [e1] at hp; cases hp
                  . cases h
        have hstep := load_near (fl' := (st e).2.length) hp hsame k2
        have hlen : fl <= (st e).2.length := Nat.le_trans hfl hA.hP.len
        refine stepA_ok hE hrec (hA.hR.raise hlen) (Nat.le_refl _) hs.env hstep _ _ fun r w2 hmv => ?_
        obtain ⟨Γ1, ρ1, hrep, hR1, hP1⟩ := hmv
        have hρ : ρ1 = ρ' := by
          funext id
          by_cases hid : id < (st e).2.length
          . exact hP1.low id hid
          . cases h1 : ρ1 id with
            | some l => exact absurd (hR1.id_lt h1) hid
            | none => cases h2 : ρ' id with
              | none => rfl
              | some l => exact absurd (hA.hR.id_lt h2) hid
        subst hρ
        have hR2 := hA.hR.widen hR1 hP1
        have hold : oldV (st (min (i + 1) e)).2.length (val i) = true := by
          rcases Nat.lt_or_ge i e with h1 | h1
          . rw [Nat.min_eq_left (by omega)]
            exact oldV_le (hA.hG i h1) _ (kold hp)
          . rw [Nat.min_eq_right (by omega)]
            exact hrep.isOld fun id l hl => hR1.id_lt hl
        refine hK r w2 Γ1 _ e ⟨hsz', hcl', hA.he, hA.hend, fun j hj => ?_, (hA.hI.mono hP1.le).put hc ho hLi hrep hold, hd' r, hR2, hA.hP.trans (hP1.mono hlen), fun j hj hL => hA.hD j hj ?_, hA.hG, hA.hK⟩
        . rw [<- hA.hF j hj, getD_set]
          constructor
          . rintro (h | ⟨rfl, _⟩)
            . exact h
            . exact absurd hj hf
          . exact .inl
        . cases hb : L.getD j false with
          | false => rfl
          | true => rw [getD_set.2 (.inl hb)] at hL; cases hL
      . have hie : i < e := by
          rcases Nat.lt_or_ge i e with h1 | h1
          . exact h1
          . exfalso
            rcases hA.hend with h2 | h2
            . omega
            . rcases Nat.lt_or_ge e i with h3 | h3
              . obtain ⟨oe, j1, j2, jl, j3⟩ := h2
                rcases loose_ordered j1 ho (by omega) j3 j2 jl hp with hq | hq
                . have := ready_anc hA.cl hr (ordered_anc hq h3)
                  have := (hA.hF e ⟨oe, j1, j2, jl, j3⟩).1 this
                  omega
                . rw [hpl] at hq; cases hq.1
              . exact hf (by rw [show i = e by omega]; exact h2)
        have hno : ∀ j, i <= j -> j < e -> ¬ Firm ops j := by
          intro j h1 h2 hj
          have h3 := (hA.hF j hj).2 h2
          by_cases hji : j = i
          . subst hji; exact hf hj
          . obtain ⟨oj, j1, j2, jl, j3⟩ := hj
            rcases loose_ordered j1 ho (by omega) j3 j2 jl hp with hq | hq
            . have := hA.cl i j h3 (ordered_anc' hq (by omega))
              rw [hui] at this; cases this
            . rw [hpl] at hq; cases hq.1
        obtain ⟨new, hnew⟩ := grows hran ho hf
        obtain ⟨more, hmore⟩ := grow_range' hran (a := i + 1) (b := e) (by omega) hA.he fun j h1 h2 => hno j (by omega) h2
        have hall : (st e).2 = (st i).2 ++ (new ++ more) := by rw [hmore, hnew, List.append_assoc]
        have hlen : fl <= (st i).2.length := by
          have h1 := hm 0 i (Nat.zero_le _) (by omega)
          simp only [hst0] at h1
          omega
        have hRe : Rel E fl Γ' ρ' ((st i).2 ++ (new ++ more)) w' := by rw [<- hall]; exact hA.hR
        have hkeep := hA.hK i (by omega) hno
        have hRc := hRe.cut hE hlen fun id l m h1 h2 h3 => hkeep id l m h1 h2 (by rw [hall, List.getElem?_append_left h1]; exact h3)
        rw [Nat.min_eq_left (by omega)] at hcut
        rw [ht] at k2
        obtain ⟨_, hstep⟩ := tight_ok hE hrec hRc hlen hcut.env k2
        refine hstep _ _ fun r w2 hmv => ?_
        obtain ⟨Γ1, ρ1, hrep, hR1, hP1⟩ := hmv
        rw [hnew] at hR1 hP1
        have hnone : ∀ id, (st i).2.length <= id -> id < ((st i).2 ++ new).length -> ρ' id = none := fun id h1 h2 => hA.hD i hie hui id h1 (by rw [hnew]; exact h2)
        obtain ⟨hR2, hP2, hle1⟩ := join_ok hRe hlen hnone hR1 hP1
        rw [<- hall] at hR2 hP2
        rw [<- hnew] at hR2 hP2 hle1 hR1
        have hin : ∀ id, (st i).2.length <= id -> id < (st (i + 1)).2.length -> joinR (st i).2.length (st (i + 1)).2.length ρ' ρ1 id = ρ1 id := fun id h1 h2 => by simp only [joinR, if_pos (And.intro h1 h2)]
        have hout : ∀ id, ¬ ((st i).2.length <= id /\ id < (st (i + 1)).2.length) -> joinR (st i).2.length (st (i + 1)).2.length ρ' ρ1 id = ρ' id := fun id h1 => by simp only [joinR, if_neg h1]
        refine hK r w2 Γ1 _ e ⟨hsz', hcl', hA.he, hA.hend, fun j hj => ?_, (hA.hI.mono hP2.le).put hc ho hLi (hrep.mono hle1) ?_, hd' r, hR2, hA.hP.trans hP2, fun j hj hL id h1 h2 => ?_, hA.hG, fun c hce hnc id l m h1 h2 h3 => ?_⟩
        . rw [<- hA.hF j hj, getD_set]
          constructor
          . rintro (h | ⟨rfl, _⟩)
            . exact h
            . exact absurd hj hf
          . exact .inl
        . rw [Nat.min_eq_left (by omega)]
          exact hrep.isOld fun id l hl => hR1.id_lt hl
        . have hji : j ≠ i := fun e => by rw [getD_set.2 (.inr ⟨e, hLi⟩)] at hL; cases hL
          have hLj : L.getD j false = false := by
            cases hb : L.getD j false with
            | false => rfl
            | true => rw [getD_set.2 (.inl hb)] at hL; cases hL
          rw [hout id ?_]
          . exact hA.hD j hj hLj id h1 h2
          . rintro ⟨h3, h4⟩
            rcases Nat.lt_or_ge j i with h5 | h5
            . have := hm (j + 1) i (by omega) (by omega)
              omega
            . have := hm (i + 1) j (by omega) (by omega)
              omega
        . by_cases hb : (st i).2.length <= id /\ id < (st (i + 1)).2.length
          . rw [hin id hb.1 hb.2] at h2
            have h4 : (st (i + 1)).2[id]? = some m := by
              rw [hmore, List.getElem?_append_left hb.2] at h3
              exact h3
            have h5 := mem_old hR1 h2 h4
            rcases Nat.lt_or_ge i c with h6 | h6
            . exact obOld_le (hm (i + 1) c (by omega) hce) _ h5
            . have := hm c i h6 (by omega)
              omega
          . rw [hout id hb] at h2
            exact hA.hK c hce hnc id l m h1 h2 h3
  . rw [wantedA_ok k1 hs, if_neg (by simp)]
    have hrep : Rep Γ' ρ' (val i) undef := by rw [k2]; exact rep_undef
    by_cases hf : Firm ops i
    . have hie := firm hf
      refine past undef w' Γ' ρ' hf hrep ?_ ?_
      . rw [k3, hie]; exact hA.hR
      . rw [k3]; exact .refl _ _ _ _ _
    . refine stay undef hf hrep ?_
      rw [k2]
      rfl
theorem drawn_ok (hE : E.Ok) (hrec : SoundRec E rec) {Q : Exit -> Act -> World -> Prop} (hc : Checks ops) (h0 : (st 0).1 = s) (hran : Textual E rec fl ops foot st val) (hR0 : Rel E fl Γ ρ σ w) (hfl : fl <= σ.length) (hst0 : (st 0).2 = σ)
    (hQ : ∀ a' w' Γ' ρ', SlotsOk Γ' ρ' (st ops.size).1 a' -> a'.defers = ds.defers -> Rel E fl Γ' ρ' (st ops.size).2 w' -> Post fl Γ ρ σ w Γ' ρ' (st ops.size).2 w' -> Q .normal a' w') :
    ∀ (fuel : Nat) (L : Array Bool) (a : Act) (w' : World) (Γ' : Sealed) (ρ' : Ren) (e : Nat), L.toList.count false <= fuel -> At E fl ops st val s ds Γ ρ σ w L a w' Γ' ρ' e -> wpAny E.P .any ops Q fuel L a w' := by
  have hfin : ∀ (L : Array Bool) (a : Act) (w' : World) (Γ' : Sealed) (ρ' : Ren) (e : Nat), (∀ j, j < ops.size -> L.getD j false = true) -> At E fl ops st val s ds Γ ρ σ w L a w' Γ' ρ' e -> Q .normal a w' := by
    intro L a w' Γ' ρ' e hall hA
    have he : e = ops.size := by
      rcases hA.hend with h | h
      . exact h
      . obtain ⟨o, ho, h1⟩ := h
        have := (hA.hF e ⟨o, ho, h1⟩).1 (hall e (Array.getElem?_eq_some_iff.1 ho).1)
        omega
    subst he
    exact hQ a w' Γ' ρ' (slots_end hA.hI hc h0 hran hall) hA.hd hA.hR hA.hP
  intro fuel
  induction fuel with
  | zero =>
    intro L a w' Γ' ρ' e hcnt hA
    have hsz := hA.sz
    have hall : ∀ j, j < ops.size -> L.getD j false = true := by
      intro j hj
      cases hb : L.getD j false with
      | true => rfl
      | false =>
        exfalso
        have hl : j < L.size := by omega
        have h1 : false ∈ L.toList := by
          have : L[j] = false := by simpa [Array.getD, hl] using hb
          rw [<- this]
          simp
        have := List.count_pos_iff.2 h1
        omega
    refine ⟨?_, hfin L a w' Γ' ρ' e hall hA⟩
    apply List.eq_nil_iff_forall_not_mem.2
    intro j hj
    obtain ⟨h1, o, ho, _⟩ := mem_ready.1 hj
    have := hall j (Array.getElem?_eq_some_iff.1 ho).1
    rw [getD_false h1] at this
    cases this
  | succ fuel ih =>
    intro L a w' Γ' ρ' e hcnt hA
    have hsz := hA.sz
    refine ⟨fun hr => hfin L a w' Γ' ρ' e (all_listed hc hsz hr) hA, fun i hi => ?_⟩
    obtain ⟨h1, o, ho, _⟩ := mem_ready.1 hi
    have hlt : i < ops.size := (Array.getElem?_eq_some_iff.1 ho).1
    have hcnt' : (L.setIfInBounds i true).toList.count false <= fuel := by
      have hL : L.toList[i]? = some false := by
        have hl : i < L.size := by omega
        have := getD_false h1
        simpa [Array.getD, hl] using this
      have := count_set_lt L.toList i hL
      rw [Array.toList_setIfInBounds]
      omega
    exact step_ok hE hrec hc h0 hran hR0 hfl hst0 hA ho hi fun r w2 Γ2 ρ2 e2 hA2 => ih _ _ w2 Γ2 ρ2 e2 hcnt' hA2
theorem draw_ok (hE : E.Ok) {rec : Rec} (hrec : SoundRec E rec) {id : Nat} {ops : Array Oper} {Q : Exit -> Act -> World -> Prop} (hp : pairsOk ops (masks ops) = true) {s s' : Slots} {σ' : Store} {a : Act}
    (h : opsD E rec fl ops (masks ops) (tightOf ops (masks ops)) ops.toList 0 [] s σ = some (s', σ')) (hR : Rel E fl Γ ρ σ w) (hfl : fl <= σ.length) (hs : SlotsOk Γ ρ s a)
    (hQ : ∀ a' w' Γ' ρ', SlotsOk Γ' ρ' s' a' -> a'.defers = a.defers -> Rel E fl Γ' ρ' σ' w' -> Post fl Γ ρ σ w Γ' ρ' σ' w' -> Q .normal a' w') : (Code.region id ops true).wp E.P Q a w := by
  refine wp_region_any hE.mixed ?_
  obtain ⟨st, val, foot, h1, h2, _, h3⟩ := trace ops.toList 0 (fun _ => none) h rfl (fun k hk => absurd hk (Nat.not_lt_zero k))
  have hran : Textual E rec fl ops foot st val := by
    intro i o ho
    have := h3 i o (by simpa using ho)
    simpa using this
  have h2' : st ops.size = (s', σ') := by simpa using h2
  have hno : ∀ j, (Array.replicate ops.size false).getD j false = false := by
    intro j
    by_cases hj : j < ops.size <;> simp [Array.getD, hj]
  have hw : ∀ b, b < w.heap.size -> ({ w with drawn := w.drawn + 1 } : World).heap[b]? = w.heap[b]? := fun b _ => rfl
  have hP : Post fl Γ ρ σ w Γ ρ σ { w with drawn := w.drawn + 1 } :=
    { Post.refl fl Γ ρ σ w with frame := fun _ _ _ => rfl, size := Nat.le_refl _, os := rfl, tape := rfl, output := ⟨rfl, fun _ => Nat.le_succ _⟩ }
  obtain ⟨e, hA⟩ := go_on (s := s) (ds := a) (a := a) (L := Array.replicate ops.size false) hran hR hfl (p := 0) (Nat.zero_le _) (.inl rfl) (by simp) (fun i j hj => by rw [hno] at hj; cases hj) (fun j _ => by rw [hno]; simp)
    ⟨hs.1, fun k o d _ _ hk => (by rw [hno] at hk; cases hk), fun d v _ hv => by
      obtain ⟨u, k1, k2⟩ := hs.2 d v hv
      exact ⟨u, k1, k2, k2.isOld fun id l hl => by rw [h1]; exact hR.id_lt hl⟩⟩ rfl (by rw [h1]; exact hR.world hw) (by rw [h1]; exact hP) (fun i hi => absurd hi (Nat.not_lt_zero i)) (fun i hi => absurd hi (Nat.not_lt_zero i))
  refine drawn_ok (ds := a) hE hrec (checks_ok hp) (by rw [h1]) hran hR hfl (by rw [h1]) ?_ ops.size _ a _ Γ ρ e (by simp) hA
  rw [h2']
  exact hQ
end
end
section
section
variable {E : Env} {fl : Nat} {Γ : Sealed} {ρ : Ren} {σ : Store} {w : World}
def exitOf : Out -> Exit
  | .norm => .normal
  | .exit id => .exit id
  | .ret => .ret
  | .goto l => .goto l
open Classical in
noncomputable def least (p : Nat -> Prop) : Nat := if h : ∃ n, p n /\ ∀ m, m < n -> ¬ p m then h.choose else 0
theorem least_spec {p : Nat -> Prop} {n : Nat} (h : p n) : p (least p) /\ least p <= n := by
  have hex : ∃ n, p n /\ ∀ m, m < n -> ¬ p m := by
    induction n using Nat.strongRecOn with
    | _ n ih =>
      by_cases hm : ∃ m, m < n /\ p m
      . obtain ⟨m, h1, h2⟩ := hm
        exact ih m h1 h2
      . exact ⟨n, h, fun m h1 h2 => hm ⟨m, h1, h2⟩⟩
  unfold least
  rw [dif_pos hex]
  have hs := hex.choose_spec
  refine ⟨hs.1, ?_⟩
  rcases Nat.lt_or_ge n hex.choose with hlt | hge
  . exact absurd h (hs.2 n hlt)
  . exact hge
theorem wp_loop_fuel {P : Program} {Q : Exit -> Act -> World -> Prop} {c : Code} {a : Act} {w : World} (I : Nat -> Act -> World -> Prop) {n : Nat} (h0 : I n a w)
    (round : ∀ n a w, I n a w -> c.wp P (Exit.then (fun a' w' => ∃ m, m < n /\ I m a' w') Q) a w) : (Code.loop c).wp P Q a w := by
  refine wp_loop (fun a w => ∃ n, I n a w) (fun a w => least fun n => I n a w) ⟨n, h0⟩ fun a w hI => ?_
  obtain ⟨k, hk⟩ := hI
  have hl := least_spec (p := fun n => I n a w) hk
  refine wp_mono (round _ a w hl.1) fun e a' w' hq => ?_
  cases e with
  | normal =>
    obtain ⟨m, hm, hIm⟩ := hq
    exact ⟨⟨m, hIm⟩, Nat.lt_of_le_of_lt (least_spec (p := fun n => I n a' w') hIm).2 hm⟩
  | _ => exact hq
theorem keepS_get : ∀ (bs : List Bool) (s : Slots) (t : Nat) (v : PV), (keepS bs s)[t]? = some (some v) -> s[t]? = some (some v)
  | b :: bs, x :: s, 0, v, h => by
    simp only [keepS, List.getElem?_cons_zero, Option.some.injEq] at h ⊢
    cases b <;> simp_all
  | b :: bs, x :: s, t + 1, v, h => by
    simp only [keepS, List.getElem?_cons_succ] at h ⊢
    exact keepS_get bs s t v h
  | [], s, t, v, h => by cases s <;> exact h
  | b :: bs, [], t, v, h => by simp [keepS] at h
theorem keepS_len : ∀ (bs : List Bool) (s : Slots), (keepS bs s).length = s.length
  | b :: bs, x :: s => by simp [keepS, keepS_len bs s]
  | [], s => by cases s <;> rfl
  | b :: bs, [] => rfl
theorem trim_ok (hE : E.Ok) {Γ0 : Sealed} {ρ0 : Ren} {σ0 : Store} {w0 : World} {s : Slots} {a : Act} (h0 : Rel E fl Γ0 ρ0 σ0 w0) (hp : Post fl Γ0 ρ0 σ0 w0 Γ ρ σ w) (hfl : fl <= σ0.length) (h : Rel E fl Γ ρ σ w) (hs : SlotsOk Γ ρ s a) (pat : List Bool) :
    ∃ ρ', SlotsOk Γ ρ' (trimA E fl pat σ0.length s σ).1 a /\ Rel E fl Γ ρ' (trimA E fl pat σ0.length s σ).2 w /\ Post fl Γ0 ρ0 σ0 w0 Γ ρ' (trimA E fl pat σ0.length s σ).2 w /\ ∀ id l, ρ' id = some l -> ∃ id', ρ id' = some l := by
  have hsame : ∃ ρ', SlotsOk Γ ρ' s a /\ Rel E fl Γ ρ' σ w /\ Post fl Γ0 ρ0 σ0 w0 Γ ρ' σ w /\ ∀ id l, ρ' id = some l -> ∃ id', ρ id' = some l := ⟨ρ, hs, h, hp, fun id l hl => ⟨id, hl⟩⟩
  unfold trimA
  split
  . rename_i hfl0
    have hfl0 : fl = 0 := by
      simp only [Bool.and_eq_true] at hfl0
      exact Nat.eq_of_beq_eq_true hfl0.2
    split
    . rename_i p ht
      unfold trimO at ht
      obtain ⟨hnd, hge⟩ := liveN_ok pat σ0.length s σ
      revert ht hnd hge
      generalize liveN pat σ0.length s σ = L
      intro ht hnd hge
      split at ht
      . rename_i os hos
        split at ht
        . rename_i s1 σ1 hs1 hσ1
          cases ht
          have hlen0 : σ0.length <= σ.length := hp.len
          have hlt0 : ∀ id l, ρ0 id = some l -> id < σ0.length := fun id l hl => by
            obtain ⟨ob, hob, _⟩ := h0.mem id l hl
            exact (List.getElem?_eq_some_iff.1 hob).1
          have hlow : ∀ id, id < σ0.length -> (σ.take σ0.length ++ os)[id]? = σ[id]? := fun id hid => by
            rw [List.getElem?_append_left (by simp only [List.length_take]; omega), List.getElem?_take, if_pos hid]
          have hhigh : ∀ q, (σ.take σ0.length ++ os)[σ0.length + q]? = os[q]? := fun q => by
            have : (σ.take σ0.length).length = σ0.length := by simp only [List.length_take]; omega
            rw [List.getElem?_append_right (by omega), this, Nat.add_sub_cancel_left]
          have hfind : ∀ id l, renR σ0.length L ρ id = some l -> ∃ id' ob ob1, ρ id' = some l /\ σ[id']? = some ob /\ ObOk Γ ρ w l ob /\ σ1[id]? = some ob1 /\ renOb σ0.length L ob = some ob1 /\ (id < σ0.length -> id' = id) /\ (σ0.length <= id -> L[id - σ0.length]? = some id') := by
            intro id l hl
            unfold renR at hl
            split at hl
            . rename_i hid
              obtain ⟨ob, hm, hok⟩ := h.mem id l hl
              obtain ⟨ob1, h1, h2⟩ := (renStore_get hσ1).1 _ ((hlow id hid).trans hm)
              exact ⟨id, ob, ob1, hl, hm, hok, h1, h2, fun _ => rfl, fun e => absurd hid (by omega)⟩
            . rename_i hid
              cases hq : L[id - σ0.length]? with
              | none => simp [hq] at hl
              | some id' =>
                rw [hq] at hl
                obtain ⟨ob0, hm, hok⟩ := h.mem id' l hl
                obtain ⟨ob, ho1, ho2⟩ := (pickObs_get hos).2 id' hq
                rw [hm] at ho2
                cases ho2
                have e : σ0.length + (id - σ0.length) = id := by omega
                obtain ⟨ob1, h1, h2⟩ := (renStore_get hσ1).1 _ ((hhigh (id - σ0.length)).trans ho1)
                rw [e] at h1
                exact ⟨id', ob0, ob1, hl, hm, hok, h1, h2, fun e => absurd e (by omega), fun _ => rfl⟩
          refine ⟨renR σ0.length L ρ, ⟨by rw [renSlots_len hs1, keepS_len]; exact hs.1, fun t y hy => ?_⟩, ⟨h.fix, fun id l hl => ?_, fun id l m hl hid hm hi o => ?_, fun i j li lj hi hj hb => ?_, fun g cells hg => ?_, h.rock.move h.glob (fun _ _ _ h => h) (fun _ _ _ => rfl) (fun b id l _ hn hl => by
            obtain ⟨id', m0, m1, e1, _⟩ := hfind id l hl
            exact hn id' l e1)⟩, ?_, fun id l hl => (by
            obtain ⟨id', m0, m1, e1, _⟩ := hfind id l hl
            exact ⟨id', e1⟩)⟩
          . obtain ⟨x, hx, e⟩ := renSlots_get hs1 hy
            obtain ⟨u, hu, hr⟩ := hs.2 t x (keepS_get _ _ _ _ hx)
            exact ⟨u, hu, hr.ren e⟩
          . obtain ⟨id', ob, ob1, e1, e2, e3, e4, e5, _⟩ := hfind id l hl
            exact ⟨_, e4, (renOb_any e3 e5).1⟩
          . obtain ⟨id', ob, ob1, e1, e2, e3, e4, e5, e6, e7⟩ := hfind id l hl
            rw [e4] at hm
            cases hm
            obtain ⟨m0, rfl, e9⟩ := (renOb_any e3 e5).2 m rfl
            refine h.apart id' l m0 e1 ?_ e2 (by rw [<- e9]; exact hi) o
            by_cases hid' : id < σ0.length
            . rw [e6 hid']; exact hid
            . have := hge id' (List.mem_of_getElem? (e7 (by omega)))
              omega
          . obtain ⟨i', _, _, a1, _, _, _, _, a6, a7⟩ := hfind i li hi
            obtain ⟨j', _, _, b1, _, _, _, _, b6, b7⟩ := hfind j lj hj
            have hij := h.inj i' j' li lj a1 b1 hb
            subst hij
            by_cases h1 : i < σ0.length
            . have e1 := a6 h1
              by_cases h2 : j < σ0.length
              . have e2 := b6 h2; omega
              . have := hge i' (List.mem_of_getElem? (b7 (by omega)))
                omega
            . have e1 := a7 (by omega)
              by_cases h2 : j < σ0.length
              . have e2 := b6 h2
                have := hge i' (List.mem_of_getElem? e1)
                omega
              . have e2 := b7 (by omega)
                have k1 := (List.getElem?_eq_some_iff.1 e1).1
                have := (List.getElem?_inj k1 hnd).1 (e1.trans e2.symm)
                omega
          . obtain ⟨vs, hv⟩ := h.glob g cells hg
            exact ⟨vs, fun j x hx => ⟨(hv j x hx).1, (hv j x hx).2.1, (hv j x hx).2.2.old (n := 0) (fun id hid => absurd hid (Nat.not_lt_zero id)) (oldL_get (hE.glob g cells hg) hx)⟩⟩
          . have hkeep : ∀ id (m : Mem), id < σ0.length -> σ[id]? = some (.mem m) -> ∃ m1 : Mem, σ1[id]? = some (.mem m1) /\ m1.ice = m.ice /\ m1.size = m.size /\ m1.len = m.len /\ m1.exact = m.exact /\ (oldL σ0.length m.cells = true -> m1.cells = m.cells) := by
              intro id m hid hm
              obtain ⟨ob1, h1, h2⟩ := (renStore_get hσ1).1 _ ((hlow id hid).trans hm)
              simp only [renOb] at h2
              split at h2
              . simp only [Option.map_eq_some_iff] at h2
                obtain ⟨cs, hcs, rfl⟩ := h2
                exact ⟨_, h1, rfl, rfl, rfl, rfl, fun ho => by
                  rw [renL_old _ ho] at hcs
                  cases hcs
                  rfl⟩
              . split at h2
                . cases h2
                  exact ⟨m, h1, rfl, rfl, rfl, rfl, fun _ => rfl⟩
                . cases h2
            refine { hp with le := ⟨hp.le.fix, fun id l hl => ?_⟩, blocks := fun id l hl => ?_, low := fun id hid => ?_, lowS := fun id hid => ?_, fresh := fun b o h1 h2 => ?_, len := ?_, ice := fun id m hm hi => ?_ }
            . obtain ⟨l', h1, h2⟩ := hp.le.ren id l hl
              exact ⟨l', (renR_old id (hlt0 id l hl)).trans h1, h2⟩
            . obtain ⟨id', _, _, a1, _, _, _, _, a6, a7⟩ := hfind id l hl
              rcases hp.blocks id' l a1 with ⟨l0, h1, h2⟩ | h1
              . have hid' := hlt0 id' l0 h1
                by_cases hid : id < σ0.length
                . exact .inl ⟨l0, by rw [<- a6 hid]; exact h1, h2⟩
                . have := hge id' (List.mem_of_getElem? (a7 (by omega)))
                  omega
              . exact .inr h1
            . exact (renR_old id (by omega)).trans (hp.low id hid)
            . omega
            . rcases hp.fresh b o h1 h2 with h3 | ⟨id, l, m, h3, h4, h5, h6⟩
              . exact .inl h3
              . obtain ⟨m1, d1, d2, _⟩ := hkeep id m (hlt0 id l h3) h5
                exact .inr ⟨id, l, m1, h3, h4, d1, d2.trans h6⟩
            . have := (renStore_get (id := 0) hσ1).2
              rw [this]
              simp only [List.length_append, List.length_take]
              omega
            . obtain ⟨m', h1, h2⟩ := hp.ice id m hm hi
              obtain ⟨m1, d1, d2, _⟩ := hkeep id m' (List.getElem?_eq_some_iff.1 hm).1 h1
              exact ⟨m1, d1, d2.trans h2⟩
        . cases ht
      . cases ht
    . exact hsame
  . exact hsame
def markOf (D : Nat) : Deferred := { target := .collected D, args := #[] }
def Mk (B : Nat) (ρ : Ren) (w : World) (ds0 ds : List Deferred) : Prop :=
  ∃ ms : List Nat, ds = ms.map markOf ++ ds0 /\ ms.Nodup /\ ∀ D ∈ ms, B <= D /\ w.heap[D]? = some (.deferred (some [])) /\ ∀ id l, ρ id = some l -> l.block ≠ D
theorem Mk.refl (B : Nat) (ρ : Ren) (w : World) (ds : List Deferred) : Mk B ρ w ds ds := ⟨[], rfl, List.nodup_nil, fun D h => by cases h⟩
theorem Mk.of_eq {B : Nat} {ρ : Ren} {w : World} {ds ds' : List Deferred} (h : ds' = ds) : Mk B ρ w ds ds' := h ▸ .refl B ρ w ds
theorem Mk.trans {w1 w2 : World} {Γ1 Γ2 : Sealed} {ρ1 ρ2 : Ren} {σ1 σ2 : Store} {fl : Nat} {d0 d1 d2 : List Deferred} {B : Nat} (hB : B <= w1.heap.size) (h : Mk B ρ1 w1 d0 d1) (hp : Post fl Γ1 ρ1 σ1 w1 Γ2 ρ2 σ2 w2) (k : Mk w1.heap.size ρ2 w2 d1 d2) : Mk B ρ2 w2 d0 d2 := by
  obtain ⟨ms, e1, n1, h1⟩ := h
  obtain ⟨ks, e2, n2, h2⟩ := k
  have hlt : ∀ D ∈ ms, D < w1.heap.size := fun D hD => (Array.getElem?_eq_some_iff.1 (h1 D hD).2.1).1
  refine ⟨ks ++ ms, by rw [e2, e1, List.map_append, List.append_assoc], ?_, fun D hD => ?_⟩
  . rw [List.nodup_append]
    refine ⟨n2, n1, fun a ha b hb e => ?_⟩
    have := (h2 a ha).1
    have := hlt b hb
    omega
  . rcases List.mem_append.1 hD with hD | hD
    . exact ⟨Nat.le_trans hB (h2 D hD).1, (h2 D hD).2⟩
    . obtain ⟨k1, k2, k3⟩ := h1 D hD
      refine ⟨k1, (hp.frame D (hlt D hD) fun id l hl he => absurd he (k3 id l hl)).trans k2, fun id l hl => ?_⟩
      rcases hp.blocks id l hl with ⟨l0, h0, e0⟩ | h0
      . rw [<- e0]; exact k3 id l0 h0
      . have := hlt D hD; omega
theorem Mk.ren {B : Nat} {ρ ρ' : Ren} {w : World} {d0 d1 : List Deferred} (h : Mk B ρ w d0 d1) (hr : ∀ id l, ρ' id = some l -> ∃ id', ρ id' = some l) : Mk B ρ' w d0 d1 := by
  obtain ⟨ms, e1, n1, h1⟩ := h
  exact ⟨ms, e1, n1, fun D hD => ⟨(h1 D hD).1, (h1 D hD).2.1, fun id l hl => let ⟨id', h'⟩ := hr id l hl; (h1 D hD).2.2 id' l h'⟩⟩
theorem Rel.put (h : Rel E fl Γ ρ σ w) {D : Nat} {o : Obj} (o' : Obj) (hD : w.heap[D]? = some o) (ho : o.isCells = false) (hn : ∀ id l, ρ id = some l -> l.block ≠ D) : Rel E fl Γ ρ σ (w.putObj D o') := by
  have hc : ∀ b, (∃ (C : Array Value) (T : TypeId), w.heap[b]? = some (.cells C T (0, 0))) -> b ≠ D := by
    rintro b ⟨C, T, hb⟩ rfl
    rw [hD] at hb
    cases hb
    cases ho
  refine { h with fix := fun b o v hv => ?_, mem := fun id l hl => ?_, rock := ⟨fun b hb => ?_, h.rock.uniq⟩ }
  . have hv := h.fix b o v hv
    have hne : b ≠ D := by
      rintro rfl
      obtain ⟨o1, h1, h2⟩ := cells_of_cell hv
      rw [hD] at h1
      cases h1
      rw [ho] at h2; cases h2
    rw [<- hv]
    exact World.cell?_of_block (w := w) (World.putObj_heap_other hne)
  . obtain ⟨ob, h1, h2⟩ := h.mem id l hl
    exact ⟨ob, h1, h2.move (.refl _ _) (World.putObj_heap_other (hn id l hl))⟩
  . obtain ⟨h1, h2⟩ := h.rock.stay b hb
    have hne := hc b h1
    obtain ⟨C, T, h1⟩ := h1
    exact ⟨⟨C, T, (World.putObj_heap_other hne).trans h1⟩, h2⟩
theorem Post.put {Γ0 : Sealed} {ρ0 : Ren} {σ0 : Store} {w0 : World} (hp : Post fl Γ0 ρ0 σ0 w0 Γ ρ σ w) {D : Nat} (o' : Obj) (hD : w0.heap.size <= D) : Post fl Γ0 ρ0 σ0 w0 Γ ρ σ (w.putObj D o') :=
  { hp with
    frame := fun b hb hc => (World.putObj_heap_other (by omega)).trans (hp.frame b hb hc)
    size := by simpa using hp.size
    os := hp.os
    tape := hp.tape
    output := ⟨hp.output.out, hp.output.drawn⟩ }
theorem freeze_ok (h : Rel E fl Γ ρ σ w) {id : Nat} (hid : ∃ l, ρ id = some l) : ∃ Γ', Rel E fl Γ' ρ (freezeId σ id) w /\ Post fl Γ ρ σ w Γ' ρ (freezeId σ id) w := by
  obtain ⟨l, hl⟩ := hid
  unfold freezeId
  split
  . rename_i m hm
    obtain ⟨Γ', h1, h2, _⟩ := ice_ok h hl hm
    exact ⟨Γ', h1, h2⟩
  . exact ⟨Γ, h, .refl _ _ _ _ _⟩
theorem freezeAll_ok : ∀ (ids : List Nat) {Γ : Sealed} {σ : Store}, Rel E fl Γ ρ σ w -> (∀ id ∈ ids, ∃ l, ρ id = some l) -> ∃ Γ', Rel E fl Γ' ρ (ids.foldl freezeId σ) w /\ Post fl Γ ρ σ w Γ' ρ (ids.foldl freezeId σ) w
  | [], Γ, σ, h, _ => ⟨Γ, h, .refl _ _ _ _ _⟩
  | id :: ids, Γ, σ, h, hn => by
    obtain ⟨Γ1, h1, h2⟩ := freeze_ok h (hn id List.mem_cons_self)
    obtain ⟨Γ2, h3, h4⟩ := freezeAll_ok ids h1 fun j hj => hn j (List.mem_cons_of_mem _ hj)
    exact ⟨Γ2, h3, h2.trans h4⟩
theorem slotId_named {s : Slots} {a : Act} (hs : SlotsOk Γ ρ s a) {x : Operand} {id : Nat} (h : id ∈ slotId s x) : ∃ l, ρ id = some l := by
  cases x with
  | tmp t =>
    unfold slotId at h
    dsimp only at h
    cases ht : s[t]? with
    | none => rw [ht] at h; cases h
    | some o =>
      cases o with
      | none => rw [ht] at h; cases h
      | some v =>
        rw [ht] at h
        cases v with
        | osl j b co es len xc =>
          simp only [List.mem_singleton] at h
          subst h
          obtain ⟨u, _, hr⟩ := hs.2 t _ ht
          cases hr with
          | osl l _ h1 => exact ⟨l, h1⟩
          | oslOld l h1 => exact ⟨l, h1⟩
        | _ => cases h
  | _ => cases h
theorem preIds_named {ops : List Oper} {s : Slots} {a : Act} (hs : SlotsOk Γ ρ s a) : ∀ id ∈ preIds E ops s, ∃ l, ρ id = some l := by
  intro id h
  unfold preIds at h
  cases hc : ops.all (calmOp E) with
  | false => rw [hc] at h; cases h
  | true =>
    rw [hc, cond_true] at h
    obtain ⟨o, _, h⟩ := List.mem_flatMap.1 h
    unfold preOp at h
    split at h
    . split at h
      . rename_i c _ g _
        cases hg : E.apart g && !E.seals g with
        | false => rw [hg] at h; cases h
        | true =>
          rw [hg, cond_true] at h
          obtain ⟨x, _, h⟩ := List.mem_flatMap.1 h
          unfold preArg at h
          split at h
          . split at h
            . exact slotId_named hs h
            . exact slotId_named hs h
          . cases h
      . cases h
    . cases h
def SoundSc (E : Env) (fl : Nat) (sc : Code -> Slots -> Store -> Option (Out × Slots × Store)) : Prop :=
  ∀ (body : Code) {s s' : Slots} {σ σ' : Store} {out : Out} {Γ : Sealed} {ρ : Ren} {a : Act} {w : World} {Q : Exit -> Act -> World -> Prop},
    sc body s σ = some (out, s', σ') -> Rel E fl Γ ρ σ w -> fl <= σ.length -> SlotsOk Γ ρ s a ->
    (∀ a' w' Γ' ρ', SlotsOk Γ' ρ' s' a' -> Mk w.heap.size ρ' w' a.defers a'.defers -> Rel E fl Γ' ρ' σ' w' -> Post fl Γ ρ σ w Γ' ρ' σ' w' -> Q (exitOf out) a' w') -> (Code.scope body).wp E.P Q a w
def ScopeAt (P : Program) (body c : Code) (Q : Exit -> Act -> World -> Prop) (a : Act) (w : World) : Prop :=
  ∀ (b : Frame) (k : List Item) (cs : List Frame), ∃ e a' w', Q e a' w' /\ Arrives P (lone (b.at a (.code c :: .inScope body :: k)) cs w) b k cs e a' w'
def inScopeQ (P : Program) (body : Code) (Q : Exit -> Act -> World -> Prop) : Exit -> Act -> World -> Prop
  | .goto l, a, w => match findLabel body l with
    | some rest => ScopeAt P body rest Q a w
    | none => Q (.goto l) a w
  | e, a, w => Q e a w
theorem scopeAt_of_wp {P : Program} {body c : Code} {Q : Exit -> Act -> World -> Prop} {a : Act} {w : World} (h : c.wp P (inScopeQ P body Q) a w) : ScopeAt P body c Q a w := by
  intro b k cs
  obtain ⟨e, a₁, w₁, hq, harr⟩ := h b (.inScope body :: k) cs
  cases e with
  | normal => exact ⟨.normal, a₁, w₁, hq, Steps.trans harr (.one step_inScope)⟩
  | exit id => exact ⟨.exit id, a₁, w₁, hq, fun k' hk => harr k' (by simp [exitTo, hk])⟩
  | goto l =>
    simp only [inScopeQ] at hq
    split at hq
    . rename_i rest hf
      obtain ⟨e₂, a₂, w₂, hq₂, harr₂⟩ := hq b k cs
      exact ⟨e₂, a₂, w₂, hq₂, .of_steps (harr _ (by simp [gotoIn, hf])) harr₂⟩
    . rename_i hf
      exact ⟨.goto l, a₁, w₁, hq, fun k' hk => harr k' (by simp [gotoIn, hf, hk])⟩
  | ret => exact ⟨_, a₁, w₁, hq, harr⟩
  | panic ch => exact ⟨_, a₁, w₁, hq, harr⟩
  | outgrown => exact ⟨_, a₁, w₁, hq, harr⟩
theorem wp_of_scopeAt {P : Program} {body : Code} {Q : Exit -> Act -> World -> Prop} {a : Act} {w : World} (h : ScopeAt P body body Q a w) : (Code.scope body).wp P Q a w := by
  intro b k cs
  obtain ⟨e, a₁, w₁, hq, harr⟩ := h b k cs
  exact ⟨e, a₁, w₁, hq, .of_steps (.one step_scope) harr⟩
theorem rangeF_ok (hE : E.Ok) {rec : Rec} (hrec : SoundRec E rec) {f : Operand} {ps : Array Tmp} {asg body : Code} {s : Slots} {σ σ' : Store} {Γ : Sealed} {ρ : Ren} {a : Act} {w : World} {Q : Exit -> Act -> World -> Prop}
    (h : rangeFA E rec fl s σ f = some σ') (hR : Rel E fl Γ ρ σ w) (hfl : fl <= σ.length) (hs : SlotsOk Γ ρ s a)
    (hQ : ∀ a' w' Γ' ρ', SlotsOk Γ' ρ' s a' -> Mk w.heap.size ρ' w' a.defers a'.defers -> Rel E fl Γ' ρ' σ' w' -> Post fl Γ ρ σ w Γ' ρ' σ' w' -> Q .normal a' w') : (Code.rangeFunc f ps asg body).wp E.P Q a w := by
  unfold rangeFA at h
  split at h
  . rename_i g ys hf
    split at h
    . rename_i fn hx hfn
      split at h
      . cases h
      . rename_i hn
        simp only [Option.map_eq_some_iff] at h
        obtain ⟨⟨v, σ1⟩, hc, rfl⟩ := h
        have hv := hs.env f _ hf
        generalize hg : a.eval f = vf at hv
        cases hv with
        | @fn _ xs ys vs us hn1 hm1 h1 h2 =>
          have hvs : vs = #[] := Array.eq_empty_of_size_eq_zero (by simpa using hn1)
          subst hvs
          refine wpIn_wide.1 (wpIn_rangeFunc (F := Fence.wide) (n := 0) fun fn0 _ => ?_)
          obtain ⟨rc, hrc⟩ : ∃ rc : LoopState -> Loop, rc = fun st => { state := st, pending := none, fn := fn0, tmps := a.tmps, params := ps, assign := asg, body := body, defers := w.heap.size } := ⟨_, rfl⟩
          obtain ⟨W1, hW1⟩ : ∃ W1, (w.alloc (.deferred (some []))).alloc (.loop (rc .ready)) = W1 := ⟨_, rfl⟩
          have hL1 : W1.heap[w.heap.size + 1]? = some (.loop (rc .ready)) := by
            rw [<- hW1]; have := World.alloc_heap_new (w.alloc (.deferred (some []))) (.loop (rc .ready)); rwa [World.size_alloc] at this
          have hK1 : W1.heap[w.heap.size]? = some (.deferred (some [])) := by
            rw [<- hW1]; exact (Go.RowKit.Below.heap_alloc _ _ _ (by simp)).trans (World.alloc_heap_new w _)
          have hB : Go.RowKit.Below w.heap.size w W1 := by
            rw [<- hW1]; exact ((Go.RowKit.Below.refl _ w).alloc (Nat.le_refl _) _).alloc (by simp) _
          have hR1 : Rel E fl Γ ρ σ W1 := hR.world hB.block
          have hP1 : Post fl Γ ρ σ w Γ ρ σ W1 := { Post.refl fl Γ ρ σ w with frame := fun b hb _ => hB.block b hb, size := hB.size, os := hB.os, tape := hB.tape, output := ⟨hB.output, fun _ => by rw [<- hW1]; exact Nat.le_refl _⟩ }
          have hargs : Reps Γ ρ (.yld :: ys) (Value.func (.yield (w.heap.size + 1)) #[] #[] :: us.toList) := Reps.cons (.yld _) ⟨by simpa using hm1, fun j x v hx hv => h2 j x v hx (by simpa using hv)⟩
          have hcall := hrec g _ σ fl v σ1 hc hfl Γ ρ W1 _ hR1 hargs
          have hn' : (fn.name == "runtime.NumGoroutine" || fn.body.isNone) = false := by rw [<- Bool.not_eq_true]; exact hn
          refine ⟨w.heap.size + 1, [markOf w.heap.size], W1, { target := .fn (.func g) us, args := #[.func (.yield (w.heap.size + 1)) #[] #[]] }, W1, g, #[.func (.yield (w.heap.size + 1)) #[] #[]] ++ us, W1, ?_, ?_, ?_, ?_, ?_, ?_⟩
          . rw [<- hW1, hrc]; exact run_enterLoop_outer _ _ _ _ _
          . simp only [resolve, hg]
            simp [go_sem]
          . intro f' hf'; trivial
          . have := run_callFunc_enter hfn hn' (#[.func (.yield (w.heap.size + 1)) #[] #[]] ++ us) W1
            simp [invoke, go_sem, this]
          . intro h; cases h
          . refine callsIn_wide.2 ?_
            have e : (Value.func (.yield (w.heap.size + 1)) #[] #[] :: us.toList).toArray = #[.func (.yield (w.heap.size + 1)) #[] #[]] ++ us := by
              apply Array.ext'; simp
            rw [<- e]
            refine hcall.mono ?_
            rintro e W2 ⟨r, rfl, Γ2, ρ2, _, hR2, hP2⟩
            have hno : ∀ (b : Nat), w.heap.size <= b -> b < W1.heap.size -> ∀ id l, ρ2 id = some l -> l.block ≠ b := by
              intro b hb hb1 id l hl
              rcases hP2.blocks id l hl with ⟨l0, h0, e0⟩ | h0
              . have := hR.block_lt h0; omega
              . omega
            have hsame : ∀ (b : Nat), w.heap.size <= b -> b < W1.heap.size -> W2.heap[b]? = W1.heap[b]? := fun b hb hb1 => hP2.frame b hb1 fun id l hl he => by
              have := hR.block_lt hl; omega
            have lt1 : w.heap.size + 1 < W1.heap.size := (Array.getElem?_eq_some_iff.1 hL1).1
            have hL2 := (hsame (w.heap.size + 1) (by omega) lt1).trans hL1
            have hK2 := (hsame w.heap.size (by omega) (by omega)).trans hK1
            have hend := run_endLoop (P := E.P) hL2 (by rw [hrc]; simp)
            rw [hrc] at hend
            refine ⟨none, _, hend, hQ _ _ Γ2 ρ2 ?_ ?_ (hR2.put _ hL2 rfl (hno _ (by omega) lt1)) ((hP1.trans hP2).put _ (by omega))⟩
            . exact ⟨hs.1, fun t y hy => let ⟨u, h1, h2⟩ := hs.2 t y hy; ⟨u, h1, h2.mono hP2.le⟩⟩
            . exact ⟨[w.heap.size], rfl, by simp, fun D hD => by
                simp only [List.mem_singleton] at hD
                subst hD
                exact ⟨Nat.le_refl _, (World.putObj_heap_other (by omega)).trans hK2, hno _ (Nat.le_refl _) (by omega)⟩⟩
    . cases h
  . cases h
theorem codeL_ok (hE : E.Ok) {rec : Rec} (hrec : SoundRec E rec) {sc : Code -> Slots -> Store -> Option (Out × Slots × Store)} (hsc : SoundSc E fl sc) (n : Nat) : ∀ (c : Code) {s s' : Slots} {σ σ' : Store} {out : Out} {Γ : Sealed} {ρ : Ren} {a : Act} {w : World} {Q : Exit -> Act -> World -> Prop},
    codeL E rec sc fl n c s σ = some (out, s', σ') -> Rel E fl Γ ρ σ w -> fl <= σ.length -> SlotsOk Γ ρ s a ->
    (∀ a' w' Γ' ρ', SlotsOk Γ' ρ' s' a' -> Mk w.heap.size ρ' w' a.defers a'.defers -> Rel E fl Γ' ρ' σ' w' -> Post fl Γ ρ σ w Γ' ρ' σ' w' -> Q (exitOf out) a' w') -> c.wp E.P Q a w := by
  intro c
  induction c with
  | skip =>
    intro s s' σ σ' out Γ ρ a w Q h hR hfl hs hQ
    simp only [codeL, Option.some.injEq, Prod.mk.injEq] at h
    obtain ⟨rfl, rfl, rfl⟩ := h
    exact wp_skip (hQ a w Γ ρ hs (.refl _ _ _ _) hR (.refl _ _ _ _ _))
  | region id ops d =>
    intro s s' σ σ' out Γ ρ a w Q h hR hfl hs hQ
    cases d with
    | false =>
      simp only [codeL] at h
      cases ho : opsA E rec fl ops (noTight ops) ops.toList 0 s σ with
      | none => simp [ho] at h
      | some r =>
        obtain ⟨s1, σ1⟩ := r
        simp [ho] at h
        obtain ⟨rfl, rfl, rfl⟩ := h
        refine wp_region ?_
        have := opsA_ok hE hrec (Q := Q) ops.toList 0 ho (fun j hj => by simp [noTight, List.getElem?_replicate, hj]) (by simp) hR hfl hs fun a' w' Γ' ρ' k1 k2 k3 k4 => hQ a' w' Γ' ρ' k1 (.of_eq k2) k3 k4
        simpa [List.range_eq_range'] using this
    | true =>
      simp only [codeL] at h
      split at h
      . rename_i hp
        cases ho : opsD E rec fl ops (masks ops) (tightOf ops (masks ops)) ops.toList 0 [] s (preF E ops s σ) with
        | none => simp [ho] at h
        | some r =>
          obtain ⟨s1, σ1⟩ := r
          simp [ho] at h
          obtain ⟨rfl, rfl, rfl⟩ := h
          obtain ⟨Γ0, p1, p2⟩ := freezeAll_ok (preIds E ops.toList s) hR (preIds_named hs)
          exact draw_ok hE hrec hp ho p1 (Nat.le_trans hfl p2.len) (hs.mono p2.le) fun a' w' Γ' ρ' k1 k2 k3 k4 => hQ a' w' Γ' ρ' k1 (.of_eq k2) k3 (p2.trans k4)
      . cases h
  | seq x y ihx ihy =>
    intro s s' σ σ' out Γ ρ a w Q h hR hfl hs hQ
    simp only [codeL] at h
    refine wp_seq ?_
    split at h
    . rename_i s1 σ1 hx
      refine ihx hx hR hfl hs fun a1 w1 Γ1 ρ1 k1 k2 k3 k4 => ?_
      refine ihy h k3 (Nat.le_trans hfl k4.len) k1 fun a2 w2 Γ2 ρ2 m1 m2 m3 m4 => ?_
      exact hQ a2 w2 Γ2 ρ2 m1 (Mk.trans k4.size k2 m4 m2) m3 (k4.trans m4)
    . rename_i hno
      refine ihx h hR hfl hs fun a1 w1 Γ1 ρ1 k1 k2 k3 k4 => ?_
      have := hQ a1 w1 Γ1 ρ1 k1 k2 k3 k4
      cases out with
      | norm => exact (hno s' σ' h).elim
      | exit id => exact this
      | ret => exact this
      | goto l => exact this
  | cond c x y ihx ihy =>
    intro s s' σ σ' out Γ ρ a w Q h hR hfl hs hQ
    simp only [codeL] at h
    split at h
    . rename_i hc
      have hv := hs.env c _ hc
      generalize hg : a.eval c = vc at hv
      cases hv
      exact wp_cond_true hg (ihx h hR hfl hs hQ)
    . rename_i hc
      have hv := hs.env c _ hc
      generalize hg : a.eval c = vc at hv
      cases hv
      exact wp_cond_false hg (ihy h hR hfl hs hQ)
    . cases h
  | block id body ih =>
    intro s s' σ σ' out Γ ρ a w Q h hR hfl hs hQ
    simp only [codeL] at h
    refine wp_block ?_
    split at h
    . rename_i j s1 σ1 hb
      split at h
      . rename_i hj
        cases h
        refine ih hb hR hfl hs fun a1 w1 Γ1 ρ1 k1 k2 k3 k4 => ?_
        have := hQ a1 w1 Γ1 ρ1 k1 k2 k3 k4
        simp only [exitOf, Exit.inBlock, hj, if_true]
        exact this
      . rename_i hj
        cases h
        refine ih hb hR hfl hs fun a1 w1 Γ1 ρ1 k1 k2 k3 k4 => ?_
        have := hQ a1 w1 Γ1 ρ1 k1 k2 k3 k4
        simp only [exitOf, Exit.inBlock, hj, if_false]
        exact this
    . rename_i hno
      refine ih h hR hfl hs fun a1 w1 Γ1 ρ1 k1 k2 k3 k4 => ?_
      have := hQ a1 w1 Γ1 ρ1 k1 k2 k3 k4
      cases out with
      | norm => exact this
      | exit j => exact absurd h (hno j s' σ')
      | ret => exact this
      | goto l => exact this
  | loop body ih =>
    intro s s' σ σ' out Γ ρ a w Q h hR hfl hs hQ
    simp only [codeL] at h
    refine wp_loop_fuel (fun m a1 w1 => ∃ s1 σ1 Γ1 ρ1, iterA E fl (patOf s) σ.length (codeL E rec sc fl n body) m s1 σ1 = some (out, s', σ') /\ SlotsOk Γ1 ρ1 s1 a1 /\ Mk w.heap.size ρ1 w1 a.defers a1.defers /\ Rel E fl Γ1 ρ1 σ1 w1 /\ Post fl Γ ρ σ w Γ1 ρ1 σ1 w1) (n := n)
      ⟨s, σ, Γ, ρ, h, hs, .refl _ _ _ _, hR, .refl _ _ _ _ _⟩ fun m a1 w1 hI => ?_
    obtain ⟨s1, σ1, Γ1, ρ1, i1, i2, i3, i4, i5⟩ := hI
    cases m with
    | zero => simp [iterA] at i1
    | succ m =>
      simp only [iterA] at i1
      split at i1
      . rename_i s2 σ2 hb
        refine ih hb i4 (Nat.le_trans hfl i5.len) i2 fun a2 w2 Γ2 ρ2 k1 k2 k3 k4 => ?_
        obtain ⟨ρ3, m1, m2, m3, m4⟩ := trim_ok hE hR (i5.trans k4) hfl k3 k1 (patOf s)
        exact ⟨m, Nat.lt_succ_self m, _, _, Γ2, ρ3, i1, m1, (Mk.trans i5.size i3 k4 k2).ren m4, m2, m3⟩
      . rename_i r hno
        refine ih i1 i4 (Nat.le_trans hfl i5.len) i2 fun a2 w2 Γ2 ρ2 k1 k2 k3 k4 => ?_
        have := hQ a2 w2 Γ2 ρ2 k1 (Mk.trans i5.size i3 k4 k2) k3 (i5.trans k4)
        cases out with
        | norm => exact absurd i1 (hno s' σ')
        | exit id => exact this
        | ret => exact this
        | goto l => exact this
  | exit id =>
    intro s s' σ σ' out Γ ρ a w Q h hR hfl hs hQ
    simp only [codeL, Option.some.injEq, Prod.mk.injEq] at h
    obtain ⟨rfl, rfl, rfl⟩ := h
    exact wp_exit (hQ a w Γ ρ hs (.refl _ _ _ _) hR (.refl _ _ _ _ _))
  | ret =>
    intro s s' σ σ' out Γ ρ a w Q h hR hfl hs hQ
    simp only [codeL, Option.some.injEq, Prod.mk.injEq] at h
    obtain ⟨rfl, rfl, rfl⟩ := h
    exact wp_ret (hQ a w Γ ρ hs (.refl _ _ _ _) hR (.refl _ _ _ _ _))
  | scope body ih =>
    intro s s' σ σ' out Γ ρ a w Q h hR hfl hs hQ
    exact hsc body h hR hfl hs hQ
  | rangeFunc f ps asg body iha ihb =>
    intro s s' σ σ' out Γ ρ a w Q h hR hfl hs hQ
    simp only [codeL, Option.map_eq_some_iff] at h
    obtain ⟨σ1, h, e⟩ := h
    simp only [Prod.mk.injEq] at e
    obtain ⟨rfl, rfl, rfl⟩ := e
    exact rangeF_ok hE hrec h hR hfl hs fun a' w' Γ' ρ' k1 k2 k3 k4 => hQ a' w' Γ' ρ' k1 k2 k3 k4
  | label l =>
    intro s s' σ σ' out Γ ρ a w Q h hR hfl hs hQ
    simp only [codeL, Option.some.injEq, Prod.mk.injEq] at h
    obtain ⟨rfl, rfl, rfl⟩ := h
    exact wp_label (hQ a w Γ ρ hs (.refl _ _ _ _) hR (.refl _ _ _ _ _))
  | goto l =>
    intro s s' σ σ' out Γ ρ a w Q h hR hfl hs hQ
    simp only [codeL, Option.some.injEq, Prod.mk.injEq] at h
    obtain ⟨rfl, rfl, rfl⟩ := h
    exact wp_goto (hQ a w Γ ρ hs (.refl _ _ _ _) hR (.refl _ _ _ _ _))
  | _ =>
    intro s s' σ σ' out Γ ρ a w Q h hR hfl hs hQ
    simp [codeL] at h
theorem scopeIter_ok {run : Code -> Slots -> Store -> Option (Out × Slots × Store)} {body : Code}
    (hrun : ∀ (c : Code) {s s' : Slots} {σ σ' : Store} {out : Out} {Γ : Sealed} {ρ : Ren} {a : Act} {w : World} {Q : Exit -> Act -> World -> Prop},
      run c s σ = some (out, s', σ') -> Rel E fl Γ ρ σ w -> fl <= σ.length -> SlotsOk Γ ρ s a ->
      (∀ a' w' Γ' ρ', SlotsOk Γ' ρ' s' a' -> Mk w.heap.size ρ' w' a.defers a'.defers -> Rel E fl Γ' ρ' σ' w' -> Post fl Γ ρ σ w Γ' ρ' σ' w' -> Q (exitOf out) a' w') -> c.wp E.P Q a w) :
    ∀ (j : Nat) (c : Code) {s s' : Slots} {σ σ' : Store} {out : Out} {Γ : Sealed} {ρ : Ren} {a : Act} {w : World} {Q : Exit -> Act -> World -> Prop},
      scopeIter run body j c s σ = some (out, s', σ') -> Rel E fl Γ ρ σ w -> fl <= σ.length -> SlotsOk Γ ρ s a ->
      (∀ a' w' Γ' ρ', SlotsOk Γ' ρ' s' a' -> Mk w.heap.size ρ' w' a.defers a'.defers -> Rel E fl Γ' ρ' σ' w' -> Post fl Γ ρ σ w Γ' ρ' σ' w' -> Q (exitOf out) a' w') -> ScopeAt E.P body c Q a w
  | 0, c, s, s', σ, σ', out, Γ, ρ, a, w, Q, h, hR, hfl, hs, hQ => by cases h
  | j + 1, c, s, s', σ, σ', out, Γ, ρ, a, w, Q, h, hR, hfl, hs, hQ => by
    unfold scopeIter at h
    refine scopeAt_of_wp ?_
    split at h
    . rename_i l s1 σ1 h1
      refine hrun c h1 hR hfl hs fun a1 w1 Γ1 ρ1 k1 k2 k3 k4 => ?_
      simp only [exitOf, inScopeQ]
      split at h
      . rename_i rest hf
        simp only [hf]
        exact scopeIter_ok hrun j rest h k3 (Nat.le_trans hfl k4.len) k1 fun a2 w2 Γ2 ρ2 m1 m2 m3 m4 => hQ a2 w2 Γ2 ρ2 m1 (Mk.trans k4.size k2 m4 m2) m3 (k4.trans m4)
      . rename_i hf
        simp only [hf]
        cases h
        exact hQ a1 w1 Γ1 ρ1 k1 k2 k3 k4
    . rename_i hno
      refine hrun c h hR hfl hs fun a1 w1 Γ1 ρ1 k1 k2 k3 k4 => ?_
      have := hQ a1 w1 Γ1 ρ1 k1 k2 k3 k4
      cases out with
      | norm => exact this
      | exit id => exact this
      | ret => exact this
      | goto l => exact absurd h (hno l s' σ')
theorem scopeN_ok (hE : E.Ok) {rec : Rec} (hrec : SoundRec E rec) (n : Nat) : ∀ d, SoundSc E fl (scopeN E rec fl n d)
  | 0 => fun body s s' σ σ' out Γ ρ a w Q h hR hfl hs hQ => by cases h
  | d + 1 => fun body s s' σ σ' out Γ ρ a w Q h hR hfl hs hQ =>
    wp_of_scopeAt (scopeIter_ok (fun c => codeL_ok hE hrec (scopeN_ok hE hrec n d) n c) 50 body h hR hfl hs hQ)
theorem codeA_ok (hE : E.Ok) {rec : Rec} (hrec : SoundRec E rec) (n : Nat) (c : Code) {s s' : Slots} {σ σ' : Store} {out : Out} {Γ : Sealed} {ρ : Ren} {a : Act} {w : World} {Q : Exit -> Act -> World -> Prop}
    (h : codeA E rec fl n c s σ = some (out, s', σ')) (hR : Rel E fl Γ ρ σ w) (hfl : fl <= σ.length) (hs : SlotsOk Γ ρ s a)
    (hQ : ∀ a' w' Γ' ρ', SlotsOk Γ' ρ' s' a' -> Mk w.heap.size ρ' w' a.defers a'.defers -> Rel E fl Γ' ρ' σ' w' -> Post fl Γ ρ σ w Γ' ρ' σ' w' -> Q (exitOf out) a' w') : c.wp E.P Q a w :=
  codeL_ok hE hrec (scopeN_ok hE hrec n 3) n c h hR hfl hs hQ
theorem mapM_ok {P : Program} {f : ResultVar -> Sem Value} {g : ResultVar -> Option PV} {w : World} (hf : ∀ r p, g r = some p -> ∃ v, (f r).run P w = .ok v w /\ Rep Γ ρ p v) (E' : Env) (s : Slots) (σ : Store)
    (hg : ∀ r, resultA E' s σ r = g r) : ∀ (l : List ResultVar) (ps : List PV), resultsA E' s σ l = some ps -> ∃ vs, (l.mapM f).run P w = .ok vs w /\ Reps Γ ρ ps vs
  | [], ps, h => by cases h; exact ⟨[], by simp, .nil⟩
  | r :: l, ps, h => by
    unfold resultsA at h
    split at h
    . rename_i p ps' hp hps
      cases h
      rw [hg] at hp
      obtain ⟨v, h1, h2⟩ := hf r p hp
      obtain ⟨vs, h3, h4⟩ := mapM_ok hf E' s σ hg l ps' hps
      exact ⟨v :: vs, by simp [List.mapM_cons, h1, h3], .cons h2 h4⟩
    . cases h
theorem endA_ok (hR : Rel E fl Γ ρ σ w) {fn : Func} {s : Slots} {a : Act} {p : PV} {σ' : Store} (hs : SlotsOk Γ ρ s a) (h : endA E fn s σ = some (p, σ')) :
    σ' = σ /\ ∃ v, (results fn a.tmps).run E.P w = .ok v w /\ Rep Γ ρ p v := by
  have key : ∀ ps, resultsA E s σ fn.results.toList = some ps -> ∃ vs : Array Value, (results fn a.tmps).run E.P w = .ok (if h : vs.size = 1 then vs[0] else .tuple vs) w /\ Reps Γ ρ ps vs.toList := by
    intro ps hps
    have hh : ∀ F : ResultVar -> Sem Value, (∀ r p, resultA E s σ r = some p -> ∃ v, (F r).run E.P w = .ok v w /\ Rep Γ ρ p v) ->
        ∃ vs : Array Value, (fn.results.mapM F >>= fun vs => (pure (if h : vs.size = 1 then vs[0] else .tuple vs) : Sem Value)).run E.P w = .ok (if h : vs.size = 1 then vs[0] else .tuple vs) w /\ Reps Γ ρ ps vs.toList := by
      intro F hF
      obtain ⟨vs, h1, h2⟩ := mapM_ok (P := E.P) hF E s σ (fun _ => rfl) fn.results.toList ps hps
      refine ⟨vs.toArray, ?_, by simpa using h2⟩
      rw [Array.mapM_eq_mapM_toList, Sem.run_bind, Sem.run_map, h1]
      simp
    unfold results
    refine hh _ ?_
    . intro r p hp
      cases r with
      | tmp t =>
        simp only [resultA] at hp
        split at hp
        . rename_i v hv
          cases hp
          obtain ⟨u, h1, h2⟩ := hs.2 t _ hv
          exact ⟨u, by simp [h1], h2⟩
        . cases hp
      | cell b t =>
        simp only [resultA] at hp
        split at hp
        . rename_i q hq
          obtain ⟨u, h1, h2⟩ := hs.2 b _ hq
          obtain ⟨r, k1, ⟨ad, e1, e2⟩, _⟩ := loadAt_ok hR hp h2
          subst e1
          exact ⟨r, by simp [h1, asAddr, e2], k1⟩
        . cases hp
  unfold endA at h
  split at h
  . rename_i v hv
    cases h
    obtain ⟨vs, h1, h2⟩ := key _ hv
    refine ⟨rfl, ?_⟩
    obtain ⟨u, us, e, h3, h4⟩ := h2.inv_cons
    have := h4.inv_nil
    subst this
    obtain ⟨l⟩ := vs
    simp at e
    subst e
    exact ⟨u, by simpa using h1, h3⟩
  . rename_i vs0 hno hv
    cases h
    obtain ⟨vs, h1, h2⟩ := key _ hv
    have hne : vs.size ≠ 1 := fun e => by
      have := h2.1
      simp [e] at this
      match vs0, this with
      | [x], _ => exact hno x rfl
    rw [dif_neg hne] at h1
    exact ⟨rfl, .tuple vs, h1, .tup (by simpa using h2.1) (fun j x v hx hv => h2.2 j x v hx (by simpa using hv))⟩
  . cases h
theorem enterA_ok (hE : E.Ok) {rec : Rec} (hrec : SoundRec E rec) (n : Nat) : SoundRec E (enterA E rec n) := by
  intro f args σ fl p σ' h hfl Γ ρ w vs hR hr
  unfold enterA at h
  split at h
  . rename_i fn hfn
    split at h
    . rename_i c hc
      split at h
      . rename_i hb
        have hlen : vs.length = args.length := hr.1
        refine callsIn_wide.1 (callsIn_of_wp_marks (F := Fence.wide) (n := 0) hfn hc trivial (wpIn_wide.2 ?_) rfl)
        have hs : SlotsOk Γ ρ (args.map some ++ List.replicate (fn.ntmps - args.length) none) { tmps := vs.toArray ++ Array.replicate (fn.ntmps - vs.toArray.size) undef, defers := [] } := by
          refine ⟨by simp [hlen], fun t v ht => ?_⟩
          by_cases hlt : t < args.length
          . rw [List.getElem?_append_left (by simpa using hlt)] at ht
            simp only [List.getElem?_map, Option.map_eq_some_iff, Option.some.injEq] at ht
            obtain ⟨x, hx, rfl⟩ := ht
            obtain ⟨u, hu, hxu⟩ := hr.at hx
            refine ⟨u, ?_, hxu⟩
            rw [Array.getElem?_append_left (by simp; omega)]
            simpa using hu
          . rw [List.getElem?_append_right (by simp; omega)] at ht
            rw [List.getElem?_replicate] at ht
            split at ht <;> simp at ht
        have hpost : ∀ (s1 : Slots) (σ1 : Store) (out : Out), codeA E rec fl n c (args.map some ++ List.replicate (fn.ntmps - args.length) none) σ = some (out, s1, σ1) -> endA E fn s1 σ1 = some (p, σ') -> (out = .norm ∨ out = .ret) ->
            c.wp E.P (bodyPostM Fence.wide 0 E.P fn fun e w' => ∃ r, e = .returned r /\ Moves E fl Γ ρ σ w p σ' r w') { tmps := vs.toArray ++ Array.replicate (fn.ntmps - vs.toArray.size) undef, defers := [] } w := by
          intro s1 σ1 out hcode hend hout
          refine codeA_ok hE hrec n c hcode hR hfl hs fun a' w' Γ' ρ' k1 k2 k3 k4 => ?_
          obtain ⟨ms, em, nm, hm⟩ := k2
          have key : ∀ (ms : List Nat) (w2 : World), ms.Nodup -> (∀ D ∈ ms, w.heap.size <= D /\ w2.heap[D]? = some (.deferred (some [])) /\ ∀ id l, ρ' id = some l -> l.block ≠ D) -> Rel E fl Γ' ρ' σ1 w2 -> Post fl Γ ρ σ w Γ' ρ' σ1 w2 ->
              LeavesInM Fence.wide 0 E.P fn a'.tmps (fun e w' => ∃ r, e = .returned r /\ Moves E fl Γ ρ σ w p σ' r w') (ms.map markOf) .returning w2 := by
            intro ms
            induction ms with
            | nil =>
              intro w2 _ _ hR2 hP2
              obtain ⟨rfl, v, e1, e2⟩ := endA_ok hR2 k1 hend
              exact ⟨v, e1, v, rfl, Γ', ρ', e2, hR2, hP2⟩
            | cons D ms ih =>
              intro w2 hnd hms hR2 hP2
              obtain ⟨d1, d2, d3⟩ := hms D (by simp)
              rw [List.nodup_cons] at hnd
              refine ⟨by simp, .inl ⟨D, _, rfl, run_takeDeferred d2, ih _ hnd.2 (fun D' hD' => ?_) (hR2.put _ d2 rfl d3) (hP2.put _ d1)⟩⟩
              obtain ⟨q1, q2, q3⟩ := hms D' (by simp [hD'])
              exact ⟨q1, (World.putObj_heap_other (fun e : D' = D => hnd.1 (by rw [<- e]; exact hD'))).trans q2, q3⟩
          have this0 := key ms w' nm hm k3 k4
          simp only [List.append_nil] at em
          rw [<- em] at this0
          have : bodyPostM Fence.wide 0 E.P fn (fun e w' => ∃ r, e = .returned r /\ Moves E fl Γ ρ σ w p σ' r w') .normal a' w' := this0
          rcases hout with rfl | rfl
          . exact this
          . exact this
        split at h
        . rename_i s1 σ1 hcode
          exact hpost s1 σ1 .norm hcode h (.inl rfl)
        . rename_i s1 σ1 hcode
          exact hpost s1 σ1 .ret hcode h (.inr rfl)
        . cases h
      . cases h
    . cases h
  . cases h
theorem primR_ok (hE : E.Ok) {rec : Rec} (hrec : SoundRec E rec) : SoundRec E (primR E rec) := by
  intro f args σ fl p σ' h hfl Γ ρ w vs hR hr
  unfold primR at h
  split at h
  . rename_i c v σ1 hp
    cases c with
    | true =>
      cases h
      exact hE.prim f args σ fl _ _ hp hfl Γ ρ w vs hR hr
    | false => cases h
  . exact hrec f args σ fl p σ' h hfl Γ ρ w vs hR hr
theorem runA_ok (hE : E.Ok) (n : Nat) : ∀ k, SoundRec E (runA E n k)
  | 0 => fun f args σ fl p σ' h => by cases h
  | k + 1 => primR_ok hE (enterA_ok hE (runA_ok hE n k) n)
end
end
end Go.Proofs.YtpbemfikhmeedaaGreatDoor.Am
