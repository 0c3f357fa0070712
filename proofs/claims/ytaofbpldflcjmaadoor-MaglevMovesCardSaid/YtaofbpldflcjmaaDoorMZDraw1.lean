/- A region that draws its order: masks, the trace in the order of the text. -/
import Derived.Test.YtaofbpldflcjmaaDoorMMAm
set_option linter.unusedVariables false
set_option linter.unusedSimpArgs false
namespace Go.Proofs.YtaofbpldflcjmaaDoor.Am
theorem masksGo_prefix : ∀ (ops : List Oper) (acc : List Nat), ∃ m, masksGo ops acc = acc ++ m /\ m.length = ops.length
  | [], acc => ⟨[], by simp [masksGo], rfl⟩
  | o :: ops, acc => by
    obtain ⟨m, h1, h2⟩ := masksGo_prefix ops (acc ++ [maskOf acc o])
    exact ⟨maskOf acc o :: m, by simp [masksGo, h1], by simp [h2]⟩
theorem masksGo_get : ∀ (ops : List Oper) (acc : List Nat) (j : Nat) (o : Oper), ops[j]? = some o ->
    (masksGo ops acc)[acc.length + j]? = some (maskOf ((masksGo ops acc).take (acc.length + j)) o)
  | [], acc, j, o, h => by simp at h
  | o :: ops, acc, 0, o', h => by
    simp at h
    subst h
    obtain ⟨m, h1, h2⟩ := masksGo_prefix ops (acc ++ [maskOf acc o])
    simp only [masksGo, h1, Nat.add_zero, List.append_assoc]
    rw [List.getElem?_append_right (Nat.le_refl _), List.take_left']
    . simp
    . rfl
  | o :: ops, acc, j + 1, o', h => by
    have := masksGo_get ops (acc ++ [maskOf acc o]) j o' (by simpa using h)
    simp only [masksGo]
    rw [show acc.length + (j + 1) = (acc ++ [maskOf acc o]).length + j by simp; omega]
    exact this
def anc (ops : Array Oper) (i j : Nat) : Prop := ((masks ops).getD j 0).testBit i = true
theorem mask_bits (acc : List Nat) (i : Nat) : ∀ (l : List Edge) (s : Nat), (l.foldl (fun s e => if Region.binds .any e then s ||| 2 ^ e.on ||| acc.getD e.on 0 else s) s).testBit i = true ->
    s.testBit i = true ∨ ∃ e ∈ l, Region.binds .any e = true /\ (e.on = i ∨ (acc.getD e.on 0).testBit i = true)
  | [], s, h => .inl h
  | e :: l, s, h => by
    rcases mask_bits acc i l _ h with h1 | ⟨e', h1, h2⟩
    . dsimp only at h1
      split at h1
      . rename_i hb
        rw [Nat.testBit_or, Nat.testBit_or, Bool.or_eq_true, Bool.or_eq_true] at h1
        rcases h1 with (h1 | h1) | h1
        . exact .inl h1
        . rw [Nat.testBit_two_pow] at h1
          exact .inr ⟨e, by simp, hb, .inl (by simpa using h1)⟩
        . exact .inr ⟨e, by simp, hb, .inr h1⟩
      . exact .inl h1
    . exact .inr ⟨e', by simp [h1], h2⟩
theorem anc_edge {ops : Array Oper} {i j : Nat} (h : anc ops i j) : ∃ o, ops[j]? = some o /\ ∃ e ∈ o.after, Region.binds .any e = true /\ (e.on = i ∨ anc ops i e.on) := by
  unfold anc at h
  obtain ⟨m, h1, h2⟩ := masksGo_prefix ops.toList []
  have hlen : (masks ops).length = ops.size := by unfold masks; rw [h1]; simpa using h2
  rcases Nat.lt_or_ge j ops.size with hj | hj
  . have ho : ops[j]? = some ops[j] := by simp [hj]
    have hg := masksGo_get ops.toList [] j ops[j] (by simp [hj])
    simp only [List.length_nil, Nat.zero_add] at hg
    have hm : (masks ops).getD j 0 = maskOf ((masks ops).take j) ops[j] := by
      unfold masks
      rw [List.getD_eq_getElem?_getD, hg]
      rfl
    rw [hm] at h
    unfold maskOf at h
    rcases mask_bits _ i _ 0 h with h3 | ⟨e, h3, h4, h5⟩
    . simp at h3
    . refine ⟨_, ho, e, by simpa using h3, h4, ?_⟩
      rcases h5 with h5 | h5
      . exact .inl h5
      . refine .inr ?_
        unfold anc
        by_cases hlt : e.on < j
        . rw [List.getD_eq_getElem?_getD, List.getElem?_take, if_pos hlt] at h5
          rw [List.getD_eq_getElem?_getD]
          exact h5
        . rw [List.getD_eq_getElem?_getD, List.getElem?_take, if_neg hlt] at h5
          simp at h5
  . rw [List.getD_eq_getElem?_getD, List.getElem?_eq_none (by omega)] at h
    simp at h
def Closed (ops : Array Oper) (L : Array Bool) : Prop := ∀ i j, L.getD j false = true -> anc ops i j -> L.getD i false = true
theorem ready_anc {ops : Array Oper} {L : Array Bool} (hc : Closed ops L) {j : Nat} (hr : j ∈ Region.ready .any ops L) {i : Nat} (h : anc ops i j) : L.getD i false = true := by
  obtain ⟨_, o, ho, hall⟩ := mem_ready.1 hr
  obtain ⟨o', ho', e, he, hb, h1⟩ := anc_edge h
  rw [ho] at ho'
  cases ho'
  have hl := hall e he hb
  rcases h1 with h1 | h1
  . rw [<- h1]; exact hl
  . exact hc i e.on hl h1
theorem getD_set {L : Array Bool} {i j : Nat} : (L.setIfInBounds i true).getD j false = true ↔ L.getD j false = true ∨ (j = i /\ i < L.size) := by
  by_cases h : i = j
  . subst h
    by_cases hlt : i < L.size <;> simp [hlt]
  . rw [getD_set_ne false h]
    simp [Ne.symm h]
theorem closed_set {ops : Array Oper} {L : Array Bool} (hc : Closed ops L) {j : Nat} (hr : j ∈ Region.ready .any ops L) : Closed ops (L.setIfInBounds j true) := by
  intro i k hk ha
  rw [getD_set] at hk ⊢
  rcases hk with hk | ⟨rfl, _⟩
  . exact .inl (hc i k hk ha)
  . exact .inl (ready_anc hc hr ha)
theorem ordered_anc {ops : Array Oper} {i j : Nat} (h : ordered (masks ops) i j = true) (hij : i < j) : anc ops i j := by
  unfold ordered at h
  rw [Nat.max_eq_right (by omega), Nat.min_eq_left (by omega)] at h
  exact h
theorem ordered_anc' {ops : Array Oper} {i j : Nat} (h : ordered (masks ops) i j = true) (hij : j < i) : anc ops j i := by
  unfold ordered at h
  rw [Nat.max_eq_left (by omega), Nat.min_eq_right (by omega)] at h
  exact h
theorem edgesGo_ok : ∀ (l : List Oper) (i : Nat), edgesGo l i = true -> ∀ (j : Nat) (o : Oper), l[j]? = some o -> ∀ e ∈ o.after, Region.binds .any e = true -> e.on < i + j
  | [], i, h, j, o, ho, e, he, hb => by simp at ho
  | o :: l, i, h, 0, o', ho, e, he, hb => by
    simp at ho
    subst ho
    simp only [edgesGo, Bool.and_eq_true, List.all_eq_true, Bool.or_eq_true, decide_eq_true_eq, Bool.not_eq_true'] at h
    rcases h.1 e (by simpa using he) with h1 | h1
    . rw [hb] at h1; cases h1
    . exact h1
  | o :: l, i, h, j + 1, o', ho, e, he, hb => by
    simp only [edgesGo, Bool.and_eq_true] at h
    have := edgesGo_ok l (i + 1) h.2 j o' (by simpa using ho) e he hb
    omega
theorem pairGo_ok {ops : Array Oper} {b : List Nat} {x : Oper} {i : Nat} : ∀ (l : List Oper) (k : Nat), pairGo ops b x i l k = true -> ∀ (j : Nat) (y : Oper), l[j]? = some y -> i = k + j ∨ ordered b i (k + j) = true ∨ slotsApart ops x y = true
  | [], k, h, j, y, hy => by simp at hy
  | y :: l, k, h, 0, y', hy => by
    simp at hy
    subst hy
    simp only [pairGo, Bool.and_eq_true, Bool.or_eq_true, beq_iff_eq] at h
    rcases h.1 with (h1 | h1) | h1
    . exact .inl h1
    . exact .inr (.inl h1)
    . exact .inr (.inr h1)
  | y :: l, k, h, j + 1, y', hy => by
    simp only [pairGo, Bool.and_eq_true] at h
    have := pairGo_ok l (k + 1) h.2 j y' (by simpa using hy)
    rwa [show k + 1 + j = k + (j + 1) by omega] at this
theorem pairsGo_ok {ops : Array Oper} {b : List Nat} : ∀ (l : List Oper) (k : Nat), pairsGo ops b l k = true -> ∀ (i : Nat) (x : Oper), l[i]? = some x -> pairGo ops b x (k + i) ops.toList 0 = true
  | [], k, h, i, x, hx => by simp at hx
  | x :: l, k, h, 0, x', hx => by
    simp at hx
    subst hx
    simp only [pairsGo, Bool.and_eq_true] at h
    exact h.1
  | x :: l, k, h, i + 1, x', hx => by
    simp only [pairsGo, Bool.and_eq_true] at h
    have := pairsGo_ok l (k + 1) h.2 i x' (by simpa using hx)
    rwa [show k + 1 + i = k + (i + 1) by omega] at this
theorem anyBeside_ok {b : List Nat} {i : Nat} {x : Op} : ∀ (l : List Oper) (k : Nat), anyBeside b i x l k = false -> ∀ (j : Nat) (y : Oper), l[j]? = some y -> i = k + j ∨ ordered b i (k + j) = true ∨ isPure y.op = true ∨ (isLoad y.op = true /\ isStore x = true)
  | [], k, h, j, y, hy => by simp at hy
  | y :: l, k, h, 0, y', hy => by
    simp at hy
    subst hy
    simp only [anyBeside, Bool.or_eq_false_iff] at h
    have h1 := h.1
    simp only [Bool.and_eq_false_iff, Bool.not_eq_false', Bool.and_eq_true] at h1
    rcases h1 with ((h1 | h1) | h1) | h1
    . exact .inl (by simpa using h1)
    . exact .inr (.inl (by simpa using h1))
    . exact .inr (.inr (.inl (by simpa using h1)))
    . exact .inr (.inr (.inr (by simpa using h1)))
  | y :: l, k, h, j + 1, y', hy => by
    simp only [anyBeside, Bool.or_eq_false_iff] at h
    have := anyBeside_ok l (k + 1) h.2 j y' (by simpa using hy)
    rwa [show k + 1 + j = k + (j + 1) by omega] at this
theorem tightGo_ok {ops : Array Oper} {b : List Nat} : ∀ (l : List Oper) (k : Nat) (i : Nat) (x : Oper), l[i]? = some x -> (tightGo ops b l k)[i]? = some (!isPure x.op && !isLoad x.op && anyBeside b (k + i) x.op ops.toList 0)
  | [], k, i, x, hx => by simp at hx
  | x :: l, k, 0, x', hx => by
    simp at hx
    subst hx
    rfl
  | x :: l, k, i + 1, x', hx => by
    have := tightGo_ok (ops := ops) (b := b) l (k + 1) i x' (by simpa using hx)
    simp only [tightGo, List.getElem?_cons_succ]
    rwa [show k + 1 + i = k + (i + 1) by omega] at this
theorem footOk_ok {b : List Nat} {i : Nat} {x : Op} {f : Option Nat} : ∀ (l : List Oper) (k : Nat) (fs : List (Option Nat)), footOk b i x f l k fs = true -> ∀ (j : Nat) (y : Oper) (g : Option Nat), l[j]? = some y -> fs[j]? = some g -> beside b i (k + j) x y.op = true -> f = none ∨ f ≠ g ∨ entryPair x y.op = true
  | [], k, fs, h, j, y, g, hy, _, _ => by simp at hy
  | y :: l, k, [], h, j, y', g, hy, hg, _ => by simp at hg
  | y :: l, k, g :: gs, h, 0, y', g', hy, hg, hb => by
    simp at hy hg
    subst hy hg
    simp only [footOk, Bool.and_eq_true, Bool.or_eq_true, Bool.not_eq_true', Option.isNone_iff_eq_none, bne_iff_ne, ne_eq] at h
    rw [Nat.add_zero] at hb
    rcases h.1 with ((h1 | h1) | h1) | h1
    . rw [hb] at h1; cases h1
    . exact .inl h1
    . exact .inr (.inl h1)
    . exact .inr (.inr h1)
  | y :: l, k, g :: gs, h, j + 1, y', g', hy, hg, hb => by
    simp only [footOk, Bool.and_eq_true] at h
    exact footOk_ok l (k + 1) gs h.2 j y' g' (by simpa using hy) (by simpa using hg) (by rwa [show k + 1 + j = k + (j + 1) by omega])
structure Checks (ops : Array Oper) : Prop where
  edges : ∀ (j : Nat) (o : Oper), ops[j]? = some o -> ∀ e ∈ o.after, Region.binds .any e = true -> e.on < j
  dsts : ∀ (i j : Nat) (x y : Oper) (d : Tmp), ops[i]? = some x -> ops[j]? = some y -> x.dst = some d -> y.dst = some d -> i = j
  pairs : ∀ (i j : Nat) (x y : Oper), ops[i]? = some x -> ops[j]? = some y -> i ≠ j -> ordered (masks ops) i j = true ∨ slotsApart ops x y = true
theorem dsts_nodup : ∀ (l : List Oper), (l.filterMap (·.dst)).Nodup -> ∀ (i j : Nat) (x y : Oper) (d : Tmp), l[i]? = some x -> l[j]? = some y -> x.dst = some d -> y.dst = some d -> i = j
  | [], _, i, j, x, y, d, hx, _, _, _ => by simp at hx
  | o :: l, h, i, j, x, y, d, hx, hy, dx, dy => by
    have hmem : ∀ (k : Nat) (z : Oper), l[k]? = some z -> z.dst = some d -> d ∈ l.filterMap (·.dst) := fun k z hz dz => List.mem_filterMap.2 ⟨z, List.mem_of_getElem? hz, dz⟩
    cases hd : o.dst with
    | none =>
      simp only [List.filterMap_cons, hd] at h
      cases i with
      | zero => simp at hx; subst hx; rw [hd] at dx; cases dx
      | succ i => cases j with
        | zero => simp at hy; subst hy; rw [hd] at dy; cases dy
        | succ j => rw [dsts_nodup l h i j x y d (by simpa using hx) (by simpa using hy) dx dy]
    | some d0 =>
      simp only [List.filterMap_cons, hd, List.nodup_cons] at h
      cases i with
      | zero =>
        simp at hx; subst hx
        rw [hd] at dx; cases dx
        cases j with
        | zero => rfl
        | succ j => exact absurd (hmem j y (by simpa using hy) dy) h.1
      | succ i => cases j with
        | zero =>
          simp at hy; subst hy
          rw [hd] at dy; cases dy
          exact absurd (hmem i x (by simpa using hx) dx) h.1
        | succ j => rw [dsts_nodup l h.2 i j x y d (by simpa using hx) (by simpa using hy) dx dy]
theorem checks_ok {ops : Array Oper} (h : pairsOk ops (masks ops) = true) : Checks ops := by
  simp only [pairsOk, Bool.and_eq_true] at h
  obtain ⟨⟨h1, h2⟩, h3⟩ := h
  refine ⟨fun j o ho e he hb => ?_, fun i j x y d hx hy dx dy => ?_, fun i j x y hx hy hne => ?_⟩
  . have := edgesGo_ok ops.toList 0 h1 j o (by simpa using ho) e he hb
    omega
  . simp only [dstsOk, decide_eq_true_eq] at h2
    exact dsts_nodup ops.toList h2 i j x y d (by simpa using hx) (by simpa using hy) dx dy
  . have := pairsGo_ok ops.toList 0 h3 i x (by simpa using hx)
    have := pairGo_ok ops.toList 0 this j y (by simpa using hy)
    simp only [Nat.zero_add] at this
    rcases this with h | h | h
    . exact absurd h hne
    . exact .inl h
    . exact .inr h
theorem loose_ordered {ops : Array Oper} {i j : Nat} {x y : Oper} (hx : ops[i]? = some x) (hy : ops[j]? = some y) (hne : i ≠ j) (ht : (tightOf ops (masks ops)).getD i true = false) (hpx : isPure x.op = false) (hlx : isLoad x.op = false) (hpy : isPure y.op = false) :
    ordered (masks ops) i j = true ∨ (isLoad y.op = true /\ isStore x.op = true) := by
  have h1 := tightGo_ok (ops := ops) (b := masks ops) ops.toList 0 i x (by simpa using hx)
  simp only [Nat.zero_add] at h1
  unfold tightOf at ht
  rw [List.getD_eq_getElem?_getD, h1] at ht
  simp only [Option.getD_some, hpx, hlx, Bool.not_false, Bool.true_and] at ht
  have := anyBeside_ok ops.toList 0 ht j y (by simpa using hy)
  simp only [Nat.zero_add] at this
  rcases this with h | h | h | h
  . exact absurd h hne
  . exact .inl h
  . rw [hpy] at h; cases h
  . exact .inr h
theorem ordered_symm (b : List Nat) (i j : Nat) : ordered b i j = ordered b j i := by
  unfold ordered
  rw [Nat.max_comm, Nat.min_comm]
end Go.Proofs.YtaofbpldflcjmaaDoor.Am
