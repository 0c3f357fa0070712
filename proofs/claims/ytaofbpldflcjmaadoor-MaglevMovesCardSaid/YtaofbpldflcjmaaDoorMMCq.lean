/- Each one that is like the one ahead of it goes: the plain law of slices.Compact. -/
import Derived.Test.YtaofbpldflcjmaaDoorMZMgGen
set_option linter.unusedVariables false
set_option linter.unusedSimpArgs false
namespace Go.Proofs.YtaofbpldflcjmaaDoor.Am
section
open St
def uqF (eq : List PV -> List PV -> Bool) : List PV -> List (List PV) -> List (List PV)
  | _, [] => []
  | p, x :: R => bif eq x p then uqF eq x R else x :: uqF eq x R
def uniq (eq : List PV -> List PV -> Bool) : List (List PV) -> List (List PV)
  | [] => []
  | x :: R => x :: uqF eq x R
theorem uqF_snoc (eq : List PV -> List PV -> Bool) : ∀ (R : List (List PV)) (p x : List PV), uqF eq p (R ++ [x]) = uqF eq p R ++ (bif eq x (R.getLast?.getD p) then [] else [x])
  | [], p, x => by simp [uqF]
  | y :: R, p, x => by
    have ih := uqF_snoc eq R y x
    have e : (y :: R).getLast?.getD p = R.getLast?.getD y := by rw [List.getLast?_cons]; rfl
    rw [List.cons_append, uqF, ih, e, uqF]
    cases eq y p <;> rfl
theorem uniq_snoc (eq : List PV -> List PV -> Bool) (R : List (List PV)) (j : Nat) (hj : j + 1 < R.length) : uniq eq (R.take (j + 2)) = uniq eq (R.take (j + 1)) ++ (bif eq R[j + 1] R[j] then [] else [R[j + 1]]) := by
  have e : R.take (j + 2) = R.take (j + 1) ++ [R[j + 1]] := by rw [List.take_succ_eq_append_getElem hj]
  rw [e]
  cases R with
  | nil => simp at hj
  | cons x R =>
    rw [List.take_succ_cons, List.cons_append, uniq, uniq, uqF_snoc, List.cons_append]
    have h : (R.take j).getLast?.getD x = (x :: R)[j] := by
      cases j with
      | zero => simp
      | succ j =>
        have hj' : j < R.length := by simp at hj; omega
        rw [List.take_succ_eq_append_getElem hj', List.getLast?_concat]
        rfl
    rw [h]
structure Uq (eq : List PV -> List PV -> Bool) (R S : List (List PV)) (w j : Nat) : Prop where
  len : S.length = R.length
  front : S.take w = uniq eq (R.take j)
  ahead : S.drop (j - 1) = R.drop (j - 1)
  le : w < j
theorem Uq.at {eq : List PV -> List PV -> Bool} {R S : List (List PV)} {w j i : Nat} (h : Uq eq R S w j) (hi : j - 1 <= i) (hl : i < R.length) : S[i]'(by rw [h.len]; exact hl) = R[i] := by
  have h1 := congrArg (fun L => L[i - (j - 1)]?) h.ahead
  simp only [List.getElem?_drop, show j - 1 + (i - (j - 1)) = i from by omega] at h1
  rw [List.getElem?_eq_getElem (by rw [h.len]; exact hl), List.getElem?_eq_getElem hl] at h1
  exact Option.some.inj h1
theorem Uq.out {eq : List PV -> List PV -> Bool} {R S : List (List PV)} {w j : Nat} (h : Uq eq R S w (j + 1)) (hj : j + 1 < R.length) (hg : eq R[j + 1] R[j] = true) : Uq eq R S w (j + 2) where
  len := h.len
  front := by rw [h.front, uniq_snoc eq R j hj, hg, cond_true, List.append_nil]
  ahead := by
    have := congrArg (List.drop 1) h.ahead
    simp only [List.drop_drop, Nat.add_sub_cancel] at this
    exact this
  le := Nat.lt_succ_of_lt h.le
theorem Uq.in {eq : List PV -> List PV -> Bool} {R S : List (List PV)} {w j : Nat} (h : Uq eq R S w (j + 1)) (hj : j + 1 < R.length) (hg : eq R[j + 1] R[j] = false) : Uq eq R (S.set w R[j + 1]) (w + 1) (j + 2) where
  len := by rw [List.length_set]; exact h.len
  front := by
    have hw : w < S.length := by rw [h.len]; have := h.le; omega
    rw [List.take_succ_eq_append_getElem (by rw [List.length_set]; exact hw), List.getElem_set_self, List.take_set_of_le (Nat.le_refl w), h.front, uniq_snoc eq R j hj, hg, cond_false]
  ahead := by
    have h1 := congrArg (List.drop 1) h.ahead
    simp only [List.drop_drop, Nat.add_sub_cancel] at h1 ⊢
    rw [show j + 2 - 1 = j + 1 from rfl, List.drop_set_of_lt (by have := h.le; omega)]
    exact h1
  le := Nat.succ_lt_succ h.le
theorem Uq.done {eq : List PV -> List PV -> Bool} {R S : List (List PV)} {w : Nat} (h : Uq eq R S w R.length) : S.take w = uniq eq R := by
  rw [h.front, List.take_length]
def dupN (eq : List PV -> List PV -> Bool) (R : List (List PV)) : Nat -> Nat -> Option Nat
  | _, 0 => none
  | i, k + 1 => bif eq (R.getD i []) (R.getD (i - 1) []) then some i else dupN eq R (i + 1) k
theorem uniq_same {eq : List PV -> List PV -> Bool} {R : List (List PV)} : ∀ (j : Nat), j <= R.length -> (∀ (i : Nat) (hi : i + 1 < j) (hl : i + 1 < R.length), eq R[i + 1] R[i] = false) -> uniq eq (R.take j) = R.take j
  | 0, _, _ => by simp [uniq]
  | 1, h, _ => by
    cases R with
    | nil => simp at h
    | cons x R => simp [uniq, uqF]
  | j + 2, h, hd => by
    rw [uniq_snoc eq R j (by omega), uniq_same (j + 1) (by omega) fun i hi hl => hd i (by omega) hl, hd j (by omega) (by omega), cond_false, List.take_succ_eq_append_getElem (by omega : j + 1 < R.length)]
theorem Uq.start {eq : List PV -> List PV -> Bool} {R : List (List PV)} {z : Nat} (h0 : 0 < z) (hz : z < R.length) (hd : ∀ (i : Nat) (hi : i + 1 < z) (hl : i + 1 < R.length), eq R[i + 1] R[i] = false) (he : eq R[z] (R[z - 1]'(by omega)) = true) : Uq eq R R z (z + 1) where
  len := rfl
  front := by
    obtain ⟨k, rfl⟩ : ∃ k, z = k + 1 := ⟨z - 1, by omega⟩
    rw [uniq_snoc eq R k hz, uniq_same (k + 1) (by omega) hd]
    rw [show eq R[k + 1] R[k] = true from he, cond_true, List.append_nil]
  ahead := rfl
  le := Nat.lt_succ_self z
theorem uqF_mem {eq : List PV -> List PV -> Bool} : ∀ (R : List (List PV)) (p z : List PV), (∀ x ∈ p :: R, ∀ y ∈ p :: R, eq x y = true -> x = y) -> (z ∈ p :: uqF eq p R ↔ z ∈ p :: R)
  | [], p, z, _ => by simp [uqF]
  | x :: R, p, z, he => by
    have ih := uqF_mem R x z fun a ha b hb => he a (List.mem_cons_of_mem _ ha) b (List.mem_cons_of_mem _ hb)
    rw [uqF]
    cases hc : eq x p with
    | true =>
      have := he x (by simp) p (by simp) hc
      subst this
      rw [cond_true, ih]
      simp
    | false =>
      rw [cond_false, List.mem_cons, ih]
      simp
theorem uniq_mem {eq : List PV -> List PV -> Bool} {R : List (List PV)} (he : ∀ x ∈ R, ∀ y ∈ R, eq x y = true -> x = y) (z : List PV) : z ∈ uniq eq R ↔ z ∈ R := by
  cases R with
  | nil => simp [uniq]
  | cons x R => exact uqF_mem R x z he
theorem uqF_sub {eq : List PV -> List PV -> Bool} : ∀ (R : List (List PV)) (p : List PV), (uqF eq p R).Sublist R
  | [], p => by simp [uqF]
  | x :: R, p => by
    rw [uqF]
    cases eq x p with
    | true => exact (uqF_sub R x).cons x
    | false => exact (uqF_sub R x).cons_cons x
theorem uniq_sub {eq : List PV -> List PV -> Bool} (R : List (List PV)) : (uniq eq R).Sublist R := by
  cases R with
  | nil => simp [uniq]
  | cons x R => exact (uqF_sub R x).cons_cons x
theorem uqF_strict {eq lt : List PV -> List PV -> Bool} (ho : Ord lt) (hne : ∀ x y, lt x y = false -> lt y x = false -> eq y x = true) : ∀ (R : List (List PV)) (p : List PV), Sorted lt (p :: R) -> (p :: uqF eq p R).Pairwise fun a b => lt a b = true
  | [], p, _ => by simp [uqF]
  | x :: R, p, hs => by
    have hs' := List.pairwise_cons.1 hs
    have hx : lt x p = false := hs'.1 x List.mem_cons_self
    have ih := uqF_strict ho hne R x hs'.2
    rw [uqF]
    cases hc : eq x p with
    | true =>
      rw [cond_true]
      have ih' := List.pairwise_cons.1 ih
      refine List.pairwise_cons.2 ⟨fun z hz => ?_, ih'.2⟩
      exact ho.lt_of_le_lt hx (ih'.1 z hz)
    | false =>
      rw [cond_false]
      have hpx : lt p x = true := by
        cases hq : lt p x with
        | true => rfl
        | false => rw [hne p x hq hx] at hc; cases hc
      refine List.pairwise_cons.2 ⟨fun z hz => ?_, ih⟩
      rcases List.mem_cons.1 hz with rfl | hz
      . exact hpx
      . have h2 := (List.pairwise_cons.1 ih).1 z hz
        exact ho.lt_of_le_lt hx h2
theorem uniq_strict {eq lt : List PV -> List PV -> Bool} (ho : Ord lt) (hne : ∀ x y, lt x y = false -> lt y x = false -> eq y x = true) (R : List (List PV)) (hs : Sorted lt R) : (uniq eq R).Pairwise fun a b => lt a b = true := by
  cases R with
  | nil => exact List.Pairwise.nil
  | cons x R => exact uqF_strict ho hne R x hs
theorem strict_one {lt : List PV -> List PV -> Bool} (ho : Ord lt) {L M : List (List PV)} (hL : L.Pairwise fun a b => lt a b = true) (hM : M.Pairwise fun a b => lt a b = true) (hm : ∀ z, z ∈ L ↔ z ∈ M) : L = M := by
  have nd : ∀ {L : List (List PV)}, L.Pairwise (fun a b => lt a b = true) -> L.Nodup := fun h => h.imp fun {a b} hab e => by subst e; rw [ho.irrefl] at hab; cases hab
  have hp : L.Perm M := (List.perm_ext_iff_of_nodup (nd hL) (nd hM)).2 hm
  exact List.Perm.eq_of_pairwise (le := fun a b => lt a b = true) (fun a b _ _ h1 h2 => by rw [ho.asymm a b h1] at h2; cases h2) hL hM hp
end
section
open St
theorem rep_cells (Z : List PV) : ∀ k, repCells Z k = (List.replicate k Z).flatten
  | 0 => rfl
  | k + 1 => by rw [repCells, rep_cells Z k, List.replicate_succ, List.flatten_cons]
theorem rep_len (Z : List PV) : ∀ k, (List.replicate k Z).flatten.length = k * Z.length
  | 0 => by simp
  | k + 1 => by rw [List.replicate_succ, List.flatten_cons, List.length_append, rep_len Z k, Nat.add_mul, Nat.one_mul, Nat.add_comm]
theorem rep_old {Z : List PV} (h : oldL 0 Z = true) : ∀ k, oldL 0 (List.replicate k Z).flatten = true
  | 0 => rfl
  | k + 1 => by rw [List.replicate_succ, List.flatten_cons, oldL_append, h, rep_old h k]; rfl
theorem splice_rest {K : List Kd} {S : List (List PV)} {Z : List PV} {w : Nat} (hS : rowsOk K S = true) (hz : Z.length = K.length) (hw : w <= S.length) :
    splice S.flatten (0 + w * K.length) (repCells Z (S.length - w)) = (S.take w ++ List.replicate (S.length - w) Z).flatten := by
  have l1 := rows_len hS
  have l2 := rep_len Z (S.length - w)
  have l3 := mul_split (e := K.length) hw
  rw [rep_cells, List.flatten_append]
  unfold splice
  rw [l2, hz, List.drop_of_length_le (by omega), List.append_nil, Nat.zero_add]
  have := flat_tk hS hw
  rw [List.drop_zero] at this
  rw [this]
def idxN (good : List PV -> Bool) : List (List PV) -> Option Nat
  | [] => none
  | x :: R => bif !good x then some 0 else (idxN good R).map (· + 1)
def idxI (o : Option Nat) (i : Nat) : Int := match o with
  | some k => ((i + k : Nat) : Int)
  | none => -1
theorem idxI_succ (o : Option Nat) (i : Nat) : idxI (o.map (· + 1)) i = idxI o (i + 1) := by
  cases o with
  | none => rfl
  | some k => simp only [idxI, Option.map_some]; omega
def idxP (good : List PV -> Bool) (R : List (List PV)) : Option Nat -> Prop
  | none => R.filter good = R
  | some z => ∃ hz : z < R.length, (∀ (i : Nat) (hi : i < z), good (R[i]'(by omega)) = true) /\ good R[z] = false
theorem idxN_ok (good : List PV -> Bool) : ∀ R : List (List PV), idxP good R (idxN good R)
  | [] => rfl
  | x :: R => by
    have ih := idxN_ok good R
    unfold idxN
    cases hg : good x with
    | false =>
      rw [Bool.not_false, cond_true]
      exact ⟨by simp, fun i hi => by omega, by simpa using hg⟩
    | true =>
      rw [Bool.not_true, cond_false]
      cases hn : idxN good R with
      | none =>
        rw [hn] at ih
        show (x :: R).filter good = x :: R
        rw [List.filter_cons_of_pos hg, ih]
      | some z =>
        rw [hn] at ih
        obtain ⟨hz, h1, h2⟩ := ih
        show ∃ hz : z + 1 < (x :: R).length, _
        refine ⟨by simp; exact hz, fun i hi => ?_, by simpa using h2⟩
        cases i with
        | zero => simpa using hg
        | succ i =>
          have hi' : i + 1 < z + 1 := hi
          simpa using h1 i (by omega)
def sealAskW (c : List PV) (n w es : Nat) : List Bool := [n == n && (decide (0 + w * es <= c.length) && (decide (0 < es) && ((c.drop 0).take (w * es)).all PV.calm))]
def sealD (b : Bool) (c : List PV) (w es : Nat) : PV := bif b then .sl ((c.drop 0).take (w * es)) es w none else .sl [] es 0 none
theorem rowsOk_filter {K : List Kd} {R : List (List PV)} (h : rowsOk K R = true) (p : List PV -> Bool) : rowsOk K (R.filter p) = true := rowsOk_mem h fun r hr => (List.mem_filter.1 hr).1
def outC (n : Nat) (fl : List (List PV)) (Z : List PV) : List PV := (fl ++ List.replicate (n - fl.length) Z).flatten
theorem out_ok {K : List Kd} {Z : List PV} {fl : List (List PV)} {n : Nat} (h : rowsOk K fl = true) (hz : Z.length = K.length) (ho : oldL 0 Z = true) (hk : 0 < K.length) (hl : fl.length <= n) :
    oldL 0 (outC n fl Z) = true /\ (sealAskW (outC n fl Z) n fl.length K.length).all id = true /\ ((outC n fl Z).drop 0).take (fl.length * K.length) = fl.flatten := by
  have l1 := rows_len h
  have e : ((outC n fl Z).drop 0).take (fl.length * K.length) = fl.flatten := by
    unfold outC
    rw [List.drop_zero, List.flatten_append, <- l1, List.take_left]
  refine ⟨?_, ?_, e⟩
  . unfold outC
    rw [List.flatten_append, oldL_append, rows_old h, rep_old ho]
    rfl
  . unfold sealAskW
    rw [e]
    have : fl.length * K.length <= (outC n fl Z).length := by
      unfold outC
      rw [List.flatten_append, List.length_append, l1]
      omega
    simp only [beq_self_eq_true, Bool.true_and, List.all_cons, List.all_nil, id, Bool.and_true, Bool.and_eq_true, decide_eq_true_eq]
    exact ⟨by omega, hk, calm_old (rows_old h)⟩
theorem sealD_ok {K : List Kd} {Z : List PV} {R : List (List PV)} (p : List PV -> Bool) {n : Nat} (h : rowsOk K R = true) (hl : R.length = n) (hz : Z.length = K.length) (ho : oldL 0 Z = true) (hk : 0 < K.length) :
    sealD (!Nat.beq n 0) (outC n (R.filter p) Z) (R.filter p).length K.length = .sl (R.filter p).flatten K.length (R.filter p).length none := by
  have hfl : (R.filter p).length <= n := hl ▸ List.length_filter_le p R
  have := (out_ok (Z := Z) (rowsOk_filter h p) hz ho hk hfl).2.2
  unfold sealD
  cases hb : Nat.beq n 0 with
  | true =>
    have hn := Nat.eq_of_beq_eq_true hb
    have hr : R = [] := List.eq_nil_of_length_eq_zero (by omega)
    rw [hr]
    rfl
  | false => rw [Bool.not_false, cond_true, this]
end
end Go.Proofs.YtaofbpldflcjmaaDoor.Am
