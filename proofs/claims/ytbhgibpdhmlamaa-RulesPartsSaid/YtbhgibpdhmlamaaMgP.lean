import Derived.Test.YtbhgibpdhmlamaaMgA
import Derived.Test.YtbhgibpdhmlamaaMgZ
import Derived.Test.YtbhgibpdhmlamaaMrb
import Derived.Test.YtbhgibpdhmlamaaMgR
import Derived.Test.YtbhgibpdhmlamaaRows
import Derived.Below
import Derived.Carry
import Derived.ChangeSame
import Derived.ProofKit
import Derived.ChangeSlices
import Derived.WideShapes
/- Rows that stay, moved to the front: the plain law of DeleteFunc's loop. -/
section
set_option linter.unusedVariables false
set_option linter.unusedSimpArgs false
namespace Go.Proofs.Ytbhgibpdhmlamaa.Am
open St

/-- Behind some rows: those that stay lie in front; what is ahead lies as it lay. -/
structure Kept (good : List PV → Bool) (R S : List (List PV)) (w j : Nat) : Prop where
  len : S.length = R.length
  front : S.take w = (R.take j).filter good
  ahead : S.drop j = R.drop j
  le : w ≤ j

theorem Kept.at {good : List PV → Bool} {R S : List (List PV)} {w j : Nat} (h : Kept good R S w j) (hj : j < R.length) : S[j]'(by rw [h.len]; exact hj) = R[j] := by
  have h1 : S.drop j = S[j]'(by rw [h.len]; exact hj) :: S.drop (j + 1) := List.drop_eq_getElem_cons (by rw [h.len]; exact hj)
  have h2 : R.drop j = R[j] :: R.drop (j + 1) := List.drop_eq_getElem_cons hj
  have h3 := h.ahead
  rw [h1, h2] at h3
  exact (List.cons.inj h3).1

theorem Kept.out {good : List PV → Bool} {R S : List (List PV)} {w j : Nat} (h : Kept good R S w j) (hj : j < R.length) (hg : good R[j] = false) : Kept good R S w (j + 1) where
  len := h.len
  front := by rw [h.front, List.take_succ_eq_append_getElem hj, List.filter_append]; simp [hg]
  ahead := by
    have := congrArg (List.drop 1) h.ahead
    rwa [List.drop_drop, List.drop_drop] at this
  le := Nat.le_succ_of_le h.le

theorem Kept.in {good : List PV → Bool} {R S : List (List PV)} {w j : Nat} (h : Kept good R S w j) (hj : j < R.length) (hg : good R[j] = true) : Kept good R (S.set w R[j]) (w + 1) (j + 1) where
  len := by rw [List.length_set]; exact h.len
  front := by
    have hw : w < S.length := by rw [h.len]; have := h.le; omega
    rw [List.take_succ_eq_append_getElem (by rw [List.length_set]; exact hw), List.getElem_set_self, List.take_set_of_le (Nat.le_refl w), h.front, List.take_succ_eq_append_getElem hj, List.filter_append]
    simp [hg]
  ahead := by
    have h1 := congrArg (List.drop 1) h.ahead
    rw [List.drop_drop, List.drop_drop] at h1
    rw [List.drop_set_of_lt (by have := h.le; omega)]
    exact h1
  le := Nat.succ_le_succ h.le

theorem Kept.start {good : List PV → Bool} {R : List (List PV)} {z : Nat} (hz : z < R.length) (hf : ∀ (i : Nat) (hi : i < z), good (R[i]'(by omega)) = true) (hb : good R[z] = false) : Kept good R R z (z + 1) where
  len := rfl
  front := by
    rw [List.take_succ_eq_append_getElem hz, List.filter_append]
    have : (R.take z).filter good = R.take z := by
      rw [List.filter_eq_self]
      intro x hx
      obtain ⟨i, hi, rfl⟩ := List.mem_iff_getElem.1 hx
      rw [List.length_take] at hi
      rw [List.getElem_take]
      exact hf i (by omega)
    rw [this]
    simp [hb]
  ahead := rfl
  le := Nat.le_succ z

theorem Kept.done {good : List PV → Bool} {R S : List (List PV)} {w : Nat} (h : Kept good R S w R.length) : S.take w = R.filter good := by
  rw [h.front, List.take_length]

end Go.Proofs.Ytbhgibpdhmlamaa.Am
end

/- Parts of sorted rows, by what they hang on, merged: the rows. The plain law, no program in sight. -/
section
set_option linter.unusedVariables false
set_option linter.unusedSimpArgs false
namespace Go.Proofs.Ytbhgibpdhmlamaa.St

variable {α : Type}

theorem sorted_filter {lt : α → α → Bool} (p : α → Bool) {S : List α} (h : Sorted lt S) : Sorted lt (S.filter p) := List.Pairwise.sublist List.filter_sublist h

/-- Two parts with nothing in common, and with no likes. -/
theorem mrg_filter {lt : α → α → Bool} {p q : α → Bool} : ∀ (S : List α), Sorted lt S → (∀ x ∈ S, p x = true → q x = false) → (∀ x ∈ S, ∀ y ∈ S, p x = true → q y = true → lt x y = true ∨ lt y x = true) →
    mrg lt (S.filter p) (S.filter q) = S.filter fun x => p x || q x
  | [], _, _, _ => by simp [mrg]
  | x :: S, hs, hd, ht => by
    have hs' : Sorted lt S := (List.pairwise_cons.1 hs).2
    have hx : ∀ y ∈ S, lt y x = false := (List.pairwise_cons.1 hs).1
    have ih := mrg_filter S hs' (fun y hy => hd y (List.mem_cons_of_mem _ hy)) (fun y hy z hz => ht y (List.mem_cons_of_mem _ hy) z (List.mem_cons_of_mem _ hz))
    cases hp : p x with
    | true =>
      have hq := hd x List.mem_cons_self hp
      rw [List.filter_cons_of_pos hp, List.filter_cons_of_neg (by simp [hq]), List.filter_cons_of_pos (by simp [hp]), ← ih]
      cases hr : S.filter q with
      | nil => rw [mrg_nil_right, mrg_nil_right]
      | cons y r =>
        have hy : y ∈ S := (List.mem_filter.1 (by rw [hr]; exact List.mem_cons_self : y ∈ S.filter q)).1
        rw [mrg, if_neg (by rw [hx y hy]; decide)]
    | false =>
      rw [List.filter_cons_of_neg (by simp [hp])]
      cases hq : q x with
      | true =>
        rw [List.filter_cons_of_pos hq, List.filter_cons_of_pos (by simp [hq]), ← ih]
        cases hl : S.filter p with
        | nil => rw [mrg_nil_left, mrg_nil_left]
        | cons y l =>
          have hm : y ∈ S.filter p := by rw [hl]; exact List.mem_cons_self
          have hy := List.mem_filter.1 hm
          have h1 := ht y (List.mem_cons_of_mem _ hy.1) x List.mem_cons_self hy.2 hq
          have h2 := hx y hy.1
          rw [mrg, if_pos (by rcases h1 with h1 | h1; · rw [h2] at h1; cases h1
                              · exact h1)]
      | false =>
        rw [List.filter_cons_of_neg (by simp [hq]), List.filter_cons_of_neg (by simp [hp, hq]), ih]

/-- The parts by their keys. -/
theorem parts_all {β : Type} [DecidableEq β] {lt : α → α → Bool} (ho : Ord lt) (f : α → β) {S : List α} (hs : Sorted lt S) (ht : ∀ x ∈ S, ∀ y ∈ S, f x ≠ f y → lt x y = true ∨ lt y x = true) :
    ∀ (K : List β), K.Nodup → insAll lt (K.flatMap fun k => S.filter fun x => decide (f x = k)) = S.filter fun x => decide (f x ∈ K)
  | [], _ => by simp [insAll]
  | k :: K, hk => by
    have hk' := List.nodup_cons.1 hk
    rw [List.flatMap_cons, insAll_append ho, parts_all ho f hs ht K hk'.2, insAll_of_sorted ho _ (sorted_filter _ hs)]
    rw [mrg_filter (p := fun x => decide (f x = k)) (q := fun x => decide (f x ∈ K)) S hs ?_ ?_]
    · congr 1
      funext x
      by_cases h1 : f x = k
      · simp [h1]
      · simp [h1]
    · intro x _ h1
      simp only [decide_eq_true_eq] at h1
      rw [h1]
      simpa using hk'.1
    · intro x hx y hy h1 h2
      simp only [decide_eq_true_eq] at h1 h2
      exact ht x hx y hy (fun e => hk'.1 (by rw [← h1, e]; exact h2))

theorem parts_whole {β : Type} [DecidableEq β] {lt : α → α → Bool} (ho : Ord lt) (f : α → β) {S : List α} (hs : Sorted lt S) (ht : ∀ x ∈ S, ∀ y ∈ S, f x ≠ f y → lt x y = true ∨ lt y x = true)
    {K : List β} (hk : K.Nodup) (hall : ∀ x ∈ S, f x ∈ K) : insAll lt (K.flatMap fun k => S.filter fun x => decide (f x = k)) = S := by
  rw [parts_all ho f hs ht K hk, List.filter_eq_self]
  intro x hx
  simpa using hall x hx

end Go.Proofs.Ytbhgibpdhmlamaa.St
end

/- The parts of rows in order, by the keys of services, joined: the rows in order; the plain law. -/
section
set_option linter.unusedVariables false
set_option linter.unusedSimpArgs false
namespace Go.Proofs.Ytbhgibpdhmlamaa.Am
open St

/-- A key in a row, from a place on. -/
def kyP (p : Nat) (x : List PV) : List UInt8 × List UInt8 := (asS (x.getD p .nilp), asS (x.getD (p + 1) .nilp))
def goodK (p : Nat) (a b : List UInt8) (x : List PV) : Bool := asS (x.getD p .nilp) == a && (asS (x.getD (p + 1) .nilp) == b && true)

theorem goodK_eq (p : Nat) (a b : List UInt8) : goodK p a b = fun x => decide (kyP p x = (a, b)) := by
  funext x
  unfold goodK kyP
  rw [Bool.eq_iff_iff]
  simp [Prod.ext_iff]

theorem eqK2_iff (x y : List PV) : eqK2 x y = true ↔ kyP 0 x = kyP 0 y := by
  unfold eqK2 kyP
  simp [Prod.ext_iff]

theorem cmpS_zero {s t : List UInt8} (h : cmpS s t = 0) : s = t := by
  unfold cmpS at h
  cases h1 : Op.bytesLess s t with
  | true => rw [h1] at h; cases h
  | false =>
    rw [h1] at h
    cases h2 : s == t with
    | true => exact eq_of_beq h2
    | false => rw [h2] at h; cases h

theorem orr_zero : ∀ {l : List Int}, orr l = 0 → ∀ z ∈ l, z = 0
  | [], _, z, hz => by cases hz
  | x :: l, h, z, hz => by
    rw [orr_lex] at h
    cases hx : x != 0 with
    | true =>
      rw [hx, cond_true] at h
      rw [h] at hx
      cases hx
    | false =>
      rw [hx, cond_false] at h
      simp only [bne_eq_false_iff_eq] at hx
      rcases List.mem_cons.1 hz with rfl | hz
      · exact hx
      · exact orr_zero h z hz

theorem kyC_zero {a b : Ky} (h : kyC a b = 0) : a.space = b.space ∧ a.name = b.name := by
  have := orr_zero (l := [cmpS a.space b.space, cmpS a.name b.name]) h
  exact ⟨cmpS_zero (this _ (by simp)), cmpS_zero (this _ (by simp))⟩

theorem no_tie {f : List PV → List PV → Int} (h : CO f) {x y : List PV} (h1 : ltOf f x y = false) (h2 : ltOf f y x = false) : f x y = 0 := by
  unfold ltOf at h1 h2
  have := h.anti x y
  simp only [decide_eq_false_iff_not] at h1 h2
  omega

theorem tie_F (x y : List PV) (h : kyP 19 x ≠ kyP 19 y) : ltOf cFr x y = true ∨ ltOf cFr y x = true := by
  cases h1 : ltOf cFr x y with
  | true => exact Or.inl rfl
  | false =>
    cases h2 : ltOf cFr y x with
    | true => exact Or.inr rfl
    | false =>
      exfalso
      have h0 := no_tie cFr_co h1 h2
      have ha : atC (frAt x) (frAt y) = 0 := orr_zero (l := [atC (frAt x) (frAt y), _, _, _, _]) h0 _ List.mem_cons_self
      have hk : kyC (frAt x).key (frAt y).key = 0 := orr_zero (l := [_, _, kyC (frAt x).key (frAt y).key, _]) ha _ (by simp)
      have := kyC_zero hk
      exact h (Prod.ext this.1 this.2)

theorem tie_G (x y : List PV) (h : kyP 0 x ≠ kyP 0 y) : ltOf cGi x y = true ∨ ltOf cGi y x = true := by
  cases h1 : ltOf cGi x y with
  | true => exact Or.inl rfl
  | false =>
    cases h2 : ltOf cGi y x with
    | true => exact Or.inr rfl
    | false =>
      exfalso
      have h0 := no_tie cGi_co h1 h2
      have hk : kyC (giAt x).key (giAt y).key = 0 := orr_zero (l := [kyC (giAt x).key (giAt y).key, _, _, _]) h0 _ List.mem_cons_self
      have := kyC_zero hk
      exact h (Prod.ext this.1 this.2)

theorem tie_I (x y : List PV) (h : kyP 0 x ≠ kyP 0 y) : ltOf cKy x y = true ∨ ltOf cKy y x = true := by
  cases h1 : ltOf cKy x y with
  | true => exact Or.inl rfl
  | false =>
    cases h2 : ltOf cKy y x with
    | true => exact Or.inr rfl
    | false =>
      exfalso
      have := kyC_zero (no_tie cKy_co h1 h2)
      exact h (Prod.ext this.1 this.2)

/-! ### keys in order, each once -/

theorem lt_rKy : ltOf rKy = ltOf cKy := by
  funext x y
  unfold ltOf
  rw [cKy_eq]

theorem cKy_same {x y z : List PV} (h : kyP 0 y = kyP 0 z) : cKy x y = cKy x z ∧ cKy y x = cKy z x := by
  have e : kyAt y 0 = kyAt z 0 := by
    unfold kyAt
    have h1 := congrArg Prod.fst h
    have h2 := congrArg Prod.snd h
    simp only [kyP] at h1 h2
    rw [h1, h2]
  unfold cKy
  rw [e]
  exact ⟨rfl, rfl⟩

theorem plc_lt (lt : List PV → List PV → Bool) (x : List PV) (R : List (List PV)) : ∀ (k i : Nat), plc lt x R k ≤ i → i < k → lt x (R.getD i []) = true
  | 0, i, _, h => by omega
  | k + 1, i, h1, h2 => by
    rw [plc] at h1
    split at h1
    · rename_i hk
      by_cases e : i = k
      · rw [e]; exact hk
      · exact plc_lt lt x R k i h1 (by omega)
    · omega

theorem plc_ge (lt : List PV → List PV → Bool) (x : List PV) (R : List (List PV)) : ∀ (k : Nat), 0 < plc lt x R k → lt x (R.getD (plc lt x R k - 1) []) = false
  | 0, h => by simp [plc] at h
  | k + 1, h => by
    rw [plc] at h ⊢
    split at h
    · rename_i hk
      rw [if_pos hk]
      exact plc_ge lt x R k h
    · rename_i hk
      rw [if_neg hk, Nat.add_sub_cancel]
      simpa using hk

structure KsOk (A : List (List PV)) : Prop where
  srt : Sorted (ltOf rKy) A
  once : (A.map (kyP 0)).Nodup

theorem insU_ok {x : List PV} {A : List (List PV)} (h : KsOk A) : KsOk (insU x A) ∧ kyP 0 x ∈ (insU x A).map (kyP 0) ∧ ∀ k ∈ A.map (kyP 0), k ∈ (insU x A).map (kyP 0) := by
  have ho : Ord (ltOf rKy) := lt_rKy ▸ oKy
  have hpl := plc_le (ltOf rKy) x A A.length
  unfold insU
  cases hc : decide (0 < plc (ltOf rKy) x A A.length) && eqK2 (A.getD (plc (ltOf rKy) x A A.length - 1) []) x with
  | true =>
    rw [cond_true]
    simp only [Bool.and_eq_true, decide_eq_true_eq] at hc
    have hl : plc (ltOf rKy) x A A.length - 1 < A.length := by omega
    refine ⟨h, ?_, fun k hk => hk⟩
    rw [← (eqK2_iff _ _).1 hc.2, getD_at hl]
    exact List.mem_map.2 ⟨_, List.getElem_mem hl, rfl⟩
  | false =>
    rw [cond_false]
    have hperm : (A.take (plc (ltOf rKy) x A A.length) ++ x :: A.drop (plc (ltOf rKy) x A A.length)).Perm (x :: A) := by
      refine List.perm_middle.trans ?_
      rw [List.take_append_drop]
    refine ⟨⟨?_, ?_⟩, ?_, ?_⟩
    · rw [plc_all]
      exact ins_sorted ho x A h.srt
    · refine ((hperm.map (kyP 0)).nodup_iff).2 ?_
      rw [List.map_cons, List.nodup_cons]
      refine ⟨fun hm => ?_, h.once⟩
      obtain ⟨y, hy, hk⟩ := List.mem_map.1 hm
      obtain ⟨i, hi, rfl⟩ := List.mem_iff_getElem.1 hy
      have hz : cKy x x = 0 := by have := cKy_co.anti x x; omega
      have h1 : ltOf rKy x A[i] = false := by
        rw [lt_rKy]
        unfold ltOf
        rw [(cKy_same (x := x) hk).1, hz]
        rfl
      have hip : i < plc (ltOf rKy) x A A.length := by
        by_cases q : i < plc (ltOf rKy) x A A.length
        · exact q
        · have := plc_lt (ltOf rKy) x A A.length i (by omega) hi
          rw [getD_at hi, h1] at this
          cases this
      have h2 := plc_ge (ltOf rKy) x A A.length (by omega)
      have hl : plc (ltOf rKy) x A A.length - 1 < A.length := by omega
      have h4 : ltOf rKy (A[plc (ltOf rKy) x A A.length - 1]) A[i] = false := by
        by_cases q : i = plc (ltOf rKy) x A A.length - 1
        · subst q
          exact ho.irrefl _
        · exact List.pairwise_iff_getElem.1 h.srt i _ hi hl (by omega)
      have he : A.getD (plc (ltOf rKy) x A A.length - 1) [] = A[plc (ltOf rKy) x A A.length - 1] := getD_at hl
      rw [he] at h2
      have h6 : eqK2 (A.getD (plc (ltOf rKy) x A A.length - 1) []) x = true := by
        rw [he]
        generalize A[plc (ltOf rKy) x A A.length - 1] = y at h2 h4
        have h3 : ltOf rKy y x = false := by
          rw [lt_rKy] at h4 ⊢
          unfold ltOf at h4 ⊢
          rw [← (cKy_same (x := y) hk).1]
          exact h4
        rw [lt_rKy] at h2 h3
        have h5 := kyC_zero (no_tie cKy_co h3 h2)
        exact (eqK2_iff _ _).2 (Prod.ext h5.1 h5.2)
      rw [h6] at hc
      simp only [Bool.and_true, decide_eq_false_iff_not] at hc
      omega
    · exact List.mem_map.2 ⟨x, by simp, rfl⟩
    · intro k hk
      exact ((hperm.map (kyP 0)).mem_iff).2 (by rw [List.map_cons]; exact List.mem_cons_of_mem _ hk)

theorem sortU_fold : ∀ (R A : List (List PV)), KsOk A → KsOk (R.foldl (fun A x => insU x A) A) ∧ (∀ k ∈ A.map (kyP 0), k ∈ (R.foldl (fun A x => insU x A) A).map (kyP 0)) ∧ ∀ x ∈ R, kyP 0 x ∈ (R.foldl (fun A x => insU x A) A).map (kyP 0)
  | [], A, h => ⟨h, fun k hk => hk, fun x hx => by cases hx⟩
  | x :: R, A, h => by
    obtain ⟨h1, h2, h3⟩ := insU_ok (x := x) h
    obtain ⟨g1, g2, g3⟩ := sortU_fold R (insU x A) h1
    refine ⟨g1, fun k hk => g2 k (h3 k hk), fun y hy => ?_⟩
    rcases List.mem_cons.1 hy with rfl | hy
    · exact g2 _ h2
    · exact g3 y hy

theorem sortU_keys (R : List (List PV)) : ((sortU R).map (kyP 0)).Nodup ∧ ∀ x ∈ R, kyP 0 x ∈ (sortU R).map (kyP 0) := by
  obtain ⟨h1, h2, h3⟩ := sortU_fold R [] ⟨List.Pairwise.nil, List.Pairwise.nil⟩
  exact ⟨h1.once, h3⟩

/-! ### the parts -/

def Rw.part (r : Rw) (a b : List UInt8) : Rw := Rw.mk' (r.F.filter (goodK 19 a b)) (r.G.filter (goodK 0 a b)) (r.I.filter (goodK 0 a b))

theorem rowsOk_filter {K : List Kd} {R : List (List PV)} (h : rowsOk K R = true) (p : List PV → Bool) : rowsOk K (R.filter p) = true := rowsOk_mem h fun r hr => (List.mem_filter.1 hr).1

theorem part_ok {r : Rw} (h : r.ok = true) (a b : List UInt8) : (r.part a b).ok = true ∧ (r.part a b).F = r.F.filter (goodK 19 a b) ∧ (r.part a b).G = r.G.filter (goodK 0 a b) ∧ (r.part a b).I = r.I.filter (goodK 0 a b) := by
  have lx := Rw.lists h
  refine mk_ok (rowsOk_filter lx.f _) (rowsOk_filter lx.g _) (rowsOk_filter lx.i _) ?_ ?_ ?_ (fun x hx => lx.gk x (List.mem_filter.1 hx).1) (fun x hx => lx.ik x (List.mem_filter.1 hx).1)
  · have := List.length_filter_le (goodK 19 a b) r.F
    have := lx.nf
    have := lx.mf
    omega
  · have := List.length_filter_le (goodK 0 a b) r.G
    have := lx.ng
    have := lx.mg
    omega
  · have := List.length_filter_le (goodK 0 a b) r.I
    have := lx.ni
    have := lx.mi
    omega

theorem so_ok {r : Rw} (h : r.ok = true) : r.so.ok = true ∧ r.so.F = insAll (ltOf cFr) r.F ∧ r.so.G = insAll (ltOf cGi) r.G ∧ r.so.I = insAll (ltOf cKy) r.I := by
  have lx := Rw.lists h
  have e : r.so = Rw.mk' (insAll (ltOf cFr) r.F) (insAll (ltOf cGi) r.G) (insAll (ltOf cKy) r.I) := by
    unfold Rw.so Rw.mk'
    rw [insAll_len, insAll_len, insAll_len, lx.nf, lx.ng, lx.ni]
  rw [e]
  have := lx.nf
  have := lx.ng
  have := lx.ni
  have := lx.mf
  have := lx.mg
  have := lx.mi
  exact mk_ok (rows_ins lx.f) (rows_ins lx.g) (rows_ins lx.i) (by rw [insAll_len]; omega) (by rw [insAll_len]; omega) (by rw [insAll_len]; omega) (fun x hx => lx.gk x ((mem_insAll _ _ _).1 hx)) (fun x hx => lx.ik x ((mem_insAll _ _ _).1 hx))

theorem parts_flat {K : List (List UInt8 × List UInt8)} {r : Rw} (h : r.ok = true) : joF (K.map fun k => r.part k.1 k.2) = K.flatMap (fun k => r.F.filter fun x => decide (kyP 19 x = k)) ∧ joG (K.map fun k => r.part k.1 k.2) = K.flatMap (fun k => r.G.filter fun x => decide (kyP 0 x = k)) ∧ joI (K.map fun k => r.part k.1 k.2) = K.flatMap (fun k => r.I.filter fun x => decide (kyP 0 x = k)) := by
  unfold joF joG joI
  rw [List.flatMap_map, List.flatMap_map, List.flatMap_map]
  have key : ∀ k : List UInt8 × List UInt8, (r.part k.1 k.2).F = r.F.filter (fun x => decide (kyP 19 x = k)) ∧ (r.part k.1 k.2).G = r.G.filter (fun x => decide (kyP 0 x = k)) ∧ (r.part k.1 k.2).I = r.I.filter (fun x => decide (kyP 0 x = k)) := by
    intro k
    obtain ⟨_, e1, e2, e3⟩ := part_ok h k.1 k.2
    rw [e1, e2, e3, goodK_eq, goodK_eq]
    exact ⟨rfl, rfl, rfl⟩
  simp only [fun k => (key k).1, fun k => (key k).2.1, fun k => (key k).2.2, and_self]

/-- The parts of the rows in order, joined, are the rows in order. -/
theorem parts_so {r : Rw} (h : r.ok = true) {K : List (List UInt8 × List UInt8)} (hk : K.Nodup) (hF : ∀ x ∈ r.F, kyP 19 x ∈ K) (hG : ∀ x ∈ r.G, kyP 0 x ∈ K) (hI : ∀ x ∈ r.I, kyP 0 x ∈ K) :
    joOk (K.map fun k => r.so.part k.1 k.2) = true ∧ (jo (K.map fun k => r.so.part k.1 k.2)).so = r.so := by
  obtain ⟨s0, s1, s2, s3⟩ := so_ok h
  obtain ⟨p1, p2, p3⟩ := parts_flat (K := K) s0
  have lx := Rw.lists h
  have ls := Rw.lists s0
  have e1 : insAll (ltOf cFr) (joF (K.map fun k => r.so.part k.1 k.2)) = r.so.F := by
    rw [p1]
    exact parts_whole oFr (kyP 19) (by rw [s1]; exact insAll_sorted oFr _) (fun x _ y _ => tie_F x y) hk fun x hx => hF x (by rw [s1] at hx; exact (mem_insAll _ _ _).1 hx)
  have e2 : insAll (ltOf cGi) (joG (K.map fun k => r.so.part k.1 k.2)) = r.so.G := by
    rw [p2]
    exact parts_whole oGi (kyP 0) (by rw [s2]; exact insAll_sorted oGi _) (fun x _ y _ => tie_G x y) hk fun x hx => hG x (by rw [s2] at hx; exact (mem_insAll _ _ _).1 hx)
  have e3 : insAll (ltOf cKy) (joI (K.map fun k => r.so.part k.1 k.2)) = r.so.I := by
    rw [p3]
    exact parts_whole oKy (kyP 0) (by rw [s3]; exact insAll_sorted oKy _) (fun x _ y _ => tie_I x y) hk fun x hx => hI x (by rw [s3] at hx; exact (mem_insAll _ _ _).1 hx)
  have l1 := congrArg List.length e1
  have l2 := congrArg List.length e2
  have l3 := congrArg List.length e3
  rw [insAll_len] at l1 l2 l3
  have hj : joOk (K.map fun k => r.so.part k.1 k.2) = true := by
    have m1 := ls.mf
    have m2 := ls.mg
    have m3 := ls.mi
    have n1 := ls.nf
    have n2 := ls.ng
    have n3 := ls.ni
    unfold joOk
    simp only [Bool.and_eq_true, decide_eq_true_eq, List.all_eq_true]
    refine ⟨fun x hx => ?_, by omega, by omega, by omega⟩
    obtain ⟨k, _, rfl⟩ := List.mem_map.1 hx
    exact (part_ok s0 k.1 k.2).1
  refine ⟨hj, ?_⟩
  obtain ⟨j0, j1, j2, j3⟩ := jo_ok hj
  show Rw.mk (jo _).nf (insAll (ltOf cFr) (jo _).F).flatten (jo _).ng (insAll (ltOf cGi) (jo _).G).flatten (jo _).ni (insAll (ltOf cKy) (jo _).I).flatten = r.so
  rw [j1, j2, j3, e1, e2, e3, ls.fc, ls.gc, ls.ic]
  show Rw.mk (joF _).length _ (joG _).length _ (joI _).length _ = _
  rw [l1, l2, l3, ls.nf, ls.ng, ls.ni]

end Go.Proofs.Ytbhgibpdhmlamaa.Am
end

/- Zeros behind rows; the first row that goes: plain. -/
section
set_option linter.unusedVariables false
set_option linter.unusedSimpArgs false
namespace Go.Proofs.Ytbhgibpdhmlamaa.Am
open St

theorem rep_cells (Z : List PV) : ∀ k, repCells Z k = (List.replicate k Z).flatten
  | 0 => rfl
  | k + 1 => by rw [repCells, rep_cells Z k, List.replicate_succ, List.flatten_cons]

theorem rep_len (Z : List PV) : ∀ k, (List.replicate k Z).flatten.length = k * Z.length
  | 0 => by simp
  | k + 1 => by rw [List.replicate_succ, List.flatten_cons, List.length_append, rep_len Z k, Nat.add_mul, Nat.one_mul, Nat.add_comm]

theorem rep_old {Z : List PV} (h : oldL 0 Z = true) : ∀ k, oldL 0 (List.replicate k Z).flatten = true
  | 0 => rfl
  | k + 1 => by rw [List.replicate_succ, List.flatten_cons, oldL_append, h, rep_old h k]; rfl

theorem splice_rest {K : List Kd} {S : List (List PV)} {Z : List PV} {w : Nat} (hS : rowsOk K S = true) (hz : Z.length = K.length) (hw : w ≤ S.length) :
    splice S.flatten (0 + w * K.length) (repCells Z (S.length - w)) = (S.take w ++ List.replicate (S.length - w) Z).flatten := by
  have l1 := rows_len hS
  have l2 := rep_len Z (S.length - w)
  have l3 := mul_split (e := K.length) hw
  rw [rep_cells, List.flatten_append]
  unfold splice
  rw [l2, hz, List.drop_of_length_le (by omega), List.append_nil, Nat.zero_add]
  have := flat_tk hS hw
  rw [List.drop_zero] at this
  rw [this]

/-- The first that goes, or none. -/
def idxN (good : List PV → Bool) : List (List PV) → Option Nat
  | [] => none
  | x :: R => bif !good x then some 0 else (idxN good R).map (· + 1)
def idxI (o : Option Nat) (i : Nat) : Int := match o with
  | some k => ((i + k : Nat) : Int)
  | none => -1

theorem idxI_succ (o : Option Nat) (i : Nat) : idxI (o.map (· + 1)) i = idxI o (i + 1) := by
  cases o with
  | none => rfl
  | some k => simp only [idxI, Option.map_some]; omega

def idxP (good : List PV → Bool) (R : List (List PV)) : Option Nat → Prop
  | none => R.filter good = R
  | some z => ∃ hz : z < R.length, (∀ (i : Nat) (hi : i < z), good (R[i]'(by omega)) = true) ∧ good R[z] = false

theorem idxN_ok (good : List PV → Bool) : ∀ R : List (List PV), idxP good R (idxN good R)
  | [] => rfl
  | x :: R => by
    have ih := idxN_ok good R
    unfold idxN
    cases hg : good x with
    | false =>
      rw [Bool.not_false, cond_true]
      exact ⟨by simp, fun i hi => by omega, by simpa using hg⟩
    | true =>
      rw [Bool.not_true, cond_false]
      cases hn : idxN good R with
      | none =>
        rw [hn] at ih
        show (x :: R).filter good = x :: R
        rw [List.filter_cons_of_pos hg, ih]
      | some z =>
        rw [hn] at ih
        obtain ⟨hz, h1, h2⟩ := ih
        show ∃ hz : z + 1 < (x :: R).length, _
        refine ⟨by simp; exact hz, fun i hi => ?_, by simpa using h2⟩
        cases i with
        | zero => simpa using hg
        | succ i =>
          have hi' : i + 1 < z + 1 := hi
          simpa using h1 i (by omega)

end Go.Proofs.Ytbhgibpdhmlamaa.Am
end

/- slices.IndexFunc, slices.DeleteFunc at linkboy/rules.Front, by what a closure says of a row: their walk and their answers. -/
section
set_option linter.unusedVariables false
set_option linter.unusedSimpArgs false
set_option maxRecDepth 100000
set_option maxHeartbeats 8000000
namespace Go.Proofs.Ytbhgibpdhmlamaa.Am.DF
open St

def bxd (a b : List UInt8) : Ob := bxN [.str a, .str b] 2
def st (c : List PV) (n : Nat) (a b : List UInt8) : Store := [.mem ⟨c, 26, n, false, false, false⟩, bxd a b]
def fnc (id : Nat) : PV := .fn (.func 34) [] [.ptr id 1 0]
def slIx (n : Nat) (i : Int) : List (Nat × PV) := [(0, .osl 0 n 0 26 n none), (1, fnc 1), (4, vI 0), (6, .osl 0 n 0 26 n none), (7, vI n), (8, vI i)]
noncomputable def LIx (N m : Nat) (c : List PV) (n : Nat) (a b : List UInt8) (i : Int) : Option PV := loopSF EN T0 H0 N 5 2 57 Try.f57 [1, 0, 1, 0] (patOf (sparse 19 0 (slIx 0 0))) 2 m (sparse 19 0 (slIx n i)) (st c n a b)

theorem x0 (N : Nat) (c : List PV) (n : Nat) (a b : List UInt8) : footSR EN T0 H0 N 5 57 [.osl 0 n 0 26 n none, fnc 1, encS (st c n a b)] = LIx N N c n a b 0 := by kernel_rfl

theorem x1 (N m : Nat) (c : List PV) (n : Nat) (a b : List UInt8) (i : Int) : LIx N (m + 1) c n a b i =
  (bif decide (i < (n : Int)) then
    (asks ([decide (0 ≤ i) && decide (i < (n : Int)), n == n, okAt KFr c (0 + i.toNat * 26)]) <|
    bif !((goodK 19 a b) (shapeAt KFr c (0 + i.toNat * 26))) then (asks [oldL 0 c] <| some (.tup [vI i, encS (st c n a b)]))
    else (asks [oldL 0 c] <| LIx N m c n a b (IntKind.i64.wrap (i + 1))))
  else (asks [oldL 0 c] <| some (.tup [vI (-1), encS (st c n a b)]))) := by kernel_rfl

/-- What is asked of what the closure holds. -/
def askX (a b : List UInt8) : Bool := true

theorem x_loop {N n : Nat} {R : List (List PV)} {a b : List UInt8} (hx : askX a b = true) (hR : rowsOk KFr R = true) (hl : R.length = n) (hn : n ≤ 1000000) : ∀ (k i q : Nat), i + k = n → LIx N (q + k + 1) R.flatten n a b (i : Int) = some (.tup [vI (idxI (idxN (goodK 19 a b) (R.drop i)) i), encS (st R.flatten n a b)])
  | 0, i, q, h => by
    have ho : ([oldL 0 R.flatten] : List Bool).all id = true := by
      simp [rows_old hR]
      try exact hx
    rw [x1, cond_f (show decide ((i : Int) < (n : Int)) = false from by simp; omega), asks_of ho, List.drop_eq_nil_of_le (by omega)]
    rfl
  | k + 1, i, q, h => by
    have hi : i < R.length := by omega
    have pa := rows_at hR hi
    have hrw := rowsOk_get hR (List.getElem_mem hi)
    have ho : ([oldL 0 R.flatten] : List Bool).all id = true := by
      simp [rows_old hR]
      try exact hx
    rw [show q + (k + 1) + 1 = (q + k + 1) + 1 from by omega, x1, cond_t (show decide ((i : Int) < (n : Int)) = true from by simp; omega)]
    simp only [Int.toNat_natCast]
    rw [show (26 : Nat) = (KFr).length from rfl, pa.2, pa.1, asks_of (by rw [inside (show i < n by omega)]; simp), List.drop_eq_getElem_cons hi, idxN]
    cases hg : (goodK 19 a b) R[i] with
    | false =>
      rw [Bool.not_false, cond_true, cond_true, asks_of ho]
      rfl
    | true =>
      rw [Bool.not_true, cond_false, cond_false, asks_of ho, wrap_succ (by omega : i < 9223372036854775807), x_loop hx hR hl hn k (i + 1) q (by omega), idxI_succ]
      try rfl

/-- The rows and what the closure holds, as they come. -/
def ob (d o : PV) : Option (Nat × Nat × Nat × List PV × List UInt8 × List UInt8) := match d, o with
  | .osl 0 n1 0 e n none, .tup [.tup [.agg c, .ptr e2 n2 0, .bool false, .bool false, .bool false], .tup [.agg [.str a, .str b], .ptr 2 1 0, .bool true, .bool false, .bool true]] =>
    bif Nat.beq e 26 && Nat.beq e2 26 then some (n, n1, n2, c, a, b) else none
  | _, _ => none

theorem ob_ok {d o : PV} {n n1 n2 : Nat} {c : List PV} {a b : List UInt8} (h : ob d o = some (n, n1, n2, c, a, b)) (h1 : n1 = n) (h2 : n2 = n) : d = .osl 0 n 0 26 n none ∧ o = encS (st c n a b) := by
  unfold ob at h
  split at h
  · rename_i m1 e m c' e2 m2 a' b'
    cases hb : Nat.beq e 26 && Nat.beq e2 26 with
    | false => rw [hb] at h; cases h
    | true =>
      rw [hb] at h
      cases h
      simp only [Bool.and_eq_true] at hb
      have k1 := Nat.eq_of_beq_eq_true hb.1
      have k2 := Nat.eq_of_beq_eq_true hb.2
      subst k1 h1 h2
      rw [k2]
      exact ⟨rfl, rfl⟩
  · cases h

def gIx (xs : List PV) : Option Tr := match xs with
  | [d, .fn (.func 34) [] [.ptr 1 1 0], o] => match ob d o with
    | some (n, n1, n2, c, a, b) => some (.leaf ((n1 == n) && ((n2 == n) && (askX a b && rowsC KFr n c))) (.tup [vI (idxI (idxN (goodK 19 a b) (chunks 26 n c)) 0), encS (st c n a b)]))
    | none => none
  | _ => none

theorem runIx (xs : List PV) (t : Tr) (v : PV) (h : gIx xs = some t) (hv : t.val = some v) : ∃ H, footSR EN T0 H 1000009 5 57 xs = some v := by
  refine ⟨H0, ?_⟩
  unfold gIx at h
  split at h
  · rename_i d o
    split at h
    · rename_i n n1 n2 c a b ho
      cases h
      obtain ⟨hc, rfl⟩ := leaf_val hv
      simp only [Bool.and_eq_true, beq_iff_eq] at hc
      obtain ⟨q1, q2, hx, hr⟩ := hc
      obtain ⟨rfl, rfl⟩ := ob_ok ho q1 q2
      obtain ⟨r1, r2, r3, r4⟩ := rowsC_ok hr
      refine (x0 1000009 c n a b).trans ?_
      have := x_loop (N := 1000009) (a := a) (b := b) hx r2 r4 r1 n 0 (1000008 - n) (by omega)
      rw [show 1000008 - n + n + 1 = 1000009 from by omega, r3] at this
      exact this
    · cases h
  · cases h

noncomputable def TIx : Table := TaddT T0 57 gIx
theorem TIxok : TR TIx := (TR0).addF TR0 runIx

def HDf : FuncId → Hint := fun f t => bif Nat.beq f 33 && Nat.beq t 41 then [some false] else []
def slDf (n : Nat) (z w j : Int) : List (Nat × PV) := [(0, .osl 0 n 0 26 n none), (1, fnc 1), (4, .nils), (5, vI w), (6, vI j), (8, .osl 0 n 0 26 n none), (9, fnc 1), (10, vI z), (11, vI z), (12, .bool false), (14, vI z), (15, vI (IntKind.i64.wrap (z + 1)))]
noncomputable def LDf (N m : Nat) (c : List PV) (n : Nat) (a b : List UInt8) (z w j : Int) : Option PV := loopSF EN TIx HDf N 5 2 33 Try.f33 [1, 1, 1, 0, 1, 0] (patOf (sparse 42 0 (slDf 0 0 0 0))) 2 m (sparse 42 0 (slDf n z w j)) (st c n a b)

def ZR : List PV := [.int .i64 0, .bool false, .int .u8 0, .int .u8 0, .int .u8 0, .int .u8 0, .int .u8 0, .int .u8 0, .int .u8 0, .int .u8 0, .int .u8 0, .int .u8 0, .int .u8 0, .int .u8 0, .int .u8 0, .int .u8 0, .int .u8 0, .int .u8 0, .int .i64 0, .str [], .str [], .str [], .int .i64 0, .bool false, .bool false, .int .i64 0]
def fin (c : List PV) (n : Nat) (a b : List UInt8) (w : Int) : Option PV :=
  asks [n == n && decide (0 + n * 26 ≤ c.length), decide (0 ≤ w) && decide (w ≤ ((n - 0 : Nat) : Int)), !(decide (0 = w.toNat) && decide (0 < 0)), oldL 0 c] <| some (.tup [.osl 0 n 0 26 (w.toNat - 0) none, encS (st c n a b)])
def exitD (c : List PV) (n : Nat) (a b : List UInt8) (w : Int) : Option PV :=
  asks [n == n && decide (0 + n * 26 ≤ c.length), decide (0 ≤ w) && decide (w ≤ (n : Int))] <|
  bif decide (w.toNat = n) && decide (0 < w.toNat) then fin c n a b w
  else bif decide (n - w.toNat = 0) then fin c n a b w
  else (asks [n == n && decide (0 + w.toNat * 26 + (repCells ZR (n - w.toNat)).length ≤ c.length)] <| fin (splice c (0 + w.toNat * 26) (repCells ZR (n - w.toNat))) n a b w)

theorem d1 (N m : Nat) (c : List PV) (n : Nat) (a b : List UInt8) (z w j : Int) : LDf N (m + 1) c n a b z w j =
  (bif decide (j < (n : Int)) then
    (asks ([decide (0 ≤ j) && decide (j < (n : Int)), n == n, okAt KFr c (0 + j.toNat * 26)]) <|
    bif !!((goodK 19 a b) (shapeAt KFr c (0 + j.toNat * 26))) then
      (asks [decide (0 ≤ w) && decide (w < (n : Int)), n == n && (26 == 26 && (decide (0 + w.toNat * 26 + 26 ≤ c.length) && (shapeAt KFr c (0 + j.toNat * 26)).all PV.oneCell))] <|
      asks [oldL 0 (splice c (0 + w.toNat * 26) (shapeAt KFr c (0 + j.toNat * 26)))] <|
      LDf N m (splice c (0 + w.toNat * 26) (shapeAt KFr c (0 + j.toNat * 26))) n a b z (IntKind.i64.wrap (w + 1)) (IntKind.i64.wrap (j + 1)))
    else (asks [oldL 0 c] <| LDf N m c n a b z w (IntKind.i64.wrap (j + 1))))
  else exitD c n a b w) := by kernel_rfl

theorem d0 (N : Nat) (c : List PV) (n : Nat) (a b : List UInt8) : footSR EN TIx HDf N 5 33 [.osl 0 n 0 26 n none, fnc 1, encS (st c n a b)] =
  (asks [oldL 0 c, (n == n) && ((n == n) && (askX a b && rowsC KFr n c)), oldL 0 c] <|
   bif idxI (idxN (goodK 19 a b) (chunks 26 n c)) 0 == -1 then (asks [oldL 0 c] <| some (.tup [.osl 0 n 0 26 n none, encS (st c n a b)]))
   else LDf N N c n a b (idxI (idxN (goodK 19 a b) (chunks 26 n c)) 0) (idxI (idxN (goodK 19 a b) (chunks 26 n c)) 0) (IntKind.i64.wrap (idxI (idxN (goodK 19 a b) (chunks 26 n c)) 0 + 1))) := by kernel_rfl

theorem d_loop {N n : Nat} {R : List (List PV)} {a b : List UInt8} {z : Int} (hx : askX a b = true) (hl : R.length = n) (hn : n ≤ 1000000) : ∀ (k j w q : Nat) (S : List (List PV)), j + k = n → rowsOk KFr S = true → Kept (goodK 19 a b) R S w j →
    ∃ S' w', rowsOk KFr S' = true ∧ Kept (goodK 19 a b) R S' w' R.length ∧ LDf N (q + k + 1) S.flatten n a b z (w : Int) (j : Int) = exitD S'.flatten n a b (w' : Int)
  | 0, j, w, q, S, h, hS, hk => by
    have e : j = R.length := by omega
    subst e
    refine ⟨S, w, hS, hk, ?_⟩
    rw [d1, cond_f (show decide (((R.length : Nat) : Int) < (n : Int)) = false from by simp; omega)]
  | k + 1, j, w, q, S, h, hS, hk => by
    have hj : j < R.length := by omega
    have hj' : j < S.length := by rw [hk.len]; exact hj
    have hwj := hk.le
    have hw : w < S.length := by omega
    have pa := rows_at hS hj'
    have hrow := rowsOk_get hS (List.getElem_mem hj')
    have hrw := hrow
    rw [show q + (k + 1) + 1 = (q + k + 1) + 1 from by omega, d1, cond_t (show decide ((j : Int) < (n : Int)) = true from by simp; omega)]
    simp only [Int.toNat_natCast]
    rw [show (26 : Nat) = (KFr).length from rfl, pa.2, pa.1, asks_of (by rw [inside (show j < n by omega)]; simp), hk.at hj]
    rw [hk.at hj] at hrow
    cases hg : (goodK 19 a b) R[j] with
    | true =>
      rw [Bool.not_true, Bool.not_false, cond_true]
      have hset : rowsOk KFr (S.set w R[j]) = true := rowsOk_set hS w hrow.1 hrow.2
      have hfl := flat_len hS hw
      have ho : ([oldL 0 (S.set w R[j]).flatten] : List Bool).all id = true := by
        simp [rows_old hset]
        try exact hx
      obtain ⟨S', w', r1, r2, r3⟩ := d_loop hx hl hn k (j + 1) (w + 1) q (S.set w R[j]) (by omega) hset (hk.in hj hg)
      refine ⟨S', w', r1, r2, ?_⟩
      rw [rows_splice hS hw (wk_len hrow.1), asks_of (by rw [inside (show w < n by rw [← hl, ← hk.len]; exact hw)]; simp only [hfl, wk_one hrow.1, beq_self_eq_true, decide_true, Bool.and_self, List.all_cons, List.all_nil, id]), asks_of ho, wrap_succ (by omega : w < 9223372036854775807), wrap_succ (by omega : j < 9223372036854775807)]
      exact r3
    | false =>
      have ho : ([oldL 0 S.flatten] : List Bool).all id = true := by
        simp [rows_old hS]
        try exact hx
      rw [Bool.not_false, Bool.not_true, cond_false]
      obtain ⟨S', w', r1, r2, r3⟩ := d_loop hx hl hn k (j + 1) w q S (by omega) hS (hk.out hj hg)
      refine ⟨S', w', r1, r2, ?_⟩
      rw [asks_of ho, wrap_succ (by omega : j < 9223372036854775807)]
      exact r3

theorem ZR_old : ∀ k, oldL 0 (List.replicate k ZR).flatten = true := fun k => rep_old (by rfl) k

/-- What is left: the rows that stay in front, zeros behind them. -/
theorem exit_ok {n w : Nat} {S : List (List PV)} {a b : List UInt8} (hx : askX a b = true) (hS : rowsOk KFr S = true) (hl : S.length = n) (hw : w ≤ n) :
    exitD S.flatten n a b (w : Int) = some (.tup [.osl 0 n 0 26 w none, encS (st (S.take w ++ List.replicate (n - w) ZR).flatten n a b)]) := by
  have hz : ZR.length = (KFr).length := rfl
  have lS := rows_len hS
  rw [hl, show (KFr).length = 26 from rfl] at lS
  have hsp := splice_rest hS hz (hl ▸ hw) (w := w)
  rw [hl, show (KFr).length = 26 from rfl] at hsp
  have hlen : (S.take w ++ List.replicate (n - w) ZR).flatten.length = n * 26 := by
    rw [List.flatten_append, List.length_append, flat_tl hS (by omega), rep_len, hz, show (KFr).length = 26 from rfl]
    exact mul_split hw
  have hold : oldL 0 (S.take w ++ List.replicate (n - w) ZR).flatten = true := by rw [List.flatten_append, oldL_append, rows_old (rowsOk_take hS w), ZR_old]; rfl
  have key : ∀ c : List PV, c.length = n * 26 → oldL 0 c = true → fin c n a b (w : Int) = some (.tup [.osl 0 n 0 26 w none, encS (st c n a b)]) := by
    intro c h1 h2
    have ho : ([n == n && decide (0 + n * 26 ≤ c.length), decide (0 ≤ (w : Int)) && decide ((w : Int) ≤ ((n - 0 : Nat) : Int)), !(decide (0 = (w : Int).toNat) && decide (0 < 0)), oldL 0 c] : List Bool).all id = true := by
      have a1 : decide (0 + n * 26 ≤ c.length) = true := by simp [h1]
      have a2 : (decide (0 ≤ (w : Int)) && decide ((w : Int) ≤ ((n - 0 : Nat) : Int))) = true := by simp; omega
      rw [a1, a2, h2]
      simp
      try exact hx
    unfold fin
    rw [asks_of ho]
    simp
  unfold exitD
  rw [asks_of (by simp [lS]; omega)]
  simp only [Int.toNat_natCast]
  by_cases e : w = n
  · subst e
    have t : S.take w ++ List.replicate (w - w) ZR = S := by rw [Nat.sub_self, List.take_of_length_le (by omega)]; simp
    rw [t]
    have k := key S.flatten lS (rows_old hS)
    cases decide (w = w) && decide (0 < w) with
    | true => exact k
    | false => rw [cond_false, cond_t (show decide (w - w = 0) = true from by simp)]; exact k
  · rw [cond_f (by simp [e]), cond_f (by simp; omega), hsp]
    have lr : (repCells ZR (n - w)).length = (n - w) * 26 := by rw [rep_cells, rep_len]; rfl
    rw [asks_of (by
      have := mul_split (e := 26) hw
      simp only [lr, lS, beq_self_eq_true, Bool.true_and, List.all_cons, List.all_nil, id, Bool.and_true, decide_eq_true_eq]
      omega)]
    exact key _ hlen hold

def dfC (n : Nat) (c : List PV) (a b : List UInt8) : List PV := ((chunks 26 n c).filter (goodK 19 a b) ++ List.replicate (n - ((chunks 26 n c).filter (goodK 19 a b)).length) ZR).flatten
def dfN (n : Nat) (c : List PV) (a b : List UInt8) : Nat := ((chunks 26 n c).filter (goodK 19 a b)).length

def gDf (xs : List PV) : Option Tr := match xs with
  | [d, .fn (.func 34) [] [.ptr 1 1 0], o] => match ob d o with
    | some (n, n1, n2, c, a, b) => some (.leaf ((n1 == n) && ((n2 == n) && (askX a b && rowsC KFr n c))) (.tup [.osl 0 n 0 26 (dfN n c a b) none, encS (st (dfC n c a b) n a b)]))
    | none => none
  | [.sl [] e 0 none, .fn (.func 34) [] [.ptr 0 1 0], .tup [.tup [.agg [.str a, .str b], .ptr 2 1 0, .bool true, .bool false, .bool true]]] =>
    some (.leaf (Nat.beq e 26 && askX a b) (.tup [.sl [] 26 0 none, encS [bxd a b]]))
  | _ => none

theorem dn1 (N : Nat) (a b : List UInt8) : footSR EN TIx HDf (N + 50) 5 33 [.sl [] 26 0 none, fnc 0, encS [bxd a b]] = some (.tup [.sl [] 26 0 none, encS [bxd a b]]) := by kernel_rfl

theorem runDf (xs : List PV) (t : Tr) (v : PV) (h : gDf xs = some t) (hv : t.val = some v) : ∃ H, footSR EN TIx H 1000009 5 33 xs = some v := by
  unfold gDf at h
  split at h
  · rename_i d o
    split at h
    · rename_i n n1 n2 c a b ho
      cases h
      obtain ⟨hc, rfl⟩ := leaf_val hv
      simp only [Bool.and_eq_true, beq_iff_eq] at hc
      obtain ⟨q1, q2, hx, hr⟩ := hc
      obtain ⟨rfl, rfl⟩ := ob_ok ho q1 q2
      obtain ⟨r1, r2, r3, r4⟩ := rowsC_ok hr
      rw [show (KFr).length = 26 from rfl] at r2 r3 r4
      refine ⟨HDf, (d0 1000009 c n a b).trans ?_⟩
      have o1 : oldL 0 c = true := by rw [← r3]; exact rows_old r2
      have hoA : ([oldL 0 c, (n == n) && ((n == n) && (askX a b && rowsC KFr n c)), oldL 0 c] : List Bool).all id = true := by
        simp [o1, hr, hx]
        try exact hx
      have hoB : ([oldL 0 c] : List Bool).all id = true := by
        simp [o1]
        try exact hx
      rw [asks_of hoA]
      have hxi := idxN_ok (goodK 19 a b) (chunks 26 n c)
      cases hi : idxN (goodK 19 a b) (chunks 26 n c) with
      | none =>
        rw [hi] at hxi
        have e : dfN n c a b = n ∧ dfC n c a b = c := by
          unfold dfN dfC
          rw [hxi, r4, Nat.sub_self]
          simp [r3]
        rw [e.1, e.2, cond_t (show (idxI (none : Option Nat) 0 == -1) = true from rfl), asks_of hoB]
      | some z =>
        rw [hi] at hxi
        obtain ⟨z1, z2, z3⟩ := hxi
        have e0 : idxI (some z) 0 = (z : Int) := by simp [idxI]
        rw [e0, cond_f (show ((z : Int) == -1) = false from by simp), wrap_succ (by omega : z < 9223372036854775807)]
        have hk := Kept.start z1 z2 z3
        obtain ⟨S', w', s1, s2, s3⟩ := d_loop (N := 1000009) (z := (z : Int)) (a := a) (b := b) hx r4 r1 (n - (z + 1)) (z + 1) z (1000008 - (n - (z + 1))) (chunks 26 n c) (by omega) r2 hk
        rw [show 1000008 - (n - (z + 1)) + (n - (z + 1)) + 1 = 1000009 from by omega, r3] at s3
        rw [s3]
        have hle := s2.le
        have hlS : S'.length = n := by rw [s2.len, r4]
        rw [exit_ok hx s1 hlS (by omega)]
        have ed := s2.done
        have ew : w' = dfN n c a b := by
          unfold dfN
          rw [← ed, List.length_take]
          omega
        unfold dfC
        rw [← ed, List.length_take, Nat.min_eq_left (by omega), ← ew]
    · cases h
  · rename_i e _
    cases h
    obtain ⟨hc, rfl⟩ := leaf_val hv
    simp only [Bool.and_eq_true] at hc
    rw [Nat.eq_of_beq_eq_true hc.1]
    refine ⟨HDf, (dn1 999959 _ _).trans ?_⟩
    rfl
  · cases h

end Go.Proofs.Ytbhgibpdhmlamaa.Am.DF
end

/- slices.IndexFunc, slices.DeleteFunc at linkboy/rules.Group, by what a closure says of a row: their walk and their answers. -/
section
set_option linter.unusedVariables false
set_option linter.unusedSimpArgs false
set_option maxRecDepth 100000
set_option maxHeartbeats 8000000
namespace Go.Proofs.Ytbhgibpdhmlamaa.Am.DG
open St

def bxd (a b : List UInt8) : Ob := bxN [.str a, .str b] 2
def st (c : List PV) (n : Nat) (a b : List UInt8) : Store := [.mem ⟨c, 8, n, false, false, false⟩, bxd a b]
def fnc (id : Nat) : PV := .fn (.func 36) [] [.ptr id 1 0]
def slIx (n : Nat) (i : Int) : List (Nat × PV) := [(0, .osl 0 n 0 8 n none), (1, fnc 1), (4, vI 0), (6, .osl 0 n 0 8 n none), (7, vI n), (8, vI i)]
noncomputable def LIx (N m : Nat) (c : List PV) (n : Nat) (a b : List UInt8) (i : Int) : Option PV := loopSF EN T0 H0 N 5 2 58 Try.f58 [1, 0, 1, 0] (patOf (sparse 19 0 (slIx 0 0))) 2 m (sparse 19 0 (slIx n i)) (st c n a b)

theorem x0 (N : Nat) (c : List PV) (n : Nat) (a b : List UInt8) : footSR EN T0 H0 N 5 58 [.osl 0 n 0 8 n none, fnc 1, encS (st c n a b)] = LIx N N c n a b 0 := by kernel_rfl

theorem x1 (N m : Nat) (c : List PV) (n : Nat) (a b : List UInt8) (i : Int) : LIx N (m + 1) c n a b i =
  (bif decide (i < (n : Int)) then
    (asks ([decide (0 ≤ i) && decide (i < (n : Int)), n == n, okAt KGr c (0 + i.toNat * 8)]) <|
    bif !((goodK 0 a b) (shapeAt KGr c (0 + i.toNat * 8))) then (asks [oldL 0 c] <| some (.tup [vI i, encS (st c n a b)]))
    else (asks [oldL 0 c] <| LIx N m c n a b (IntKind.i64.wrap (i + 1))))
  else (asks [oldL 0 c] <| some (.tup [vI (-1), encS (st c n a b)]))) := by kernel_rfl

/-- What is asked of what the closure holds. -/
def askX (a b : List UInt8) : Bool := true

theorem x_loop {N n : Nat} {R : List (List PV)} {a b : List UInt8} (hx : askX a b = true) (hR : rowsOk KGr R = true) (hl : R.length = n) (hn : n ≤ 1000000) : ∀ (k i q : Nat), i + k = n → LIx N (q + k + 1) R.flatten n a b (i : Int) = some (.tup [vI (idxI (idxN (goodK 0 a b) (R.drop i)) i), encS (st R.flatten n a b)])
  | 0, i, q, h => by
    have ho : ([oldL 0 R.flatten] : List Bool).all id = true := by
      simp [rows_old hR]
      try exact hx
    rw [x1, cond_f (show decide ((i : Int) < (n : Int)) = false from by simp; omega), asks_of ho, List.drop_eq_nil_of_le (by omega)]
    rfl
  | k + 1, i, q, h => by
    have hi : i < R.length := by omega
    have pa := rows_at hR hi
    have hrw := rowsOk_get hR (List.getElem_mem hi)
    have ho : ([oldL 0 R.flatten] : List Bool).all id = true := by
      simp [rows_old hR]
      try exact hx
    rw [show q + (k + 1) + 1 = (q + k + 1) + 1 from by omega, x1, cond_t (show decide ((i : Int) < (n : Int)) = true from by simp; omega)]
    simp only [Int.toNat_natCast]
    rw [show (8 : Nat) = (KGr).length from rfl, pa.2, pa.1, asks_of (by rw [inside (show i < n by omega)]; simp), List.drop_eq_getElem_cons hi, idxN]
    cases hg : (goodK 0 a b) R[i] with
    | false =>
      rw [Bool.not_false, cond_true, cond_true, asks_of ho]
      rfl
    | true =>
      rw [Bool.not_true, cond_false, cond_false, asks_of ho, wrap_succ (by omega : i < 9223372036854775807), x_loop hx hR hl hn k (i + 1) q (by omega), idxI_succ]
      try rfl

/-- The rows and what the closure holds, as they come. -/
def ob (d o : PV) : Option (Nat × Nat × Nat × List PV × List UInt8 × List UInt8) := match d, o with
  | .osl 0 n1 0 e n none, .tup [.tup [.agg c, .ptr e2 n2 0, .bool false, .bool false, .bool false], .tup [.agg [.str a, .str b], .ptr 2 1 0, .bool true, .bool false, .bool true]] =>
    bif Nat.beq e 8 && Nat.beq e2 8 then some (n, n1, n2, c, a, b) else none
  | _, _ => none

theorem ob_ok {d o : PV} {n n1 n2 : Nat} {c : List PV} {a b : List UInt8} (h : ob d o = some (n, n1, n2, c, a, b)) (h1 : n1 = n) (h2 : n2 = n) : d = .osl 0 n 0 8 n none ∧ o = encS (st c n a b) := by
  unfold ob at h
  split at h
  · rename_i m1 e m c' e2 m2 a' b'
    cases hb : Nat.beq e 8 && Nat.beq e2 8 with
    | false => rw [hb] at h; cases h
    | true =>
      rw [hb] at h
      cases h
      simp only [Bool.and_eq_true] at hb
      have k1 := Nat.eq_of_beq_eq_true hb.1
      have k2 := Nat.eq_of_beq_eq_true hb.2
      subst k1 h1 h2
      rw [k2]
      exact ⟨rfl, rfl⟩
  · cases h

def gIx (xs : List PV) : Option Tr := match xs with
  | [d, .fn (.func 36) [] [.ptr 1 1 0], o] => match ob d o with
    | some (n, n1, n2, c, a, b) => some (.leaf ((n1 == n) && ((n2 == n) && (askX a b && rowsC KGr n c))) (.tup [vI (idxI (idxN (goodK 0 a b) (chunks 8 n c)) 0), encS (st c n a b)]))
    | none => none
  | _ => none

theorem runIx (xs : List PV) (t : Tr) (v : PV) (h : gIx xs = some t) (hv : t.val = some v) : ∃ H, footSR EN T0 H 1000009 5 58 xs = some v := by
  refine ⟨H0, ?_⟩
  unfold gIx at h
  split at h
  · rename_i d o
    split at h
    · rename_i n n1 n2 c a b ho
      cases h
      obtain ⟨hc, rfl⟩ := leaf_val hv
      simp only [Bool.and_eq_true, beq_iff_eq] at hc
      obtain ⟨q1, q2, hx, hr⟩ := hc
      obtain ⟨rfl, rfl⟩ := ob_ok ho q1 q2
      obtain ⟨r1, r2, r3, r4⟩ := rowsC_ok hr
      refine (x0 1000009 c n a b).trans ?_
      have := x_loop (N := 1000009) (a := a) (b := b) hx r2 r4 r1 n 0 (1000008 - n) (by omega)
      rw [show 1000008 - n + n + 1 = 1000009 from by omega, r3] at this
      exact this
    · cases h
  · cases h

noncomputable def TIx : Table := TaddT T0 58 gIx
theorem TIxok : TR TIx := (TR0).addF TR0 runIx

def HDf : FuncId → Hint := fun f t => bif Nat.beq f 35 && Nat.beq t 41 then [some false] else []
def slDf (n : Nat) (z w j : Int) : List (Nat × PV) := [(0, .osl 0 n 0 8 n none), (1, fnc 1), (4, .nils), (5, vI w), (6, vI j), (8, .osl 0 n 0 8 n none), (9, fnc 1), (10, vI z), (11, vI z), (12, .bool false), (14, vI z), (15, vI (IntKind.i64.wrap (z + 1)))]
noncomputable def LDf (N m : Nat) (c : List PV) (n : Nat) (a b : List UInt8) (z w j : Int) : Option PV := loopSF EN TIx HDf N 5 2 35 Try.f35 [1, 1, 1, 0, 1, 0] (patOf (sparse 42 0 (slDf 0 0 0 0))) 2 m (sparse 42 0 (slDf n z w j)) (st c n a b)

def ZR : List PV := [.str [], .str [], .str [], .bool false, .bool false, .int .i64 0, .nils, .nils]
def fin (c : List PV) (n : Nat) (a b : List UInt8) (w : Int) : Option PV :=
  asks [n == n && decide (0 + n * 8 ≤ c.length), decide (0 ≤ w) && decide (w ≤ ((n - 0 : Nat) : Int)), !(decide (0 = w.toNat) && decide (0 < 0)), oldL 0 c] <| some (.tup [.osl 0 n 0 8 (w.toNat - 0) none, encS (st c n a b)])
def exitD (c : List PV) (n : Nat) (a b : List UInt8) (w : Int) : Option PV :=
  asks [n == n && decide (0 + n * 8 ≤ c.length), decide (0 ≤ w) && decide (w ≤ (n : Int))] <|
  bif decide (w.toNat = n) && decide (0 < w.toNat) then fin c n a b w
  else bif decide (n - w.toNat = 0) then fin c n a b w
  else (asks [n == n && decide (0 + w.toNat * 8 + (repCells ZR (n - w.toNat)).length ≤ c.length)] <| fin (splice c (0 + w.toNat * 8) (repCells ZR (n - w.toNat))) n a b w)

theorem d1 (N m : Nat) (c : List PV) (n : Nat) (a b : List UInt8) (z w j : Int) : LDf N (m + 1) c n a b z w j =
  (bif decide (j < (n : Int)) then
    (asks ([decide (0 ≤ j) && decide (j < (n : Int)), n == n, okAt KGr c (0 + j.toNat * 8)]) <|
    bif !!((goodK 0 a b) (shapeAt KGr c (0 + j.toNat * 8))) then
      (asks [decide (0 ≤ w) && decide (w < (n : Int)), n == n && (8 == 8 && (decide (0 + w.toNat * 8 + 8 ≤ c.length) && (shapeAt KGr c (0 + j.toNat * 8)).all PV.oneCell))] <|
      asks [oldL 0 (splice c (0 + w.toNat * 8) (shapeAt KGr c (0 + j.toNat * 8)))] <|
      LDf N m (splice c (0 + w.toNat * 8) (shapeAt KGr c (0 + j.toNat * 8))) n a b z (IntKind.i64.wrap (w + 1)) (IntKind.i64.wrap (j + 1)))
    else (asks [oldL 0 c] <| LDf N m c n a b z w (IntKind.i64.wrap (j + 1))))
  else exitD c n a b w) := by kernel_rfl

theorem d0 (N : Nat) (c : List PV) (n : Nat) (a b : List UInt8) : footSR EN TIx HDf N 5 35 [.osl 0 n 0 8 n none, fnc 1, encS (st c n a b)] =
  (asks [oldL 0 c, (n == n) && ((n == n) && (askX a b && rowsC KGr n c)), oldL 0 c] <|
   bif idxI (idxN (goodK 0 a b) (chunks 8 n c)) 0 == -1 then (asks [oldL 0 c] <| some (.tup [.osl 0 n 0 8 n none, encS (st c n a b)]))
   else LDf N N c n a b (idxI (idxN (goodK 0 a b) (chunks 8 n c)) 0) (idxI (idxN (goodK 0 a b) (chunks 8 n c)) 0) (IntKind.i64.wrap (idxI (idxN (goodK 0 a b) (chunks 8 n c)) 0 + 1))) := by kernel_rfl

theorem d_loop {N n : Nat} {R : List (List PV)} {a b : List UInt8} {z : Int} (hx : askX a b = true) (hl : R.length = n) (hn : n ≤ 1000000) : ∀ (k j w q : Nat) (S : List (List PV)), j + k = n → rowsOk KGr S = true → Kept (goodK 0 a b) R S w j →
    ∃ S' w', rowsOk KGr S' = true ∧ Kept (goodK 0 a b) R S' w' R.length ∧ LDf N (q + k + 1) S.flatten n a b z (w : Int) (j : Int) = exitD S'.flatten n a b (w' : Int)
  | 0, j, w, q, S, h, hS, hk => by
    have e : j = R.length := by omega
    subst e
    refine ⟨S, w, hS, hk, ?_⟩
    rw [d1, cond_f (show decide (((R.length : Nat) : Int) < (n : Int)) = false from by simp; omega)]
  | k + 1, j, w, q, S, h, hS, hk => by
    have hj : j < R.length := by omega
    have hj' : j < S.length := by rw [hk.len]; exact hj
    have hwj := hk.le
    have hw : w < S.length := by omega
    have pa := rows_at hS hj'
    have hrow := rowsOk_get hS (List.getElem_mem hj')
    have hrw := hrow
    rw [show q + (k + 1) + 1 = (q + k + 1) + 1 from by omega, d1, cond_t (show decide ((j : Int) < (n : Int)) = true from by simp; omega)]
    simp only [Int.toNat_natCast]
    rw [show (8 : Nat) = (KGr).length from rfl, pa.2, pa.1, asks_of (by rw [inside (show j < n by omega)]; simp), hk.at hj]
    rw [hk.at hj] at hrow
    cases hg : (goodK 0 a b) R[j] with
    | true =>
      rw [Bool.not_true, Bool.not_false, cond_true]
      have hset : rowsOk KGr (S.set w R[j]) = true := rowsOk_set hS w hrow.1 hrow.2
      have hfl := flat_len hS hw
      have ho : ([oldL 0 (S.set w R[j]).flatten] : List Bool).all id = true := by
        simp [rows_old hset]
        try exact hx
      obtain ⟨S', w', r1, r2, r3⟩ := d_loop hx hl hn k (j + 1) (w + 1) q (S.set w R[j]) (by omega) hset (hk.in hj hg)
      refine ⟨S', w', r1, r2, ?_⟩
      rw [rows_splice hS hw (wk_len hrow.1), asks_of (by rw [inside (show w < n by rw [← hl, ← hk.len]; exact hw)]; simp only [hfl, wk_one hrow.1, beq_self_eq_true, decide_true, Bool.and_self, List.all_cons, List.all_nil, id]), asks_of ho, wrap_succ (by omega : w < 9223372036854775807), wrap_succ (by omega : j < 9223372036854775807)]
      exact r3
    | false =>
      have ho : ([oldL 0 S.flatten] : List Bool).all id = true := by
        simp [rows_old hS]
        try exact hx
      rw [Bool.not_false, Bool.not_true, cond_false]
      obtain ⟨S', w', r1, r2, r3⟩ := d_loop hx hl hn k (j + 1) w q S (by omega) hS (hk.out hj hg)
      refine ⟨S', w', r1, r2, ?_⟩
      rw [asks_of ho, wrap_succ (by omega : j < 9223372036854775807)]
      exact r3

theorem ZR_old : ∀ k, oldL 0 (List.replicate k ZR).flatten = true := fun k => rep_old (by rfl) k

/-- What is left: the rows that stay in front, zeros behind them. -/
theorem exit_ok {n w : Nat} {S : List (List PV)} {a b : List UInt8} (hx : askX a b = true) (hS : rowsOk KGr S = true) (hl : S.length = n) (hw : w ≤ n) :
    exitD S.flatten n a b (w : Int) = some (.tup [.osl 0 n 0 8 w none, encS (st (S.take w ++ List.replicate (n - w) ZR).flatten n a b)]) := by
  have hz : ZR.length = (KGr).length := rfl
  have lS := rows_len hS
  rw [hl, show (KGr).length = 8 from rfl] at lS
  have hsp := splice_rest hS hz (hl ▸ hw) (w := w)
  rw [hl, show (KGr).length = 8 from rfl] at hsp
  have hlen : (S.take w ++ List.replicate (n - w) ZR).flatten.length = n * 8 := by
    rw [List.flatten_append, List.length_append, flat_tl hS (by omega), rep_len, hz, show (KGr).length = 8 from rfl]
    exact mul_split hw
  have hold : oldL 0 (S.take w ++ List.replicate (n - w) ZR).flatten = true := by rw [List.flatten_append, oldL_append, rows_old (rowsOk_take hS w), ZR_old]; rfl
  have key : ∀ c : List PV, c.length = n * 8 → oldL 0 c = true → fin c n a b (w : Int) = some (.tup [.osl 0 n 0 8 w none, encS (st c n a b)]) := by
    intro c h1 h2
    have ho : ([n == n && decide (0 + n * 8 ≤ c.length), decide (0 ≤ (w : Int)) && decide ((w : Int) ≤ ((n - 0 : Nat) : Int)), !(decide (0 = (w : Int).toNat) && decide (0 < 0)), oldL 0 c] : List Bool).all id = true := by
      have a1 : decide (0 + n * 8 ≤ c.length) = true := by simp [h1]
      have a2 : (decide (0 ≤ (w : Int)) && decide ((w : Int) ≤ ((n - 0 : Nat) : Int))) = true := by simp; omega
      rw [a1, a2, h2]
      simp
      try exact hx
    unfold fin
    rw [asks_of ho]
    simp
  unfold exitD
  rw [asks_of (by simp [lS]; omega)]
  simp only [Int.toNat_natCast]
  by_cases e : w = n
  · subst e
    have t : S.take w ++ List.replicate (w - w) ZR = S := by rw [Nat.sub_self, List.take_of_length_le (by omega)]; simp
    rw [t]
    have k := key S.flatten lS (rows_old hS)
    cases decide (w = w) && decide (0 < w) with
    | true => exact k
    | false => rw [cond_false, cond_t (show decide (w - w = 0) = true from by simp)]; exact k
  · rw [cond_f (by simp [e]), cond_f (by simp; omega), hsp]
    have lr : (repCells ZR (n - w)).length = (n - w) * 8 := by rw [rep_cells, rep_len]; rfl
    rw [asks_of (by
      have := mul_split (e := 8) hw
      simp only [lr, lS, beq_self_eq_true, Bool.true_and, List.all_cons, List.all_nil, id, Bool.and_true, decide_eq_true_eq]
      omega)]
    exact key _ hlen hold

def dfC (n : Nat) (c : List PV) (a b : List UInt8) : List PV := ((chunks 8 n c).filter (goodK 0 a b) ++ List.replicate (n - ((chunks 8 n c).filter (goodK 0 a b)).length) ZR).flatten
def dfN (n : Nat) (c : List PV) (a b : List UInt8) : Nat := ((chunks 8 n c).filter (goodK 0 a b)).length

def gDf (xs : List PV) : Option Tr := match xs with
  | [d, .fn (.func 36) [] [.ptr 1 1 0], o] => match ob d o with
    | some (n, n1, n2, c, a, b) => some (.leaf ((n1 == n) && ((n2 == n) && (askX a b && rowsC KGr n c))) (.tup [.osl 0 n 0 8 (dfN n c a b) none, encS (st (dfC n c a b) n a b)]))
    | none => none
  | [.sl [] e 0 none, .fn (.func 36) [] [.ptr 0 1 0], .tup [.tup [.agg [.str a, .str b], .ptr 2 1 0, .bool true, .bool false, .bool true]]] =>
    some (.leaf (Nat.beq e 8 && askX a b) (.tup [.sl [] 8 0 none, encS [bxd a b]]))
  | _ => none

theorem dn1 (N : Nat) (a b : List UInt8) : footSR EN TIx HDf (N + 50) 5 35 [.sl [] 8 0 none, fnc 0, encS [bxd a b]] = some (.tup [.sl [] 8 0 none, encS [bxd a b]]) := by kernel_rfl

theorem runDf (xs : List PV) (t : Tr) (v : PV) (h : gDf xs = some t) (hv : t.val = some v) : ∃ H, footSR EN TIx H 1000009 5 35 xs = some v := by
  unfold gDf at h
  split at h
  · rename_i d o
    split at h
    · rename_i n n1 n2 c a b ho
      cases h
      obtain ⟨hc, rfl⟩ := leaf_val hv
      simp only [Bool.and_eq_true, beq_iff_eq] at hc
      obtain ⟨q1, q2, hx, hr⟩ := hc
      obtain ⟨rfl, rfl⟩ := ob_ok ho q1 q2
      obtain ⟨r1, r2, r3, r4⟩ := rowsC_ok hr
      rw [show (KGr).length = 8 from rfl] at r2 r3 r4
      refine ⟨HDf, (d0 1000009 c n a b).trans ?_⟩
      have o1 : oldL 0 c = true := by rw [← r3]; exact rows_old r2
      have hoA : ([oldL 0 c, (n == n) && ((n == n) && (askX a b && rowsC KGr n c)), oldL 0 c] : List Bool).all id = true := by
        simp [o1, hr, hx]
        try exact hx
      have hoB : ([oldL 0 c] : List Bool).all id = true := by
        simp [o1]
        try exact hx
      rw [asks_of hoA]
      have hxi := idxN_ok (goodK 0 a b) (chunks 8 n c)
      cases hi : idxN (goodK 0 a b) (chunks 8 n c) with
      | none =>
        rw [hi] at hxi
        have e : dfN n c a b = n ∧ dfC n c a b = c := by
          unfold dfN dfC
          rw [hxi, r4, Nat.sub_self]
          simp [r3]
        rw [e.1, e.2, cond_t (show (idxI (none : Option Nat) 0 == -1) = true from rfl), asks_of hoB]
      | some z =>
        rw [hi] at hxi
        obtain ⟨z1, z2, z3⟩ := hxi
        have e0 : idxI (some z) 0 = (z : Int) := by simp [idxI]
        rw [e0, cond_f (show ((z : Int) == -1) = false from by simp), wrap_succ (by omega : z < 9223372036854775807)]
        have hk := Kept.start z1 z2 z3
        obtain ⟨S', w', s1, s2, s3⟩ := d_loop (N := 1000009) (z := (z : Int)) (a := a) (b := b) hx r4 r1 (n - (z + 1)) (z + 1) z (1000008 - (n - (z + 1))) (chunks 8 n c) (by omega) r2 hk
        rw [show 1000008 - (n - (z + 1)) + (n - (z + 1)) + 1 = 1000009 from by omega, r3] at s3
        rw [s3]
        have hle := s2.le
        have hlS : S'.length = n := by rw [s2.len, r4]
        rw [exit_ok hx s1 hlS (by omega)]
        have ed := s2.done
        have ew : w' = dfN n c a b := by
          unfold dfN
          rw [← ed, List.length_take]
          omega
        unfold dfC
        rw [← ed, List.length_take, Nat.min_eq_left (by omega), ← ew]
    · cases h
  · rename_i e _
    cases h
    obtain ⟨hc, rfl⟩ := leaf_val hv
    simp only [Bool.and_eq_true] at hc
    rw [Nat.eq_of_beq_eq_true hc.1]
    refine ⟨HDf, (dn1 999959 _ _).trans ?_⟩
    rfl
  · cases h

end Go.Proofs.Ytbhgibpdhmlamaa.Am.DG
end

/- slices.IndexFunc, slices.DeleteFunc at linkboy/rules.Filter, by what a closure says of a row: their walk and their answers. -/
section
set_option linter.unusedVariables false
set_option linter.unusedSimpArgs false
set_option maxRecDepth 100000
set_option maxHeartbeats 8000000
namespace Go.Proofs.Ytbhgibpdhmlamaa.Am.DI
open St

def bxd (a b : List UInt8) : Ob := bxN [.str a, .str b] 2
def st (c : List PV) (n : Nat) (a b : List UInt8) : Store := [.mem ⟨c, 3, n, false, false, false⟩, bxd a b]
def fnc (id : Nat) : PV := .fn (.func 38) [] [.ptr id 1 0]
def slIx (n : Nat) (i : Int) : List (Nat × PV) := [(0, .osl 0 n 0 3 n none), (1, fnc 1), (4, vI 0), (6, .osl 0 n 0 3 n none), (7, vI n), (8, vI i)]
noncomputable def LIx (N m : Nat) (c : List PV) (n : Nat) (a b : List UInt8) (i : Int) : Option PV := loopSF EN T0 H0 N 5 2 59 Try.f59 [1, 0, 1, 0] (patOf (sparse 19 0 (slIx 0 0))) 2 m (sparse 19 0 (slIx n i)) (st c n a b)

theorem x0 (N : Nat) (c : List PV) (n : Nat) (a b : List UInt8) : footSR EN T0 H0 N 5 59 [.osl 0 n 0 3 n none, fnc 1, encS (st c n a b)] = LIx N N c n a b 0 := by kernel_rfl

theorem x1 (N m : Nat) (c : List PV) (n : Nat) (a b : List UInt8) (i : Int) : LIx N (m + 1) c n a b i =
  (bif decide (i < (n : Int)) then
    (asks ([decide (0 ≤ i) && decide (i < (n : Int)), n == n, okAt KFi c (0 + i.toNat * 3)]) <|
    bif !((goodK 0 a b) (shapeAt KFi c (0 + i.toNat * 3))) then (asks [oldL 0 c] <| some (.tup [vI i, encS (st c n a b)]))
    else (asks [oldL 0 c] <| LIx N m c n a b (IntKind.i64.wrap (i + 1))))
  else (asks [oldL 0 c] <| some (.tup [vI (-1), encS (st c n a b)]))) := by kernel_rfl

/-- What is asked of what the closure holds. -/
def askX (a b : List UInt8) : Bool := true

theorem x_loop {N n : Nat} {R : List (List PV)} {a b : List UInt8} (hx : askX a b = true) (hR : rowsOk KFi R = true) (hl : R.length = n) (hn : n ≤ 1000000) : ∀ (k i q : Nat), i + k = n → LIx N (q + k + 1) R.flatten n a b (i : Int) = some (.tup [vI (idxI (idxN (goodK 0 a b) (R.drop i)) i), encS (st R.flatten n a b)])
  | 0, i, q, h => by
    have ho : ([oldL 0 R.flatten] : List Bool).all id = true := by
      simp [rows_old hR]
      try exact hx
    rw [x1, cond_f (show decide ((i : Int) < (n : Int)) = false from by simp; omega), asks_of ho, List.drop_eq_nil_of_le (by omega)]
    rfl
  | k + 1, i, q, h => by
    have hi : i < R.length := by omega
    have pa := rows_at hR hi
    have hrw := rowsOk_get hR (List.getElem_mem hi)
    have ho : ([oldL 0 R.flatten] : List Bool).all id = true := by
      simp [rows_old hR]
      try exact hx
    rw [show q + (k + 1) + 1 = (q + k + 1) + 1 from by omega, x1, cond_t (show decide ((i : Int) < (n : Int)) = true from by simp; omega)]
    simp only [Int.toNat_natCast]
    rw [show (3 : Nat) = (KFi).length from rfl, pa.2, pa.1, asks_of (by rw [inside (show i < n by omega)]; simp), List.drop_eq_getElem_cons hi, idxN]
    cases hg : (goodK 0 a b) R[i] with
    | false =>
      rw [Bool.not_false, cond_true, cond_true, asks_of ho]
      rfl
    | true =>
      rw [Bool.not_true, cond_false, cond_false, asks_of ho, wrap_succ (by omega : i < 9223372036854775807), x_loop hx hR hl hn k (i + 1) q (by omega), idxI_succ]
      try rfl

/-- The rows and what the closure holds, as they come. -/
def ob (d o : PV) : Option (Nat × Nat × Nat × List PV × List UInt8 × List UInt8) := match d, o with
  | .osl 0 n1 0 e n none, .tup [.tup [.agg c, .ptr e2 n2 0, .bool false, .bool false, .bool false], .tup [.agg [.str a, .str b], .ptr 2 1 0, .bool true, .bool false, .bool true]] =>
    bif Nat.beq e 3 && Nat.beq e2 3 then some (n, n1, n2, c, a, b) else none
  | _, _ => none

theorem ob_ok {d o : PV} {n n1 n2 : Nat} {c : List PV} {a b : List UInt8} (h : ob d o = some (n, n1, n2, c, a, b)) (h1 : n1 = n) (h2 : n2 = n) : d = .osl 0 n 0 3 n none ∧ o = encS (st c n a b) := by
  unfold ob at h
  split at h
  · rename_i m1 e m c' e2 m2 a' b'
    cases hb : Nat.beq e 3 && Nat.beq e2 3 with
    | false => rw [hb] at h; cases h
    | true =>
      rw [hb] at h
      cases h
      simp only [Bool.and_eq_true] at hb
      have k1 := Nat.eq_of_beq_eq_true hb.1
      have k2 := Nat.eq_of_beq_eq_true hb.2
      subst k1 h1 h2
      rw [k2]
      exact ⟨rfl, rfl⟩
  · cases h

def gIx (xs : List PV) : Option Tr := match xs with
  | [d, .fn (.func 38) [] [.ptr 1 1 0], o] => match ob d o with
    | some (n, n1, n2, c, a, b) => some (.leaf ((n1 == n) && ((n2 == n) && (askX a b && rowsC KFi n c))) (.tup [vI (idxI (idxN (goodK 0 a b) (chunks 3 n c)) 0), encS (st c n a b)]))
    | none => none
  | _ => none

theorem runIx (xs : List PV) (t : Tr) (v : PV) (h : gIx xs = some t) (hv : t.val = some v) : ∃ H, footSR EN T0 H 1000009 5 59 xs = some v := by
  refine ⟨H0, ?_⟩
  unfold gIx at h
  split at h
  · rename_i d o
    split at h
    · rename_i n n1 n2 c a b ho
      cases h
      obtain ⟨hc, rfl⟩ := leaf_val hv
      simp only [Bool.and_eq_true, beq_iff_eq] at hc
      obtain ⟨q1, q2, hx, hr⟩ := hc
      obtain ⟨rfl, rfl⟩ := ob_ok ho q1 q2
      obtain ⟨r1, r2, r3, r4⟩ := rowsC_ok hr
      refine (x0 1000009 c n a b).trans ?_
      have := x_loop (N := 1000009) (a := a) (b := b) hx r2 r4 r1 n 0 (1000008 - n) (by omega)
      rw [show 1000008 - n + n + 1 = 1000009 from by omega, r3] at this
      exact this
    · cases h
  · cases h

noncomputable def TIx : Table := TaddT T0 59 gIx
theorem TIxok : TR TIx := (TR0).addF TR0 runIx

def HDf : FuncId → Hint := fun f t => bif Nat.beq f 37 && Nat.beq t 41 then [some false] else []
def slDf (n : Nat) (z w j : Int) : List (Nat × PV) := [(0, .osl 0 n 0 3 n none), (1, fnc 1), (4, .nils), (5, vI w), (6, vI j), (8, .osl 0 n 0 3 n none), (9, fnc 1), (10, vI z), (11, vI z), (12, .bool false), (14, vI z), (15, vI (IntKind.i64.wrap (z + 1)))]
noncomputable def LDf (N m : Nat) (c : List PV) (n : Nat) (a b : List UInt8) (z w j : Int) : Option PV := loopSF EN TIx HDf N 5 2 37 Try.f37 [1, 1, 1, 0, 1, 0] (patOf (sparse 42 0 (slDf 0 0 0 0))) 2 m (sparse 42 0 (slDf n z w j)) (st c n a b)

def ZR : List PV := [.str [], .str [], .nils]
def fin (c : List PV) (n : Nat) (a b : List UInt8) (w : Int) : Option PV :=
  asks [n == n && decide (0 + n * 3 ≤ c.length), decide (0 ≤ w) && decide (w ≤ ((n - 0 : Nat) : Int)), !(decide (0 = w.toNat) && decide (0 < 0)), oldL 0 c] <| some (.tup [.osl 0 n 0 3 (w.toNat - 0) none, encS (st c n a b)])
def exitD (c : List PV) (n : Nat) (a b : List UInt8) (w : Int) : Option PV :=
  asks [n == n && decide (0 + n * 3 ≤ c.length), decide (0 ≤ w) && decide (w ≤ (n : Int))] <|
  bif decide (w.toNat = n) && decide (0 < w.toNat) then fin c n a b w
  else bif decide (n - w.toNat = 0) then fin c n a b w
  else (asks [n == n && decide (0 + w.toNat * 3 + (repCells ZR (n - w.toNat)).length ≤ c.length)] <| fin (splice c (0 + w.toNat * 3) (repCells ZR (n - w.toNat))) n a b w)

theorem d1 (N m : Nat) (c : List PV) (n : Nat) (a b : List UInt8) (z w j : Int) : LDf N (m + 1) c n a b z w j =
  (bif decide (j < (n : Int)) then
    (asks ([decide (0 ≤ j) && decide (j < (n : Int)), n == n, okAt KFi c (0 + j.toNat * 3)]) <|
    bif !!((goodK 0 a b) (shapeAt KFi c (0 + j.toNat * 3))) then
      (asks [decide (0 ≤ w) && decide (w < (n : Int)), n == n && (3 == 3 && (decide (0 + w.toNat * 3 + 3 ≤ c.length) && (shapeAt KFi c (0 + j.toNat * 3)).all PV.oneCell))] <|
      asks [oldL 0 (splice c (0 + w.toNat * 3) (shapeAt KFi c (0 + j.toNat * 3)))] <|
      LDf N m (splice c (0 + w.toNat * 3) (shapeAt KFi c (0 + j.toNat * 3))) n a b z (IntKind.i64.wrap (w + 1)) (IntKind.i64.wrap (j + 1)))
    else (asks [oldL 0 c] <| LDf N m c n a b z w (IntKind.i64.wrap (j + 1))))
  else exitD c n a b w) := by kernel_rfl

theorem d0 (N : Nat) (c : List PV) (n : Nat) (a b : List UInt8) : footSR EN TIx HDf N 5 37 [.osl 0 n 0 3 n none, fnc 1, encS (st c n a b)] =
  (asks [oldL 0 c, (n == n) && ((n == n) && (askX a b && rowsC KFi n c)), oldL 0 c] <|
   bif idxI (idxN (goodK 0 a b) (chunks 3 n c)) 0 == -1 then (asks [oldL 0 c] <| some (.tup [.osl 0 n 0 3 n none, encS (st c n a b)]))
   else LDf N N c n a b (idxI (idxN (goodK 0 a b) (chunks 3 n c)) 0) (idxI (idxN (goodK 0 a b) (chunks 3 n c)) 0) (IntKind.i64.wrap (idxI (idxN (goodK 0 a b) (chunks 3 n c)) 0 + 1))) := by kernel_rfl

theorem d_loop {N n : Nat} {R : List (List PV)} {a b : List UInt8} {z : Int} (hx : askX a b = true) (hl : R.length = n) (hn : n ≤ 1000000) : ∀ (k j w q : Nat) (S : List (List PV)), j + k = n → rowsOk KFi S = true → Kept (goodK 0 a b) R S w j →
    ∃ S' w', rowsOk KFi S' = true ∧ Kept (goodK 0 a b) R S' w' R.length ∧ LDf N (q + k + 1) S.flatten n a b z (w : Int) (j : Int) = exitD S'.flatten n a b (w' : Int)
  | 0, j, w, q, S, h, hS, hk => by
    have e : j = R.length := by omega
    subst e
    refine ⟨S, w, hS, hk, ?_⟩
    rw [d1, cond_f (show decide (((R.length : Nat) : Int) < (n : Int)) = false from by simp; omega)]
  | k + 1, j, w, q, S, h, hS, hk => by
    have hj : j < R.length := by omega
    have hj' : j < S.length := by rw [hk.len]; exact hj
    have hwj := hk.le
    have hw : w < S.length := by omega
    have pa := rows_at hS hj'
    have hrow := rowsOk_get hS (List.getElem_mem hj')
    have hrw := hrow
    rw [show q + (k + 1) + 1 = (q + k + 1) + 1 from by omega, d1, cond_t (show decide ((j : Int) < (n : Int)) = true from by simp; omega)]
    simp only [Int.toNat_natCast]
    rw [show (3 : Nat) = (KFi).length from rfl, pa.2, pa.1, asks_of (by rw [inside (show j < n by omega)]; simp), hk.at hj]
    rw [hk.at hj] at hrow
    cases hg : (goodK 0 a b) R[j] with
    | true =>
      rw [Bool.not_true, Bool.not_false, cond_true]
      have hset : rowsOk KFi (S.set w R[j]) = true := rowsOk_set hS w hrow.1 hrow.2
      have hfl := flat_len hS hw
      have ho : ([oldL 0 (S.set w R[j]).flatten] : List Bool).all id = true := by
        simp [rows_old hset]
        try exact hx
      obtain ⟨S', w', r1, r2, r3⟩ := d_loop hx hl hn k (j + 1) (w + 1) q (S.set w R[j]) (by omega) hset (hk.in hj hg)
      refine ⟨S', w', r1, r2, ?_⟩
      rw [rows_splice hS hw (wk_len hrow.1), asks_of (by rw [inside (show w < n by rw [← hl, ← hk.len]; exact hw)]; simp only [hfl, wk_one hrow.1, beq_self_eq_true, decide_true, Bool.and_self, List.all_cons, List.all_nil, id]), asks_of ho, wrap_succ (by omega : w < 9223372036854775807), wrap_succ (by omega : j < 9223372036854775807)]
      exact r3
    | false =>
      have ho : ([oldL 0 S.flatten] : List Bool).all id = true := by
        simp [rows_old hS]
        try exact hx
      rw [Bool.not_false, Bool.not_true, cond_false]
      obtain ⟨S', w', r1, r2, r3⟩ := d_loop hx hl hn k (j + 1) w q S (by omega) hS (hk.out hj hg)
      refine ⟨S', w', r1, r2, ?_⟩
      rw [asks_of ho, wrap_succ (by omega : j < 9223372036854775807)]
      exact r3

theorem ZR_old : ∀ k, oldL 0 (List.replicate k ZR).flatten = true := fun k => rep_old (by rfl) k

/-- What is left: the rows that stay in front, zeros behind them. -/
theorem exit_ok {n w : Nat} {S : List (List PV)} {a b : List UInt8} (hx : askX a b = true) (hS : rowsOk KFi S = true) (hl : S.length = n) (hw : w ≤ n) :
    exitD S.flatten n a b (w : Int) = some (.tup [.osl 0 n 0 3 w none, encS (st (S.take w ++ List.replicate (n - w) ZR).flatten n a b)]) := by
  have hz : ZR.length = (KFi).length := rfl
  have lS := rows_len hS
  rw [hl, show (KFi).length = 3 from rfl] at lS
  have hsp := splice_rest hS hz (hl ▸ hw) (w := w)
  rw [hl, show (KFi).length = 3 from rfl] at hsp
  have hlen : (S.take w ++ List.replicate (n - w) ZR).flatten.length = n * 3 := by
    rw [List.flatten_append, List.length_append, flat_tl hS (by omega), rep_len, hz, show (KFi).length = 3 from rfl]
    exact mul_split hw
  have hold : oldL 0 (S.take w ++ List.replicate (n - w) ZR).flatten = true := by rw [List.flatten_append, oldL_append, rows_old (rowsOk_take hS w), ZR_old]; rfl
  have key : ∀ c : List PV, c.length = n * 3 → oldL 0 c = true → fin c n a b (w : Int) = some (.tup [.osl 0 n 0 3 w none, encS (st c n a b)]) := by
    intro c h1 h2
    have ho : ([n == n && decide (0 + n * 3 ≤ c.length), decide (0 ≤ (w : Int)) && decide ((w : Int) ≤ ((n - 0 : Nat) : Int)), !(decide (0 = (w : Int).toNat) && decide (0 < 0)), oldL 0 c] : List Bool).all id = true := by
      have a1 : decide (0 + n * 3 ≤ c.length) = true := by simp [h1]
      have a2 : (decide (0 ≤ (w : Int)) && decide ((w : Int) ≤ ((n - 0 : Nat) : Int))) = true := by simp; omega
      rw [a1, a2, h2]
      simp
      try exact hx
    unfold fin
    rw [asks_of ho]
    simp
  unfold exitD
  rw [asks_of (by simp [lS]; omega)]
  simp only [Int.toNat_natCast]
  by_cases e : w = n
  · subst e
    have t : S.take w ++ List.replicate (w - w) ZR = S := by rw [Nat.sub_self, List.take_of_length_le (by omega)]; simp
    rw [t]
    have k := key S.flatten lS (rows_old hS)
    cases decide (w = w) && decide (0 < w) with
    | true => exact k
    | false => rw [cond_false, cond_t (show decide (w - w = 0) = true from by simp)]; exact k
  · rw [cond_f (by simp [e]), cond_f (by simp; omega), hsp]
    have lr : (repCells ZR (n - w)).length = (n - w) * 3 := by rw [rep_cells, rep_len]; rfl
    rw [asks_of (by
      have := mul_split (e := 3) hw
      simp only [lr, lS, beq_self_eq_true, Bool.true_and, List.all_cons, List.all_nil, id, Bool.and_true, decide_eq_true_eq]
      omega)]
    exact key _ hlen hold

def dfC (n : Nat) (c : List PV) (a b : List UInt8) : List PV := ((chunks 3 n c).filter (goodK 0 a b) ++ List.replicate (n - ((chunks 3 n c).filter (goodK 0 a b)).length) ZR).flatten
def dfN (n : Nat) (c : List PV) (a b : List UInt8) : Nat := ((chunks 3 n c).filter (goodK 0 a b)).length

def gDf (xs : List PV) : Option Tr := match xs with
  | [d, .fn (.func 38) [] [.ptr 1 1 0], o] => match ob d o with
    | some (n, n1, n2, c, a, b) => some (.leaf ((n1 == n) && ((n2 == n) && (askX a b && rowsC KFi n c))) (.tup [.osl 0 n 0 3 (dfN n c a b) none, encS (st (dfC n c a b) n a b)]))
    | none => none
  | [.sl [] e 0 none, .fn (.func 38) [] [.ptr 0 1 0], .tup [.tup [.agg [.str a, .str b], .ptr 2 1 0, .bool true, .bool false, .bool true]]] =>
    some (.leaf (Nat.beq e 3 && askX a b) (.tup [.sl [] 3 0 none, encS [bxd a b]]))
  | _ => none

theorem dn1 (N : Nat) (a b : List UInt8) : footSR EN TIx HDf (N + 50) 5 37 [.sl [] 3 0 none, fnc 0, encS [bxd a b]] = some (.tup [.sl [] 3 0 none, encS [bxd a b]]) := by kernel_rfl

theorem runDf (xs : List PV) (t : Tr) (v : PV) (h : gDf xs = some t) (hv : t.val = some v) : ∃ H, footSR EN TIx H 1000009 5 37 xs = some v := by
  unfold gDf at h
  split at h
  · rename_i d o
    split at h
    · rename_i n n1 n2 c a b ho
      cases h
      obtain ⟨hc, rfl⟩ := leaf_val hv
      simp only [Bool.and_eq_true, beq_iff_eq] at hc
      obtain ⟨q1, q2, hx, hr⟩ := hc
      obtain ⟨rfl, rfl⟩ := ob_ok ho q1 q2
      obtain ⟨r1, r2, r3, r4⟩ := rowsC_ok hr
      rw [show (KFi).length = 3 from rfl] at r2 r3 r4
      refine ⟨HDf, (d0 1000009 c n a b).trans ?_⟩
      have o1 : oldL 0 c = true := by rw [← r3]; exact rows_old r2
      have hoA : ([oldL 0 c, (n == n) && ((n == n) && (askX a b && rowsC KFi n c)), oldL 0 c] : List Bool).all id = true := by
        simp [o1, hr, hx]
        try exact hx
      have hoB : ([oldL 0 c] : List Bool).all id = true := by
        simp [o1]
        try exact hx
      rw [asks_of hoA]
      have hxi := idxN_ok (goodK 0 a b) (chunks 3 n c)
      cases hi : idxN (goodK 0 a b) (chunks 3 n c) with
      | none =>
        rw [hi] at hxi
        have e : dfN n c a b = n ∧ dfC n c a b = c := by
          unfold dfN dfC
          rw [hxi, r4, Nat.sub_self]
          simp [r3]
        rw [e.1, e.2, cond_t (show (idxI (none : Option Nat) 0 == -1) = true from rfl), asks_of hoB]
      | some z =>
        rw [hi] at hxi
        obtain ⟨z1, z2, z3⟩ := hxi
        have e0 : idxI (some z) 0 = (z : Int) := by simp [idxI]
        rw [e0, cond_f (show ((z : Int) == -1) = false from by simp), wrap_succ (by omega : z < 9223372036854775807)]
        have hk := Kept.start z1 z2 z3
        obtain ⟨S', w', s1, s2, s3⟩ := d_loop (N := 1000009) (z := (z : Int)) (a := a) (b := b) hx r4 r1 (n - (z + 1)) (z + 1) z (1000008 - (n - (z + 1))) (chunks 3 n c) (by omega) r2 hk
        rw [show 1000008 - (n - (z + 1)) + (n - (z + 1)) + 1 = 1000009 from by omega, r3] at s3
        rw [s3]
        have hle := s2.le
        have hlS : S'.length = n := by rw [s2.len, r4]
        rw [exit_ok hx s1 hlS (by omega)]
        have ed := s2.done
        have ew : w' = dfN n c a b := by
          unfold dfN
          rw [← ed, List.length_take]
          omega
        unfold dfC
        rw [← ed, List.length_take, Nat.min_eq_left (by omega), ← ew]
    · cases h
  · rename_i e _
    cases h
    obtain ⟨hc, rfl⟩ := leaf_val hv
    simp only [Bool.and_eq_true] at hc
    rw [Nat.eq_of_beq_eq_true hc.1]
    refine ⟨HDf, (dn1 999959 _ _).trans ?_⟩
    rfl
  · cases h

end Go.Proofs.Ytbhgibpdhmlamaa.Am.DI
end

/- rules.Of: the rows of a service. -/
section
set_option linter.unusedVariables false
set_option linter.unusedSimpArgs false
set_option maxRecDepth 100000
set_option maxHeartbeats 8000000
namespace Go.Proofs.Ytbhgibpdhmlamaa.Am
open St

noncomputable def TOf1 : Table := TaddT (TaddT T0 32 gCp) 33 DF.gDf
noncomputable def TOf2 : Table := TaddT TOf1 35 DG.gDf
noncomputable def TOfs : Table := TaddT TOf2 37 DI.gDf
theorem TOfsok : TR TOfs := ((okCp.addF DF.TIxok DF.runDf).addF DG.TIxok DG.runDf).addF DI.TIxok DI.runDf

def sealAskW (c : List PV) (n w es : Nat) : List Bool := [n == n && (decide (0 + w * es ≤ c.length) && (decide (0 < es) && ((c.drop 0).take (w * es)).all PV.calm))]
def sealD (b : Bool) (c : List PV) (w es : Nat) : PV := bif b then .sl ((c.drop 0).take (w * es)) es w none else .sl [] es 0 none
def ofT (r : Rw) (a b : List UInt8) (bf bg bi : Bool) : Option PV :=
  asks [r.ok] <| asks (ifb bf [oldL 0 r.fc]) <| asks (ifb bg [oldL 0 r.gc]) <| asks (ifb bi [oldL 0 r.ic]) <|
  asks (ifb bf [oldL 0 r.fc, r.nf == r.nf && (r.nf == r.nf && (DF.askX a b && rowsC KFr r.nf r.fc)), oldL 0 (DF.dfC r.nf r.fc a b)]) <|
  asks (ifb bg [oldL 0 r.gc, r.ng == r.ng && (r.ng == r.ng && (DG.askX a b && rowsC KGr r.ng r.gc)), oldL 0 (DG.dfC r.ng r.gc a b)]) <|
  asks (ifb bi [oldL 0 r.ic, r.ni == r.ni && (r.ni == r.ni && (DI.askX a b && rowsC KFi r.ni r.ic)), oldL 0 (DI.dfC r.ni r.ic a b)]) <|
  asks (ifb bf (sealAskW (DF.dfC r.nf r.fc a b) r.nf (DF.dfN r.nf r.fc a b) 26)) <|
  asks (ifb bg (sealAskW (DG.dfC r.ng r.gc a b) r.ng (DG.dfN r.ng r.gc a b) 8)) <|
  asks (ifb bi (sealAskW (DI.dfC r.ni r.ic a b) r.ni (DI.dfN r.ni r.ic a b) 3)) <|
  asks (ifb bf [oldL 0 (((DF.dfC r.nf r.fc a b).drop 0).take (DF.dfN r.nf r.fc a b * 26))]) <|
  asks (ifb bg [oldL 0 (((DG.dfC r.ng r.gc a b).drop 0).take (DG.dfN r.ng r.gc a b * 8))]) <|
  asks (ifb bi [oldL 0 (((DI.dfC r.ni r.ic a b).drop 0).take (DI.dfN r.ni r.ic a b * 3))]) <|
  some (.agg [sealD bf (DF.dfC r.nf r.fc a b) (DF.dfN r.nf r.fc a b) 26, sealD bg (DG.dfC r.ng r.gc a b) (DG.dfN r.ng r.gc a b) 8, sealD bi (DI.dfC r.ni r.ic a b) (DI.dfN r.ni r.ic a b) 3])

theorem tOf (N : Nat) (r : Rw) (a b : List UInt8) : apartS EN TOfs H0 N 5 18 [r.pv, .agg [.str a, .str b]] =
  (asks [oldL 0 r.fc, oldL 0 r.gc, oldL 0 r.ic] <| clB r.nf fun bf => clB r.ng fun bg => clB r.ni fun bi => ofT r a b bf bg bi) := by kernel_rfl

/-- Rows that stay in front of zeros. -/
def outC (n : Nat) (fl : List (List PV)) (Z : List PV) : List PV := (fl ++ List.replicate (n - fl.length) Z).flatten

theorem out_ok {K : List Kd} {Z : List PV} {fl : List (List PV)} {n : Nat} (h : rowsOk K fl = true) (hz : Z.length = K.length) (ho : oldL 0 Z = true) (hk : 0 < K.length) (hl : fl.length ≤ n) :
    oldL 0 (outC n fl Z) = true ∧ (sealAskW (outC n fl Z) n fl.length K.length).all id = true ∧ ((outC n fl Z).drop 0).take (fl.length * K.length) = fl.flatten := by
  have l1 := rows_len h
  have e : ((outC n fl Z).drop 0).take (fl.length * K.length) = fl.flatten := by
    unfold outC
    rw [List.drop_zero, List.flatten_append, ← l1, List.take_left]
  refine ⟨?_, ?_, e⟩
  · unfold outC
    rw [List.flatten_append, oldL_append, rows_old h, rep_old ho]
    rfl
  · unfold sealAskW
    rw [e]
    have : fl.length * K.length ≤ (outC n fl Z).length := by
      unfold outC
      rw [List.flatten_append, List.length_append, l1]
      omega
    simp only [beq_self_eq_true, Bool.true_and, List.all_cons, List.all_nil, id, Bool.and_true, Bool.and_eq_true, decide_eq_true_eq]
    exact ⟨by omega, hk, calm_old (rows_old h)⟩

theorem sealD_ok {K : List Kd} {Z : List PV} {R : List (List PV)} (p : List PV → Bool) {n : Nat} (h : rowsOk K R = true) (hl : R.length = n) (hz : Z.length = K.length) (ho : oldL 0 Z = true) (hk : 0 < K.length) :
    sealD (!Nat.beq n 0) (outC n (R.filter p) Z) (R.filter p).length K.length = .sl (R.filter p).flatten K.length (R.filter p).length none := by
  have hfl : (R.filter p).length ≤ n := hl ▸ List.length_filter_le p R
  have := (out_ok (Z := Z) (rowsOk_filter h p) hz ho hk hfl).2.2
  unfold sealD
  cases hb : Nat.beq n 0 with
  | true =>
    have hn := Nat.eq_of_beq_eq_true hb
    have hr : R = [] := List.eq_nil_of_length_eq_zero (by omega)
    rw [hr]
    rfl
  | false => rw [Bool.not_false, cond_true, this]

def gOfs (xs : List PV) : Option (Bool × PV) := match xs with
  | [x, .agg [.str a, .str b]] => (asRw x).map fun r => (r.ok, (r.part a b).pv)
  | _ => none

theorem runOfs (xs : List PV) (v : PV) (h : gOfs xs = some (true, v)) : ∃ H, apartS EN TOfs H 1000009 5 18 xs = some v := by
  unfold gOfs at h
  split at h
  · rename_i x a b
    simp only [Option.map_eq_some_iff, Prod.mk.injEq] at h
    obtain ⟨r, hr, hk, rfl⟩ := h
    rw [asRw_ok hr]
    refine ⟨H0, (tOf 1000009 r a b).trans ?_⟩
    have h := Rw.lists hk
    have fo := rows_oldn h.f
    have go := rows_oldn h.g
    have io := rows_oldn h.i
    rw [h.fc] at fo
    rw [h.gc] at go
    rw [h.ic] at io
    have hC := Rw.ok_0 hk
    unfold Rw.ok0 at hC
    simp only [Bool.and_eq_true] at hC
    obtain ⟨c1, c2, c3⟩ := hC
    have f1 := out_ok (Z := DF.ZR) (n := r.nf) (rowsOk_filter h.f (goodK 19 a b)) rfl rfl (by decide) (h.nf ▸ List.length_filter_le _ _)
    have g1 := out_ok (Z := DG.ZR) (n := r.ng) (rowsOk_filter h.g (goodK 0 a b)) rfl rfl (by decide) (h.ng ▸ List.length_filter_le _ _)
    have i1 := out_ok (Z := DI.ZR) (n := r.ni) (rowsOk_filter h.i (goodK 0 a b)) rfl rfl (by decide) (h.ni ▸ List.length_filter_le _ _)
    have f2 := sealD_ok (Z := DF.ZR) (goodK 19 a b) h.f h.nf rfl rfl (by decide)
    have g2 := sealD_ok (Z := DG.ZR) (goodK 0 a b) h.g h.ng rfl rfl (by decide)
    have i2 := sealD_ok (Z := DI.ZR) (goodK 0 a b) h.i h.ni rfl rfl (by decide)
    rw [asks_of (by simp only [fo, go, io, List.all_cons, List.all_nil, id, Bool.and_true]), clB_of, clB_of, clB_of, nob, nob, nob]
    unfold ofT
    rw [show DF.dfC r.nf r.fc a b = outC r.nf (r.F.filter (goodK 19 a b)) DF.ZR from rfl, show DG.dfC r.ng r.gc a b = outC r.ng (r.G.filter (goodK 0 a b)) DG.ZR from rfl, show DI.dfC r.ni r.ic a b = outC r.ni (r.I.filter (goodK 0 a b)) DI.ZR from rfl,
      show DF.dfN r.nf r.fc a b = (r.F.filter (goodK 19 a b)).length from rfl, show DG.dfN r.ng r.gc a b = (r.G.filter (goodK 0 a b)).length from rfl, show DI.dfN r.ni r.ic a b = (r.I.filter (goodK 0 a b)).length from rfl]
    rw [show KFr.length = 26 from rfl] at f1 f2
    rw [show KGr.length = 8 from rfl] at g1 g2
    rw [show KFi.length = 3 from rfl] at i1 i2
    have o1 := rows_old (rowsOk_filter h.f (goodK 19 a b))
    have o2 := rows_old (rowsOk_filter h.g (goodK 0 a b))
    have o3 := rows_old (rowsOk_filter h.i (goodK 0 a b))
    rw [f1.2.2, g1.2.2, i1.2.2, f2, g2, i2]
    have ifk : ∀ (b : Bool) (l : List Bool), l.all id = true → (ifb b l).all id = true := fun b l hl => by cases b <;> first | rfl | exact hl
    rw [asks_of (by simp only [hk, List.all_cons, List.all_nil, id, Bool.and_true]), asks_of (ifk _ _ (by simp [fo])), asks_of (ifk _ _ (by simp [go])), asks_of (ifk _ _ (by simp [io])),
      asks_of (ifk _ _ (by simp [fo, c1, f1.1, DF.askX])), asks_of (ifk _ _ (by simp [go, c2, g1.1, DG.askX])), asks_of (ifk _ _ (by simp [io, c3, i1.1, DI.askX])),
      asks_of (ifk _ _ f1.2.1), asks_of (ifk _ _ g1.2.1), asks_of (ifk _ _ i1.2.1), asks_of (ifk _ _ (by simp [o1])), asks_of (ifk _ _ (by simp [o2])), asks_of (ifk _ _ (by simp [o3]))]
    rfl
  · cases h

end Go.Proofs.Ytbhgibpdhmlamaa.Am
end

/- Loops that lay rows behind those that are there. -/
section
set_option linter.unusedVariables false
set_option linter.unusedSimpArgs false
set_option maxRecDepth 100000
namespace Go.Proofs.Ytbhgibpdhmlamaa.Am
open St

theorem beqn {n : Nat} (h : n ≠ 0) : Nat.beq n 0 = false := by cases n <;> first | rfl | exact absurd rfl h

theorem growA {K : List Kd} {A : List (List PV)} (hA : rowsOk K A = true) (hn : A.length + 1 ≤ 1000000) (x : List PV) (Kf : List PV → Nat → Option PV) :
    grow (!Nat.beq A.length 0) A.flatten A.length K.length x Kf = Kf (A ++ [x]).flatten (A.length + 1) := by
  have hl := rows_len hA
  cases A with
  | nil =>
    show Kf x 1 = _
    simp
  | cons a A =>
    have hb : (!Nat.beq (a :: A).length 0) = true := rfl
    rw [hb]
    unfold grow
    rw [asks_of (by
      simp only [beq_self_eq_true, hl, List.all_cons, List.all_nil, id, Bool.and_true, Bool.true_and, Bool.and_eq_true, decide_eq_true_eq, Bool.not_eq_true', decide_eq_false_iff_not]
      omega), ← hl, List.take_length, List.flatten_append]
    simp

theorem rowsOk_append {K : List Kd} {A B : List (List PV)} (h : rowsOk K A = true) (k : rowsOk K B = true) : rowsOk K (A ++ B) = true := by
  unfold rowsOk at h k ⊢
  rw [List.all_append, h, k]
  rfl

theorem rowsOk_map {K : List Kd} {R : List (List PV)} {g : List PV → List PV} (hg : ∀ x ∈ R, wk K (g x) = true ∧ oldL 0 (g x) = true) : rowsOk K (R.map g) = true := by
  unfold rowsOk
  rw [List.all_eq_true]
  intro y hy
  obtain ⟨x, hx, rfl⟩ := List.mem_map.1 hy
  simp only [(hg x hx).1, (hg x hx).2, Bool.and_self]

theorem accG {K : List Kd} {es n : Nat} (he : es = K.length) {A R : List (List PV)} {g : List PV → List PV} (hA : rowsOk K A = true) (hg : ∀ x ∈ R, wk K (g x) = true ∧ oldL 0 (g x) = true) (hl : R.length = n) (hn : A.length + n ≤ 1000000)
    {L : Nat → Bool → Int → List PV → Nat → Option PV} {e : Bool → Int → List PV → Nat → Option PV} {row : Int → List PV} {P : Bool → Int → List Bool} {Q : List Bool}
    (ht : ∀ q b i ac k, (A = [] ∨ b = true) → L (q + 1) b i ac k = bif decide (i < (n : Int)) then asks (P b i) (grow b ac k es (row i) fun ac' k' => asks Q <| asks [oldL 0 ac'] <| L q true (IntKind.i64.wrap (i + 1)) ac' k') else e b i ac k)
    (hP : ∀ b (i : Nat), i < n → (P b (i : Int)).all id = true) (hrow : ∀ (i : Nat) (hi : i < R.length), row (i : Int) = g R[i]) (hQ : Q.all id = true) :
    ∀ (k i q : Nat), i + k = n → L (q + k + 1) (!Nat.beq (A.length + i) 0) (i : Int) (A ++ (R.take i).map g).flatten (A.length + i) = e (!Nat.beq (A.length + n) 0) (n : Int) (A ++ R.map g).flatten (A.length + n)
  | 0, i, q, h => by
    have hi : i = n := by omega
    subst hi
    have hb : A = [] ∨ (!Nat.beq (A.length + i) 0) = true := by
      cases A with
      | nil => exact Or.inl rfl
      | cons a A => exact Or.inr (by rw [beqn (by simp)]; rfl)
    rw [ht _ _ _ _ _ hb, cond_f (show decide ((i : Int) < (i : Int)) = false from by simp), ← hl, List.take_length]
  | k + 1, i, q, h => by
    have hi : i < R.length := by omega
    have hb : A = [] ∨ (!Nat.beq (A.length + i) 0) = true := by
      cases A with
      | nil => exact Or.inl rfl
      | cons a A => exact Or.inr (by rw [beqn (by simp)]; rfl)
    have hA' : rowsOk K (A ++ (R.take i).map g) = true := rowsOk_append hA (rowsOk_map fun x hx => hg x (List.mem_of_mem_take hx))
    have hlen : (A ++ (R.take i).map g).length = A.length + i := by rw [List.length_append, List.length_map, List.length_take, Nat.min_eq_left (by omega)]
    have hnx : A ++ (R.take i).map g ++ [g R[i]] = A ++ (R.take (i + 1)).map g := by rw [List.take_succ_eq_append_getElem hi, List.map_append, List.append_assoc]; rfl
    have hA2 : rowsOk K (A ++ (R.take (i + 1)).map g) = true := rowsOk_append hA (rowsOk_map fun x hx => hg x (List.mem_of_mem_take hx))
    have hgr := growA hA' (by rw [hlen]; omega) (g R[i])
    rw [hlen, hnx] at hgr
    rw [show q + (k + 1) + 1 = (q + k + 1) + 1 from by omega, ht _ _ _ _ _ hb, cond_t (show decide ((i : Int) < (n : Int)) = true from by simp; omega), asks_of (hP _ i (by omega)), hrow i hi, he, hgr]
    rw [asks_of hQ, asks_of (by simp only [rows_old hA2, List.all_cons, List.all_nil, id, Bool.and_self]), wrap_succ (by omega : i < 9223372036854775807)]
    have ih := accG he hA hg hl hn ht hP hrow hQ k (i + 1) q (by omega)
    rw [show (!Nat.beq (A.length + (i + 1)) 0) = true from by rw [beqn (by omega)]; rfl, show A.length + (i + 1) = A.length + i + 1 from rfl] at ih
    exact ih

theorem accG_run {K : List Kd} {es n : Nat} (he : es = K.length) {A R : List (List PV)} {g : List PV → List PV} (hA : rowsOk K A = true) (hg : ∀ x ∈ R, wk K (g x) = true ∧ oldL 0 (g x) = true) (hl : R.length = n) (hn : A.length + n ≤ 1000000)
    {L : Nat → Bool → Int → List PV → Nat → Option PV} {e : Bool → Int → List PV → Nat → Option PV} {row : Int → List PV} {P : Bool → Int → List Bool} {Q : List Bool}
    (ht : ∀ q b i ac k, (A = [] ∨ b = true) → L (q + 1) b i ac k = bif decide (i < (n : Int)) then asks (P b i) (grow b ac k es (row i) fun ac' k' => asks Q <| asks [oldL 0 ac'] <| L q true (IntKind.i64.wrap (i + 1)) ac' k') else e b i ac k)
    (hP : ∀ b (i : Nat), i < n → (P b (i : Int)).all id = true) (hrow : ∀ (i : Nat) (hi : i < R.length), row (i : Int) = g R[i]) (hQ : Q.all id = true) :
    L 1000009 (!Nat.beq A.length 0) 0 A.flatten A.length = e (!Nat.beq (A ++ R.map g).length 0) (n : Int) (A ++ R.map g).flatten (A ++ R.map g).length := by
  have := accG he hA hg hl hn ht hP hrow hQ n 0 (1000008 - n) (by omega)
  rw [show 1000008 - n + n + 1 = 1000009 from by omega] at this
  rw [show (A ++ R.map g).length = A.length + n from by rw [List.length_append, List.length_map, hl]]
  simpa using this

end Go.Proofs.Ytbhgibpdhmlamaa.Am
end

/- The law RulesParts: its walk. -/
section
set_option linter.unusedVariables false
set_option linter.unusedSimpArgs false
set_option maxRecDepth 100000
set_option maxHeartbeats 8000000
namespace Go.Proofs.Ytbhgibpdhmlamaa.Am
open St

noncomputable def TM2 : Table := Tadd TL2 17 gSortK
noncomputable def TM3 : Table := Tadd TM2 19 gSort
noncomputable def TM4 : Table := Tadd TM3 18 gOfs
noncomputable def TM5 : Table := Tadd TM4 13 gJoin
noncomputable def TM : Table := Tadd TM5 15 gSame

theorem TMok : TR TM := ((((((TQ2ok.yes.addT TR0 runLongT).add TRAok runSortK).add TSortok runSort).add TOfsok runOfs).add TJook runJoin).add TQ3ok runPS)

def accK (b : Bool) (id es k : Nat) : PV := bif b then .osl id k 0 es k none else .sl [] es 0 (some 0)
def HPt : FuncId → Hint := fun f t => bif Nat.beq f 4 && (Nat.beq t 29 || (Nat.beq t 43 || (Nat.beq t 56 || Nat.beq t 72))) then [none, some false] else []
def slQ (r : Rw) (b : Bool) (k : Nat) : List (Nat × PV) := [(0, r.pv), (1, .ptr 0 1 0), (2, .bool false), (3, accK b 1 2 k), (13, .bool true), (14, .bool false), (15, r.pv), (16, .bool false), (17, .sl [] 2 0 (some 0)), (18, .ptr 0 1 0), (19, .sl r.fc 26 r.nf none), (20, vI r.nf)]
def stQ (r : Rw) (b : Bool) (ac : List PV) (k : Nat) : Store := [bx r.pv.cells] ++ accO b ac 2 k
noncomputable def patQ (l : List (Nat × PV)) : List Bool := patOf (sparse 79 0 l)
noncomputable def LQ1 (N m : Nat) (r : Rw) (b : Bool) (i : Int) (ac : List PV) (k : Nat) : Option PV := loopS EN TM HPt N 5 4 Try.f4 [1, 1, 1, 1, 0, 1, 0] (patQ (slQ nilR false 0 ++ [(21, .nils)])) 1 m (sparse 79 0 (slQ r b k ++ [(21, vI i)])) (stQ r b ac k)
noncomputable def LQ2 (N m : Nat) (r : Rw) (e1 : Int) (c b : Bool) (i : Int) (ac : List PV) (k : Nat) : Option PV := loopS EN TM HPt N 5 4 Try.f4 [1, 1, 1, 1, 1, 0, 1, 0] (patQ (slQ nilR false 0 ++ [(21, .nils), (22, .nils), (31, .nils), (32, .nils), (33, .nils), (34, .nils)])) (nx c 1) m
  (sparse 79 0 (slQ r b k ++ [(21, vI e1), (22, .bool false), (31, .ptr 0 1 1), (32, .sl r.gc 8 r.ng none), (33, vI r.ng), (34, vI i)])) (stQ r b ac k)
noncomputable def LQ3 (N m : Nat) (r : Rw) (e1 e2 : Int) (c b : Bool) (i : Int) (ac : List PV) (k : Nat) : Option PV := loopS EN TM HPt N 5 4 Try.f4 [1, 1, 1, 1, 1, 1, 0, 1, 0] (patQ (slQ nilR false 0 ++ [(21, .nils), (22, .nils), (31, .nils), (32, .nils), (33, .nils), (34, .nils), (35, .nils), (45, .nils), (46, .nils), (47, .nils), (48, .nils)])) (nx c 1) m
  (sparse 79 0 (slQ r b k ++ [(21, vI e1), (22, .bool false), (31, .ptr 0 1 1), (32, .sl r.gc 8 r.ng none), (33, vI r.ng), (34, vI e2), (35, .bool false), (45, .ptr 0 1 2), (46, .sl r.ic 3 r.ni none), (47, vI r.ni), (48, vI i)])) (stQ r b ac k)
def slQ4 (r : Rw) (e1 e2 e3 : Int) (c : Bool) (k : Nat) (ks : List PV) (kn : Nat) (b : Bool) (kp : Nat) : List (Nat × PV) := [(0, r.pv), (1, .ptr 0 1 0), (2, .bool false), (3, accK c 1 2 k), (10, accK b (nx c 1) 3 kp), (13, .bool true), (14, .bool false), (15, r.pv), (16, .bool false), (17, .sl [] 2 0 (some 0)), (18, .ptr 0 1 0), (19, .sl r.fc 26 r.nf none), (20, vI r.nf), (21, vI e1), (22, .bool false), (31, .ptr 0 1 1), (32, .sl r.gc 8 r.ng none), (33, vI r.ng), (34, vI e2), (35, .bool false), (45, .ptr 0 1 2), (46, .sl r.ic 3 r.ni none), (47, vI r.ni), (48, vI e3), (49, .bool false), (58, .sl [] 3 0 (some 0)), (59, accK c 1 2 k), (60, .sl ks 2 kn none), (61, vI kn)]
noncomputable def LQ4 (N m : Nat) (r : Rw) (e1 e2 e3 : Int) (c : Bool) (ac : List PV) (k : Nat) (ks : List PV) (kn : Nat) (b : Bool) (i : Int) (pc : List PV) (kp : Nat) : Option PV := loopS EN TM HPt N 5 4 Try.f4 [1, 1, 1, 1, 1, 1, 1, 1, 0, 1, 0] (patQ (slQ4 nilR 0 0 0 false 0 [] 0 false 0 ++ [(62, .nils)])) (nx c 1) m
  (sparse 79 0 (slQ4 r e1 e2 e3 c k ks kn b kp ++ [(62, vI i)])) ([bx r.pv.cells] ++ ((bif c then [.mem ⟨ac, 2, k, false, true, false⟩] else []) ++ accO b pc 3 kp))

def kyRow (p : Nat) (x : List PV) : List PV := [.str (asS (x.getD p .nilp)), .str (asS (x.getD (p + 1) .nilp))]
def partRow (r : Rw) (x : List PV) : List PV := (r.so.part (asS (x.getD 0 .nilp)) (asS (x.getD 1 .nilp))).pv.cells

theorem tQ0 (N : Nat) (r : Rw) : apartS EN TM HPt N 5 4 [r.pv] =
  (asks (o3 0 r) <| bif gt r.nf 40 || (gt r.ng 40 || gt r.ni 40) then some (.bool true) else
   (asks [r.ok0] <| bif r.longR then some (.bool true) else LQ1 N N r false 0 [] 0)) := by kernel_rfl

theorem tQ1 (N m : Nat) (r : Rw) (b : Bool) (i : Int) (ac : List PV) (k : Nat) : LQ1 N (m + 1) r b i ac k =
  (bif decide (i < (r.nf : Int)) then
    (asks [decide (0 ≤ i) && decide (i < (r.nf : Int)), okAt KFr r.fc (i.toNat * 26)] <|
    grow b ac k 2 (kyRow 19 (shapeAt KFr r.fc (i.toNat * 26))) fun ac' k' =>
    asks (o3 1 r ++ (o3 1 r ++ ([oldL 1 r.fc] ++ o3 1 r))) <| asks [oldL 0 ac'] <| LQ1 N m r true (IntKind.i64.wrap (i + 1)) ac' k')
  else LQ2 N N r i b b 0 ac k) := by cases b <;> kernel_rfl

theorem tQ2 (N m : Nat) (r : Rw) (e1 : Int) (c b : Bool) (i : Int) (ac : List PV) (k : Nat) (h : (!c || b) = true) : LQ2 N (m + 1) r e1 c b i ac k =
  (bif decide (i < (r.ng : Int)) then
    (asks [decide (0 ≤ i) && decide (i < (r.ng : Int)), okAt KGr r.gc (i.toNat * 8)] <|
    grow b ac k 2 (kyRow 0 (shapeAt KGr r.gc (i.toNat * 8))) fun ac' k' =>
    asks (o3 (nx c 1) r ++ (o3 (nx c 1) r ++ ([oldL (nx c 1) r.fc, oldL (nx c 1) r.gc] ++ o3 (nx c 1) r))) <| asks [oldL 0 ac'] <| LQ2 N m r e1 c true (IntKind.i64.wrap (i + 1)) ac' k')
  else LQ3 N N r e1 i b b 0 ac k) := by cases c <;> cases b <;> first | (cases h; done) | kernel_rfl

noncomputable def exitQ (N : Nat) (r : Rw) (e1 e2 e3 : Int) (b : Bool) (ac : List PV) (k : Nat) : Option PV :=
  bif b then (asks (sealAsk ac k 2) <| asks [oldL 0 ((ac.drop 0).take (k * 2))] <| asks [Nat.beq 2 2 && rowsC KKy k ((ac.drop 0).take (k * 2))] <|
    LQ4 N N r e1 e2 e3 true ac k (sortU (chunks 2 k ((ac.drop 0).take (k * 2)))).flatten (sortU (chunks 2 k ((ac.drop 0).take (k * 2)))).length false 0 [] 0)
  else LQ4 N N r e1 e2 e3 false ac k [] 0 false 0 [] 0

theorem tQ3 (N m : Nat) (r : Rw) (e1 e2 : Int) (c b : Bool) (i : Int) (ac : List PV) (k : Nat) (h : (!c || b) = true) : LQ3 N (m + 1) r e1 e2 c b i ac k =
  (bif decide (i < (r.ni : Int)) then
    (asks [decide (0 ≤ i) && decide (i < (r.ni : Int)), okAt KFi r.ic (i.toNat * 3)] <|
    grow b ac k 2 (kyRow 0 (shapeAt KFi r.ic (i.toNat * 3))) fun ac' k' =>
    asks (o3 (nx c 1) r ++ (o3 (nx c 1) r ++ (o3 (nx c 1) r ++ o3 (nx c 1) r))) <| asks [oldL 0 ac'] <| LQ3 N m r e1 e2 c true (IntKind.i64.wrap (i + 1)) ac' k')
  else exitQ N r e1 e2 i b ac k) := by cases c <;> cases b <;> first | (cases h; done) | kernel_rfl

def finQ (x : Nat) (J r : Rw) : Option PV := asks (o3 x r) <| asks (o3 0 r) <| asks [r.ok] <| asks (o3 0 J.so) <| asks (o3 0 r.so) <| asks [J.so.ok && r.so.ok] <| some (.bool (J.so.same r.so))
def exit4 (r : Rw) (c b : Bool) (pc : List PV) (kp : Nat) : Option PV :=
  bif b then (asks (sealAsk pc kp 3) <| asks [oldL 0 ((pc.drop 0).take (kp * 3))] <| asks [Nat.beq 3 3 && (rowsC KRw kp ((pc.drop 0).take (kp * 3)) && joOk ((chunks 3 kp ((pc.drop 0).take (kp * 3))).map rwOf))] <|
    finQ (nx true (nx c 1)) (jo ((chunks 3 kp ((pc.drop 0).take (kp * 3))).map rwOf)) r)
  else finQ (nx c 1) (jo []) r

theorem tQ4 (N m : Nat) (r : Rw) (e1 e2 e3 : Int) (c : Bool) (ac : List PV) (k : Nat) (ks : List PV) (kn : Nat) (b : Bool) (i : Int) (pc : List PV) (kp : Nat) : LQ4 N (m + 1) r e1 e2 e3 c ac k ks kn b i pc kp =
  (bif decide (i < (kn : Int)) then
    (asks ([decide (0 ≤ i) && decide (i < (kn : Int)), okAt KKy ks (i.toNat * 2)] ++ (o3 (nx b (nx c 1) + 1) r ++ (o3 0 r ++ ([r.ok] ++ (o3 0 r.so ++ [r.so.ok]))))) <|
    grow b pc kp 3 (partRow r (shapeAt KKy ks (i.toNat * 2))) fun pc' kp' =>
    asks (o3 (nx c 1) r ++ (o3 (nx c 1) r ++ (o3 (nx c 1) r ++ ([oldL (nx c 1) ks] ++ (o3 (nx c 1) r ++ ifb c [oldL 0 ac]))))) <| asks [oldL 0 pc'] <|
    LQ4 N m r e1 e2 e3 c ac k ks kn true (IntKind.i64.wrap (i + 1)) pc' kp')
  else exit4 r c b pc kp) := by cases c <;> cases b <;> kernel_rfl

end Go.Proofs.Ytbhgibpdhmlamaa.Am
end

/- RulesParts holds at all rows that are well laid. -/
section
set_option linter.unusedVariables false
set_option linter.unusedSimpArgs false
set_option maxRecDepth 100000
set_option maxHeartbeats 8000000
namespace Go.Proofs.Ytbhgibpdhmlamaa.Am
open St

theorem kyRow_ok (p : Nat) (x : List PV) : wk KKy (kyRow p x) = true ∧ oldL 0 (kyRow p x) = true := ⟨rfl, rfl⟩
theorem kyP_row (p : Nat) (x : List PV) : kyP 0 (kyRow p x) = kyP p x := rfl

theorem partRow_ok {r : Rw} (h : r.ok = true) (x : List PV) : wk KRw (partRow r x) = true ∧ oldL 0 (partRow r x) = true := by
  obtain ⟨s0, _, _, _⟩ := so_ok h
  have lx := Rw.lists s0
  refine ⟨rfl, ?_⟩
  have e1 := rows_old (rowsOk_filter lx.f (goodK 19 (asS (x.getD 0 .nilp)) (asS (x.getD 1 .nilp))))
  have e2 := rows_old (rowsOk_filter lx.g (goodK 0 (asS (x.getD 0 .nilp)) (asS (x.getD 1 .nilp))))
  have e3 := rows_old (rowsOk_filter lx.i (goodK 0 (asS (x.getD 0 .nilp)) (asS (x.getD 1 .nilp))))
  show (oldL 0 _ && (oldL 0 _ && (oldL 0 _ && true))) = true
  rw [show (r.so.part (asS (x.getD 0 .nilp)) (asS (x.getD 1 .nilp))).fc = _ from rfl, show (r.so.part (asS (x.getD 0 .nilp)) (asS (x.getD 1 .nilp))).gc = _ from rfl, show (r.so.part (asS (x.getD 0 .nilp)) (asS (x.getD 1 .nilp))).ic = _ from rfl]
  show (oldL 0 (List.flatten _) && (oldL 0 (List.flatten _) && (oldL 0 (List.flatten _) && true))) = true
  exact (congr (congrArg and e1) (congr (congrArg and e2) (congr (congrArg and e3) rfl)))

theorem loops_ok {r : Rw} (h : r.ok = true) (hn : r.nf + r.ng + r.ni ≤ 1000000) : LQ1 1000009 1000009 r false 0 [] 0 =
    (let A := r.F.map (kyRow 19) ++ r.G.map (kyRow 0) ++ r.I.map (kyRow 0); exitQ 1000009 r (r.nf : Int) (r.ng : Int) (r.ni : Int) (!Nat.beq A.length 0) A.flatten A.length) := by
  have lx := Rw.lists h
  have oq : ∀ x, (o3 x r).all id = true := fun x => o3_ok h x
  have m1 := lx.mf
  have m2 := lx.mg
  have m3 := lx.mi
  have fo : ∀ x, oldL x r.fc = true := fun x => by rw [← lx.fc]; exact rows_oldn lx.f x
  have go : ∀ x, oldL x r.gc = true := fun x => by rw [← lx.gc]; exact rows_oldn lx.g x
  have g1 := accG_run (K := KKy) (es := 2) (n := r.nf) rfl (A := []) (R := r.F) (g := kyRow 19) rfl (fun x _ => kyRow_ok 19 x) lx.nf (by simpa using lx.mf)
    (L := fun q b i ac k => LQ1 1000009 q r b i ac k) (e := fun b i ac k => LQ2 1000009 1000009 r i b b 0 ac k) (row := fun i => kyRow 19 (shapeAt KFr r.fc (i.toNat * 26)))
    (P := fun b i => [decide (0 ≤ i) && decide (i < (r.nf : Int)), okAt KFr r.fc (i.toNat * 26)]) (Q := o3 1 r ++ (o3 1 r ++ ([oldL 1 r.fc] ++ o3 1 r)))
    (fun q b i ac k _ => tQ1 1000009 q r b i ac k)
    (fun b i hi => by
      have hi' : i < r.F.length := by rw [lx.nf]; exact hi
      rw [Int.toNat_natCast, ← lx.fc]
      exact cons_ok (inside hi) (cons_ok (rows_at0 lx.f hi').1 rfl))
    (fun i hi => by
      rw [Int.toNat_natCast, ← lx.fc, show (26 : Nat) = KFr.length from rfl, (rows_at0 lx.f hi).2])
    (all_app (oq 1) (all_app (oq 1) (all_app (cons_ok (fo 1) rfl) (oq 1))))
  have r1 : rowsOk KKy (r.F.map (kyRow 19)) = true := rowsOk_map fun x _ => kyRow_ok 19 x
  have l1 : (r.F.map (kyRow 19)).length = r.nf := by rw [List.length_map, lx.nf]
  rw [List.nil_append] at g1
  refine Eq.trans g1 ?_
  generalize hA1 : r.F.map (kyRow 19) = A1 at *
  have g2 := accG_run (K := KKy) (es := 2) (n := r.ng) rfl (A := A1) (R := r.G) (g := kyRow 0) r1 (fun x _ => kyRow_ok 0 x) lx.ng (by omega)
    (L := fun q b i ac k => LQ2 1000009 q r (r.nf : Int) (!Nat.beq A1.length 0) b i ac k) (e := fun b i ac k => LQ3 1000009 1000009 r (r.nf : Int) i b b 0 ac k) (row := fun i => kyRow 0 (shapeAt KGr r.gc (i.toNat * 8)))
    (P := fun b i => [decide (0 ≤ i) && decide (i < (r.ng : Int)), okAt KGr r.gc (i.toNat * 8)]) (Q := o3 (nx (!Nat.beq A1.length 0) 1) r ++ (o3 (nx (!Nat.beq A1.length 0) 1) r ++ ([oldL (nx (!Nat.beq A1.length 0) 1) r.fc, oldL (nx (!Nat.beq A1.length 0) 1) r.gc] ++ o3 (nx (!Nat.beq A1.length 0) 1) r)))
    (fun q b i ac k hb => tQ2 1000009 q r (r.nf : Int) (!Nat.beq A1.length 0) b i ac k (by
      rcases hb with hb | hb
      · rw [hb]; rfl
      · rw [hb, Bool.or_true]))
    (fun b i hi => by
      have hi' : i < r.G.length := by rw [lx.ng]; exact hi
      rw [Int.toNat_natCast, ← lx.gc]
      exact cons_ok (inside hi) (cons_ok (rows_at0 lx.g hi').1 rfl))
    (fun i hi => by
      rw [Int.toNat_natCast, ← lx.gc, show (8 : Nat) = KGr.length from rfl, (rows_at0 lx.g hi).2])
    (all_app (oq _) (all_app (oq _) (all_app (cons_ok (fo _) (cons_ok (go _) rfl)) (oq _))))
  have r2 : rowsOk KKy (A1 ++ r.G.map (kyRow 0)) = true := rowsOk_append r1 (rowsOk_map fun x _ => kyRow_ok 0 x)
  have l2 : (A1 ++ r.G.map (kyRow 0)).length = r.nf + r.ng := by rw [List.length_append, List.length_map, l1, lx.ng]
  refine Eq.trans g2 ?_
  generalize hA2 : A1 ++ r.G.map (kyRow 0) = A2 at *
  exact accG_run (K := KKy) (es := 2) (n := r.ni) rfl (A := A2) (R := r.I) (g := kyRow 0) r2 (fun x _ => kyRow_ok 0 x) lx.ni (by omega)
    (L := fun q b i ac k => LQ3 1000009 q r (r.nf : Int) (r.ng : Int) (!Nat.beq A2.length 0) b i ac k) (e := fun b i ac k => exitQ 1000009 r (r.nf : Int) (r.ng : Int) i b ac k) (row := fun i => kyRow 0 (shapeAt KFi r.ic (i.toNat * 3)))
    (P := fun b i => [decide (0 ≤ i) && decide (i < (r.ni : Int)), okAt KFi r.ic (i.toNat * 3)]) (Q := o3 (nx (!Nat.beq A2.length 0) 1) r ++ (o3 (nx (!Nat.beq A2.length 0) 1) r ++ (o3 (nx (!Nat.beq A2.length 0) 1) r ++ o3 (nx (!Nat.beq A2.length 0) 1) r)))
    (fun q b i ac k hb => tQ3 1000009 q r (r.nf : Int) (r.ng : Int) (!Nat.beq A2.length 0) b i ac k (by
      rcases hb with hb | hb
      · rw [hb]; rfl
      · rw [hb, Bool.or_true]))
    (fun b i hi => by
      have hi' : i < r.I.length := by rw [lx.ni]; exact hi
      rw [Int.toNat_natCast, ← lx.ic]
      exact cons_ok (inside hi) (cons_ok (rows_at0 lx.i hi').1 rfl))
    (fun i hi => by
      rw [Int.toNat_natCast, ← lx.ic, show (3 : Nat) = KFi.length from rfl, (rows_at0 lx.i hi).2])
    (all_app (oq _) (all_app (oq _) (all_app (oq _) (oq _))))

theorem loop4_ok {r : Rw} (h : r.ok = true) (e1 e2 e3 : Int) (c : Bool) {ac : List PV} (hac : oldL 0 ac = true) (k : Nat) {R : List (List PV)} (hR : rowsOk KKy R = true) (hn : R.length ≤ 1000000) :
    LQ4 1000009 1000009 r e1 e2 e3 c ac k R.flatten R.length false 0 [] 0 = exit4 r c (!Nat.beq (R.map (partRow r)).length 0) (R.map (partRow r)).flatten (R.map (partRow r)).length := by
  have oq : ∀ x, (o3 x r).all id = true := fun x => o3_ok h x
  obtain ⟨s0, _, _, _⟩ := so_ok h
  have hq : (ifb c [oldL 0 ac]).all id = true := by unfold ifb; cases c <;> simp [hac]
  have := accG_run (K := KRw) (es := 3) (n := R.length) rfl (A := []) (R := R) (g := partRow r) rfl (fun x _ => partRow_ok h x) rfl (by simpa using hn)
    (L := fun q b i ac' k' => LQ4 1000009 q r e1 e2 e3 c ac k R.flatten R.length b i ac' k') (e := fun b i ac' k' => exit4 r c b ac' k') (row := fun i => partRow r (shapeAt KKy R.flatten (i.toNat * 2)))
    (P := fun b i => [decide (0 ≤ i) && decide (i < (R.length : Int)), okAt KKy R.flatten (i.toNat * 2)] ++ (o3 (nx b (nx c 1) + 1) r ++ (o3 0 r ++ ([r.ok] ++ (o3 0 r.so ++ [r.so.ok])))))
    (Q := o3 (nx c 1) r ++ (o3 (nx c 1) r ++ (o3 (nx c 1) r ++ ([oldL (nx c 1) R.flatten] ++ (o3 (nx c 1) r ++ ifb c [oldL 0 ac])))))
    (fun q b i ac' k' _ => tQ4 1000009 q r e1 e2 e3 c ac k R.flatten R.length b i ac' k')
    (fun b i hi => by
      rw [Int.toNat_natCast]
      exact all_app (cons_ok (inside hi) (cons_ok (rows_at0 hR hi).1 rfl)) (all_app (oq _) (all_app (oq _) (all_app (cons_ok h rfl) (all_app (o3_ok s0 0) (cons_ok s0 rfl))))))
    (fun i hi => by
      rw [Int.toNat_natCast, show (2 : Nat) = KKy.length from rfl, (rows_at0 hR hi).2])
    (all_app (oq _) (all_app (oq _) (all_app (oq _) (all_app (cons_ok (rows_oldn hR _) rfl) (all_app (oq _) hq)))))
  rw [List.nil_append] at this
  exact this

theorem finQ_ok {r J : Rw} (h : r.ok = true) (hj : J.so = r.so) (x : Nat) : finQ x J r = some (.bool true) := by
  obtain ⟨s0, _, _, _⟩ := so_ok h
  unfold finQ
  rw [hj, asks_of (o3_ok h x), asks_of (o3_ok h 0), asks_of (ask1 h), asks_of (o3_ok s0 0), asks_of (o3_ok s0 0), asks_of (ask1 (by rw [s0]; rfl)), Rw.same_refl]

theorem exit4_ok {r : Rw} (h : r.ok = true) (c : Bool) {L : List (List PV)} (hL : rowsOk KRw L = true) (hn : L.length ≤ 1000000) (hj : joOk (L.map rwOf) = true) (hs : (jo (L.map rwOf)).so = r.so) :
    exit4 r c (!Nat.beq L.length 0) L.flatten L.length = some (.bool true) := by
  unfold exit4
  cases L with
  | nil => exact finQ_ok h hs _
  | cons x L =>
    have hb : (!Nat.beq (x :: L).length 0) = true := rfl
    obtain ⟨s1, s2, s3⟩ := seal_ok hL (by decide)
    rw [hb] at s1 s2
    have s1' : (sealAsk (x :: L).flatten (x :: L).length KRw.length).all id = true := s1
    have s2' : ([oldL 0 (((x :: L).flatten.drop 0).take ((x :: L).length * KRw.length))] : List Bool).all id = true := s2
    have l3 := rows_len hL
    rw [hb, cond_true, show (3 : Nat) = KRw.length from rfl]
    generalize x :: L = M at *
    rw [asks_of s1', asks_of s2', take_all _ l3, chunks_of hL, rowsC_of hL hn, hj, asks_of (ask1 (by rfl))]
    exact finQ_ok h hs _

theorem tailP {r : Rw} (hr : r.ok = true) {A : List (List PV)} (r1 : rowsOk KKy A = true) (hn : A.length ≤ 1000000) (hF : ∀ x ∈ r.F, kyRow 19 x ∈ A) (hG : ∀ x ∈ r.G, kyRow 0 x ∈ A) (hI : ∀ x ∈ r.I, kyRow 0 x ∈ A) (e1 e2 e3 : Int) :
    exitQ 1000009 r e1 e2 e3 (!Nat.beq A.length 0) A.flatten A.length = some (.bool true) := by
  obtain ⟨hk, hall⟩ := sortU_keys A
  have hso := sortU_ok r1
  have hlen : (sortU A).length ≤ A.length := by
    have := sortU_len A []
    rw [List.length_nil] at this
    exact Nat.le_trans this (by omega)
  obtain ⟨hj, hs⟩ := parts_so hr hk (fun x hx => by rw [← kyP_row]; exact hall _ (hF x hx)) (fun x hx => by rw [← kyP_row]; exact hall _ (hG x hx)) (fun x hx => by rw [← kyP_row]; exact hall _ (hI x hx))
  have em : ((sortU A).map (partRow r)).map rwOf = ((sortU A).map (kyP 0)).map fun k => r.so.part k.1 k.2 := by
    rw [List.map_map, List.map_map]
    rfl
  rw [← em] at hj hs
  have hP : rowsOk KRw ((sortU A).map (partRow r)) = true := rowsOk_map fun x _ => partRow_ok hr x
  have fin : ∀ (c : Bool) (ac : List PV) (k : Nat), oldL 0 ac = true → LQ4 1000009 1000009 r e1 e2 e3 c ac k (sortU A).flatten (sortU A).length false 0 [] 0 = some (.bool true) := by
    intro c ac k hac
    rw [loop4_ok hr _ _ _ c hac k hso (by omega)]
    exact exit4_ok hr c hP (by rw [List.length_map]; omega) hj hs
  clear hj hs em hP hk hall
  unfold exitQ
  cases hb : Nat.beq A.length 0 with
  | true =>
    have h0 : A = [] := List.eq_nil_of_length_eq_zero (Nat.eq_of_beq_eq_true hb)
    have e : (sortU A).flatten = [] ∧ (sortU A).length = 0 := by rw [h0]; exact ⟨rfl, rfl⟩
    rw [e.1, e.2] at fin
    rw [Bool.not_true, cond_false]
    exact fin false _ _ (rows_old r1)
  | false =>
    obtain ⟨s1, s2, s3⟩ := seal_ok r1 (by decide)
    rw [hb] at s1 s2
    have s1' : (sealAsk A.flatten A.length KKy.length).all id = true := s1
    have s2' : ([oldL 0 ((A.flatten.drop 0).take (A.length * KKy.length))] : List Bool).all id = true := s2
    have l2 := rows_len r1
    rw [Bool.not_false, cond_true, show (2 : Nat) = KKy.length from rfl, asks_of s1', asks_of s2', take_all _ l2, chunks_of r1, rowsC_of r1 hn, asks_of (ask1 (by rfl))]
    exact fin true _ _ (rows_old r1)

theorem holdsP {r : Rw} {F G I : List (List PV)} (W : WR r F G I) : apartS EN TM HPt 1000009 5 4 [r.pv] = some (.bool true) := by
  rw [tQ0, asks_of (W.old 0)]
  cases h1 : gt r.nf 40 || (gt r.ng 40 || gt r.ni 40) with
  | true => rfl
  | false =>
    cases h2 : r.longR with
    | true =>
      have h0 : r.ok0 = true := W.ok0 h1
      rw [cond_false, asks_of (ask1 h0), cond_true]
    | false =>
      have hr := W.ok h1 h2
      have lx := Rw.lists hr
      simp only [Bool.or_eq_false_iff] at h1
      obtain ⟨a1, a2, a3⟩ := h1
      have n1 := gt_false (k := 40) a1
      have n2 := gt_false (k := 40) a2
      have n3 := gt_false (k := 40) a3
      rw [cond_false, asks_of (ask1 (Rw.ok_0 hr)), cond_false, loops_ok hr (by omega)]
      refine tailP hr (rowsOk_append (rowsOk_append (rowsOk_map fun x _ => kyRow_ok 19 x) (rowsOk_map fun x _ => kyRow_ok 0 x)) (rowsOk_map fun x _ => kyRow_ok 0 x)) ?_ (fun x hx => ?_) (fun x hx => ?_) (fun x hx => ?_) _ _ _
      · rw [List.length_append, List.length_append, List.length_map, List.length_map, List.length_map, lx.nf, lx.ng, lx.ni]
        omega
      · exact List.mem_append_left _ (List.mem_append_left _ (List.mem_map.2 ⟨x, hx, rfl⟩))
      · exact List.mem_append_left _ (List.mem_append_right _ (List.mem_map.2 ⟨x, hx, rfl⟩))
      · exact List.mem_append_right _ (List.mem_map.2 ⟨x, hx, rfl⟩)

theorem lawP {r : Rw} {F G I : List (List PV)} (W : WR r F G I) : ∃ K, apartA EN (runA EN 1000009 K) 4 [r.pv] = some (.bool true) := by
  obtain ⟨K, hT⟩ := TMok
  exact ⟨_, apartS_ok (K := K) (d := 5) hT (by rfl) (holdsP W)⟩

end Go.Proofs.Ytbhgibpdhmlamaa.Am
end

/- linkboylaw22.RulesParts, as the given statement says: at all rows it returns true, and they read as they did. No condition beyond the given row. -/
section
set_option linter.unusedVariables false
set_option linter.unusedSimpArgs false
set_option maxRecDepth 100000
namespace Go.Proofs.Ytbhgibpdhmlamaa
open Go.ChangeShapes Go.WideShapes Go.ChangeAt Go.RowKit
open Am

section
variable {H : Type} {enc : TypeId × Value → H} {P : Program}

/-- What 'post' asks, where the old blocks stand as they stood. -/
theorem post_below {f : Func} {s : ChangeSpec} {apart fresh handsOn again : Bool} {W W' : World} {args : Array Value} {v : Value} {ds gs : List (DataW H)} {before pa pv : List MemPlace}
    (hW : DataW.Whole enc P f.params.toList s.vars apart W args.toList ds gs before)
    (hres : ∀ (b : Nat) (sp : Nat → Bool) (hd : Bool), DataW.TrodAll enc P W' b sp hd f.resultTypes.toList (v.resultList f.resultTypes.size) (s.fn H (ds ++ gs)).results [])
    (hargs : ∀ sp : Nat → Bool, (∀ p ∈ before, sp p.block = true) → DataW.TrodAll enc P W' 0 sp true f.params.toList args.toList (s.fn H (ds ++ gs)).args pa)
    (hvars : ∀ sp : Nat → Bool, (∀ p ∈ before, sp p.block = true) → DataW.TrodVars enc P W' sp s.vars (s.fn H (ds ++ gs)).vars pv)
    (hps : before = pa ++ pv) (hb : Below W.heap.size W W')
    (hok : ∀ (j : Nat) (t : TypeId) (r : Value), f.resultTypes[j]? = some t → (v.resultList f.resultTypes.size)[j]? = some r → Value.okWide P W' .any 0 t r) :
    s.post enc P f apart fresh handsOn again W args v W' := by
  have hlt : ∀ p ∈ before, p.block < W.heap.size := fun p hp => hW.lt p hp
  have hold : ∀ p ∈ before, (fun b => decide (b < W.heap.size)) p.block = true := fun p hp => by simpa using hlt p hp
  refine ⟨ds, gs, before, [], pa, pv, hW, hres _ _ _, hargs _ hold, hvars _ hold, World.keptBut_mono (fun p hp => ⟨hp, ?_⟩) (hb.frame (· ∈ before)), fun _ => ?_⟩
  · rw [hps, List.mem_append] at hp
    exact Or.inr hp
  · obtain ⟨_, _, _, _, _, hz, hn⟩ := hW
    refine ⟨hok, _, _, ([] ++ pa) ++ pv, ⟨[] ++ pa, pv, trodAll_append (hargs _ (fun _ _ => rfl)) (hres _ _ _), hvars _ (fun _ _ => rfl), rfl, ?_, ?_⟩, ?_⟩
    · intro b off hp
      have hin : MemPlace.cell b off ∈ before := by rw [hps]; simpa using hp
      rw [hb.frozen (hlt _ hin)]
      exact hz b off hin
    · intro ha
      have := hn ha
      rw [hps] at this
      simpa using this
    · intro p hp _
      rw [hps]
      simpa using hp
end

theorem own : ownKnob Try.prog.godebug = none := by kernel_rfl
theorem laid : laidOutB Try.prog = true := by kernel_rfl

/-- From an answer of the interpreter to the machine's. -/
theorem calls_of_apart {f : FuncId} {args : List PV} {vs : List Value} {p : PV} {w : World} {n k : Nat} (h : apartA EN (runA EN n k) f args = some p)
    (hr : Reps (fun b o => w.cell? ⟨b, o, none⟩) (fun _ => none) args vs) :
    Calls Try.prog f vs.toArray w fun e w' => ∃ r Γ ρ, e = .returned r ∧ Rep Γ ρ p r ∧ Below w.heap.size w w' := by
  have hR : Rel EN 0 (fun b o => w.cell? ⟨b, o, none⟩) (fun _ => none) [] w := ⟨fun b o v hv => hv, fun id l hl => (by cases hl), fun id l m hl => (by cases hl), fun i j li lj hi => (by cases hi), fun g cells hg => (by cases hg), ⟨fun b hb => (by obtain ⟨g, t, a, h, _⟩ := hb; cases h), fun g g' t t' a h1 => (by cases h1)⟩⟩
  obtain ⟨σ2, _, key⟩ := apartA_ok (EG_ok rowG_ok) (runA_ok (EG_ok rowG_ok) n k) h
  refine Calls.mono (key _ w vs hR hr) fun e w' he => ?_
  obtain ⟨r, e1, Γ, ρ, h1, h2, h3⟩ := he
  exact ⟨r, Γ, ρ, e1, h1, h3.os, h3.tape, h3.output.out, h3.size, fun b hb => h3.frame b hb fun id l hl => by cases hl⟩

/-- Rows of nothing. -/
def zeroR : Value := .agg #[.slice none 0 0, .slice none 0 0, .slice none 0 0]

theorem shapes : (match shOf Try.prog 9 26 with | some (.st [.sl e1 26, .sl e2 8, .sl e3 3]) => some (e1.kd, e1.sk, e2.kd, e2.sk, e3.kd, e3.sk) | _ => none) = some (KFr, List.replicate 26 none, KGr, [none, none, none, none, none, none, some KPt, some KIn], KFi, [none, none, some KPt]) := by kernel_rfl

/-- Rows among the arguments, what they read as. -/
theorem rows_rep' {H : Type} {enc : TypeId × Value → H} {W : World} {cs : Array Value} {d : DataW H} {ps : List MemPlace} (h : DataW.Trod enc Try.prog W 0 (fun _ => true) true 26 (.agg cs) d ps) :
    ∃ (r : Rw) (F G I : List (List PV)), WR r F G I ∧ Rep (memG W) (fun _ => none) r.pv (.agg cs) := by
  have hs := shapes
  split at hs
  · rename_i e1 e2 e3 hsh
    simp only [Option.some.injEq, Prod.mk.injEq] at hs
    obtain ⟨k1, s1, k2, s2, k3, s3⟩ := hs
    obtain ⟨fuel, hf⟩ := h
    obtain ⟨xs, h1, h2⟩ := trod_rep fuel 9 _ _ _ _ hsh hf
    simp only [Sh.Has, Sh.HasL] at h1
    obtain ⟨a, b, rfl, ⟨r1, rfl, p1⟩, a', b', rfl, ⟨r2, rfl, p2⟩, a'', b'', rfl, ⟨r3, rfl, p3⟩, rfl⟩ := h1
    obtain ⟨f1, f2, f3⟩ := rows_has r1 p1
    obtain ⟨g1, g2, g3⟩ := rows_has r2 p2
    obtain ⟨i1, i2, i3⟩ := rows_has r3 p3
    rw [k1] at f1
    rw [k2] at g1
    rw [k3] at i1
    refine ⟨⟨r1.length, r1.flatMap Subtype.val, r2.length, r2.flatMap Subtype.val, r3.length, r3.flatMap Subtype.val⟩, r1.map Subtype.val, r2.map Subtype.val, r3.map Subtype.val, ⟨f1, g1, i1, f2.symm, g2.symm, i2.symm, f3, g3, i3, ?_, ?_, ?_⟩, ?_⟩
    · intro x hx
      have hw := (rowsOk_get f1 hx).1
      obtain ⟨y, hy, rfl⟩ := List.mem_map.1 hx
      have hk := Sh.Has.wkS e1 y.val (p1 y hy)
      rw [s1] at hk
      exact r8_of hw hk
    · intro x hx
      obtain ⟨y, hy, rfl⟩ := List.mem_map.1 hx
      have hk := Sh.Has.wkS e2 y.val (p2 y hy)
      rw [s2] at hk
      exact ⟨wkS_get (j := 6) hk rfl, wkS_get (j := 7) hk rfl⟩
    · intro x hx
      obtain ⟨y, hy, rfl⟩ := List.mem_map.1 hx
      have hk := Sh.Has.wkS e3 y.val (p3 y hy)
      rw [s3] at hk
      exact wkS_get (j := 2) hk rfl
    · have := h2.agg
      simpa [Value.cells, Rw.pv] using this
  · cases hs

theorem parts_lifted (os : Os) (started : os.Started) (H : Type) (enc : TypeId × Value → H) :
    ReturnsInHanded {} Try.checked os 4 .any (Rows.rulesPartsSpec.pre6 enc Try.prog Try.f4 Rows.rulesPartsRow.domain false) (Rows.rulesPartsSpec.post enc Try.prog Try.f4 false true false false) := by
  refine returnsInHanded_of_change (C := Try.checked) own started (by kernel_rfl) Try.func4
    (ChangeSpec.witness6 (enc := enc) (C := Try.checked) false ⟨#[], #[zeroR], []⟩ 8 (by kernel_rfl) (by kernel_rfl) (by kernel_rfl) (by kernel_rfl)) ?_
  intro W base args ds gs before hval0 hW hcnd _
  have hval : ∀ (j : Nat) t v, Try.f4.params[j]? = some t → args[j]? = some v → Value.okWide Try.prog W .any base t v := hval0
  have hW' := hW
  obtain ⟨p, q, hA0, hV, rfl, hfz, hnd⟩ := hW
  have hA : DataW.TrodAll enc Try.prog W 0 (fun _ => true) true Try.f4.params.toList args.toList ds p := hA0
  rw [Try.params4] at hA hval
  obtain ⟨v0, d0, rfl, rfl, h0⟩ := trodAll_one hA
  obtain ⟨rfl, rfl⟩ := trodVars_none hV
  obtain ⟨c0, rfl, _⟩ := okWide_struct Try.underlying26 (hval 0 26 v0 rfl rfl)
  obtain ⟨r, F, G, I, wr, kr⟩ := rows_rep' h0
  obtain ⟨K, law⟩ := lawP wr
  clear hA0 hval0
  simp only [List.append_nil] at hW'
  have hr : Reps (fun b o => W.cell? ⟨b, o, none⟩) (fun _ => none) [r.pv] [.agg c0] := Reps.cons kr Reps.nil
  refine (calls_of_apart law hr).mono fun e W' he => ?_
  obtain ⟨_, Γ, ρ, rfl, h2, hw⟩ := he
  cases h2
  have hlt : ∀ x ∈ p, x.block < W.heap.size := fun x hx => hW'.lt x hx
  exact ⟨_, rfl, post_below (pa := p) (pv := []) hW' (fun _ _ _ => trodAll_mk1 (shut_bool Try.underlying4 true))
    (fun sp hsp => trodAll_mk1
      (WideElems.Trod_stays laid (by kernel_rfl) (of_decide_eq_true (by kernel_rfl)) h0 (fun x hx => hw.same (hlt x hx)) (fun x hx => hsp x hx)))
    (fun _ _ => rfl) (by simp) hw (ok_one (by kernel_rfl) rfl (okWide_bool_mk Try.underlying4 true))⟩

theorem rulesParts_holds : Rows.RulesPartsSaid :=
  OpenClaim.holds_of_wide 4 Try.f4 rfl rfl rfl rfl rfl rfl rfl ⟨rfl, rfl, rfl, rfl, rfl⟩ rfl rfl rfl rfl rfl (by kernel_rfl) Try.func4 (by kernel_rfl)
    (of_decide_eq_true (by kernel_rfl)) (by unfold Func.isWrapper; first | (rw [if_pos (by decide +kernel)]; kernel_rfl) | (rw [if_neg (by decide +kernel)]; exact ⟨rfl, rfl⟩))
    (fun os started H enc _ => parts_lifted os started H enc)

end Go.Proofs.Ytbhgibpdhmlamaa
end
