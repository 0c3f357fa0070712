/- Zeros behind rows; the first row that goes: plain. -/
import Derived.Test.YtpbemfikhmeedaaGreatDoorME
set_option linter.unusedVariables false
set_option linter.unusedSimpArgs false
set_option maxRecDepth 100000
set_option maxHeartbeats 8000000
namespace Go.Proofs.YtpbemfikhmeedaaGreatDoor.Am
section
open St
theorem rep_cells (Z : List PV) : ∀ k, repCells Z k = (List.replicate k Z).flatten
  | 0 => rfl
  | k + 1 => by rw [repCells, rep_cells Z k, List.replicate_succ, List.flatten_cons]
theorem rep_len (Z : List PV) : ∀ k, (List.replicate k Z).flatten.length = k * Z.length
  | 0 => by simp
  | k + 1 => by rw [List.replicate_succ, List.flatten_cons, List.length_append, rep_len Z k, Nat.add_mul, Nat.one_mul, Nat.add_comm]
theorem rep_old {Z : List PV} (h : oldL 0 Z = true) : ∀ k, oldL 0 (List.replicate k Z).flatten = true
  | 0 => rfl
  | k + 1 => by rw [List.replicate_succ, List.flatten_cons, oldL_append, h, rep_old h k]; rfl
theorem splice_rest {K : List Kd} {S : List (List PV)} {Z : List PV} {w : Nat} (hS : rowsOk K S = true) (hz : Z.length = K.length) (hw : w <= S.length) :
    splice S.flatten (0 + w * K.length) (repCells Z (S.length - w)) = (S.take w ++ List.replicate (S.length - w) Z).flatten := by
  have l1 := rows_len hS
  have l2 := rep_len Z (S.length - w)
  have l3 := mul_split (e := K.length) hw
  rw [rep_cells, List.flatten_append]
  unfold splice
  rw [l2, hz, List.drop_of_length_le (by omega), List.append_nil, Nat.zero_add]
  have := flat_tk hS hw
  rw [List.drop_zero] at this
  rw [this]
def idxN (good : List PV -> Bool) : List (List PV) -> Option Nat
  | [] => none
  | x :: R => bif !good x then some 0 else (idxN good R).map (· + 1)
def idxI (o : Option Nat) (i : Nat) : Int := match o with
  | some k => ((i + k : Nat) : Int)
  | none => -1
theorem idxI_succ (o : Option Nat) (i : Nat) : idxI (o.map (· + 1)) i = idxI o (i + 1) := by
  cases o with
  | none => rfl
  | some k => simp only [idxI, Option.map_some]; omega
def idxP (good : List PV -> Bool) (R : List (List PV)) : Option Nat -> Prop
  | none => R.filter good = R
  | some z => ∃ hz : z < R.length, (∀ (i : Nat) (hi : i < z), good (R[i]'(by omega)) = true) /\ good R[z] = false
theorem idxN_ok (good : List PV -> Bool) : ∀ R : List (List PV), idxP good R (idxN good R)
  | [] => rfl
  | x :: R => by
    have ih := idxN_ok good R
    unfold idxN
    cases hg : good x with
    | false =>
      rw [Bool.not_false, cond_true]
      exact ⟨by simp, fun i hi => by omega, by simpa using hg⟩
    | true =>
      rw [Bool.not_true, cond_false]
      cases hn : idxN good R with
      | none =>
        rw [hn] at ih
        show (x :: R).filter good = x :: R
        rw [List.filter_cons_of_pos hg, ih]
      | some z =>
        rw [hn] at ih
        obtain ⟨hz, h1, h2⟩ := ih
        show ∃ hz : z + 1 < (x :: R).length, _
        refine ⟨by simp; exact hz, fun i hi => ?_, by simpa using h2⟩
        cases i with
        | zero => simpa using hg
        | succ i =>
          have hi' : i + 1 < z + 1 := hi
          simpa using h1 i (by omega)
def sealAskW (c : List PV) (n w es : Nat) : List Bool := [n == n && (decide (0 + w * es <= c.length) && (decide (0 < es) && ((c.drop 0).take (w * es)).all PV.calm))]
def sealD (b : Bool) (c : List PV) (w es : Nat) : PV := bif b then .sl ((c.drop 0).take (w * es)) es w none else .sl [] es 0 none
theorem rowsOk_filter {K : List Kd} {R : List (List PV)} (h : rowsOk K R = true) (p : List PV -> Bool) : rowsOk K (R.filter p) = true := rowsOk_mem h fun r hr => (List.mem_filter.1 hr).1
def outC (n : Nat) (fl : List (List PV)) (Z : List PV) : List PV := (fl ++ List.replicate (n - fl.length) Z).flatten
theorem out_ok {K : List Kd} {Z : List PV} {fl : List (List PV)} {n : Nat} (h : rowsOk K fl = true) (hz : Z.length = K.length) (ho : oldL 0 Z = true) (hk : 0 < K.length) (hl : fl.length <= n) :
    oldL 0 (outC n fl Z) = true /\ (sealAskW (outC n fl Z) n fl.length K.length).all id = true /\ ((outC n fl Z).drop 0).take (fl.length * K.length) = fl.flatten := by
  have l1 := rows_len h
  have e : ((outC n fl Z).drop 0).take (fl.length * K.length) = fl.flatten := by
    unfold outC
    rw [List.drop_zero, List.flatten_append, <- l1, List.take_left]
  refine ⟨?_, ?_, e⟩
  . unfold outC
    rw [List.flatten_append, oldL_append, rows_old h, rep_old ho]
    rfl
  . unfold sealAskW
    rw [e]
    have : fl.length * K.length <= (outC n fl Z).length := by
      unfold outC
      rw [List.flatten_append, List.length_append, l1]
      omega
    simp only [beq_self_eq_true, Bool.true_and, List.all_cons, List.all_nil, id, Bool.and_true, Bool.and_eq_true, decide_eq_true_eq]
    exact ⟨by omega, hk, calm_old (rows_old h)⟩
theorem sealD_ok {K : List Kd} {Z : List PV} {R : List (List PV)} (p : List PV -> Bool) {n : Nat} (h : rowsOk K R = true) (hl : R.length = n) (hz : Z.length = K.length) (ho : oldL 0 Z = true) (hk : 0 < K.length) :
    sealD (!Nat.beq n 0) (outC n (R.filter p) Z) (R.filter p).length K.length = .sl (R.filter p).flatten K.length (R.filter p).length none := by
  have hfl : (R.filter p).length <= n := hl ▸ List.length_filter_le p R
  have := (out_ok (Z := Z) (rowsOk_filter h p) hz ho hk hfl).2.2
  unfold sealD
  cases hb : Nat.beq n 0 with
  | true =>
    have hn := Nat.eq_of_beq_eq_true hb
    have hr : R = [] := List.eq_nil_of_length_eq_zero (by omega)
    rw [hr]
    rfl
  | false => rw [Bool.not_false, cond_true, this]
end
section
open St
def uqF (eq : List PV -> List PV -> Bool) : List PV -> List (List PV) -> List (List PV)
  | _, [] => []
  | p, x :: R => bif eq x p then uqF eq x R else x :: uqF eq x R
def uniq (eq : List PV -> List PV -> Bool) : List (List PV) -> List (List PV)
  | [] => []
  | x :: R => x :: uqF eq x R
theorem uqF_snoc (eq : List PV -> List PV -> Bool) : ∀ (R : List (List PV)) (p x : List PV), uqF eq p (R ++ [x]) = uqF eq p R ++ (bif eq x (R.getLast?.getD p) then [] else [x])
  | [], p, x => by simp [uqF]
  | y :: R, p, x => by
    have ih := uqF_snoc eq R y x
    have e : (y :: R).getLast?.getD p = R.getLast?.getD y := by rw [List.getLast?_cons]; rfl
    rw [List.cons_append, uqF, ih, e, uqF]
    cases eq y p <;> rfl
theorem uniq_snoc (eq : List PV -> List PV -> Bool) (R : List (List PV)) (j : Nat) (hj : j + 1 < R.length) : uniq eq (R.take (j + 2)) = uniq eq (R.take (j + 1)) ++ (bif eq R[j + 1] R[j] then [] else [R[j + 1]]) := by
  have e : R.take (j + 2) = R.take (j + 1) ++ [R[j + 1]] := by rw [List.take_succ_eq_append_getElem hj]
  rw [e]
  cases R with
  | nil => simp at hj
  | cons x R =>
    rw [List.take_succ_cons, List.cons_append, uniq, uniq, uqF_snoc, List.cons_append]
    have h : (R.take j).getLast?.getD x = (x :: R)[j] := by
      cases j with
      | zero => simp
      | succ j =>
        have hj' : j < R.length := by simp at hj; omega
        rw [List.take_succ_eq_append_getElem hj', List.getLast?_concat]
        rfl
    rw [h]
structure Uq (eq : List PV -> List PV -> Bool) (R S : List (List PV)) (w j : Nat) : Prop where
  len : S.length = R.length
  front : S.take w = uniq eq (R.take j)
  ahead : S.drop (j - 1) = R.drop (j - 1)
  le : w < j
theorem Uq.at {eq : List PV -> List PV -> Bool} {R S : List (List PV)} {w j i : Nat} (h : Uq eq R S w j) (hi : j - 1 <= i) (hl : i < R.length) : S[i]'(by rw [h.len]; exact hl) = R[i] := by
  have h1 := congrArg (fun L => L[i - (j - 1)]?) h.ahead
  simp only [List.getElem?_drop, show j - 1 + (i - (j - 1)) = i from by omega] at h1
  rw [List.getElem?_eq_getElem (by rw [h.len]; exact hl), List.getElem?_eq_getElem hl] at h1
  exact Option.some.inj h1
theorem Uq.out {eq : List PV -> List PV -> Bool} {R S : List (List PV)} {w j : Nat} (h : Uq eq R S w (j + 1)) (hj : j + 1 < R.length) (hg : eq R[j + 1] R[j] = true) : Uq eq R S w (j + 2) where
  len := h.len
  front := by rw [h.front, uniq_snoc eq R j hj, hg, cond_true, List.append_nil]
  ahead := by
    have := congrArg (List.drop 1) h.ahead
    simp only [List.drop_drop, Nat.add_sub_cancel] at this
    exact this
  le := Nat.lt_succ_of_lt h.le
theorem Uq.in {eq : List PV -> List PV -> Bool} {R S : List (List PV)} {w j : Nat} (h : Uq eq R S w (j + 1)) (hj : j + 1 < R.length) (hg : eq R[j + 1] R[j] = false) : Uq eq R (S.set w R[j + 1]) (w + 1) (j + 2) where
  len := by rw [List.length_set]; exact h.len
  front := by
    have hw : w < S.length := by rw [h.len]; have := h.le; omega
    rw [List.take_succ_eq_append_getElem (by rw [List.length_set]; exact hw), List.getElem_set_self, List.take_set_of_le (Nat.le_refl w), h.front, uniq_snoc eq R j hj, hg, cond_false]
  ahead := by
    have h1 := congrArg (List.drop 1) h.ahead
    simp only [List.drop_drop, Nat.add_sub_cancel] at h1 ⊢
    rw [show j + 2 - 1 = j + 1 from rfl, List.drop_set_of_lt (by have := h.le; omega)]
    exact h1
  le := Nat.succ_lt_succ h.le
theorem Uq.done {eq : List PV -> List PV -> Bool} {R S : List (List PV)} {w : Nat} (h : Uq eq R S w R.length) : S.take w = uniq eq R := by
  rw [h.front, List.take_length]
theorem uniq_same {eq : List PV -> List PV -> Bool} {R : List (List PV)} : ∀ (j : Nat), j <= R.length -> (∀ (i : Nat) (hi : i + 1 < j) (hl : i + 1 < R.length), eq R[i + 1] R[i] = false) -> uniq eq (R.take j) = R.take j
  | 0, _, _ => by simp [uniq]
  | 1, h, _ => by
    cases R with
    | nil => simp at h
    | cons x R => simp [uniq, uqF]
  | j + 2, h, hd => by
    rw [uniq_snoc eq R j (by omega), uniq_same (j + 1) (by omega) fun i hi hl => hd i (by omega) hl, hd j (by omega) (by omega), cond_false, List.take_succ_eq_append_getElem (by omega : j + 1 < R.length)]
theorem Uq.start {eq : List PV -> List PV -> Bool} {R : List (List PV)} {z : Nat} (h0 : 0 < z) (hz : z < R.length) (hd : ∀ (i : Nat) (hi : i + 1 < z) (hl : i + 1 < R.length), eq R[i + 1] R[i] = false) (he : eq R[z] (R[z - 1]'(by omega)) = true) : Uq eq R R z (z + 1) where
  len := rfl
  front := by
    obtain ⟨k, rfl⟩ : ∃ k, z = k + 1 := ⟨z - 1, by omega⟩
    rw [uniq_snoc eq R k hz, uniq_same (k + 1) (by omega) hd]
    rw [show eq R[k + 1] R[k] = true from he, cond_true, List.append_nil]
  ahead := rfl
  le := Nat.lt_succ_self z
theorem uqF_mem {eq : List PV -> List PV -> Bool} : ∀ (R : List (List PV)) (p z : List PV), (∀ x ∈ p :: R, ∀ y ∈ p :: R, eq x y = true -> x = y) -> (z ∈ p :: uqF eq p R ↔ z ∈ p :: R)
  | [], p, z, _ => by simp [uqF]
  | x :: R, p, z, he => by
    have ih := uqF_mem R x z fun a ha b hb => he a (List.mem_cons_of_mem _ ha) b (List.mem_cons_of_mem _ hb)
    rw [uqF]
    cases hc : eq x p with
    | true =>
      have := he x (by simp) p (by simp) hc
      subst this
      rw [cond_true, ih]
      simp
    | false =>
      rw [cond_false, List.mem_cons, ih]
      simp
theorem uniq_mem {eq : List PV -> List PV -> Bool} {R : List (List PV)} (he : ∀ x ∈ R, ∀ y ∈ R, eq x y = true -> x = y) (z : List PV) : z ∈ uniq eq R ↔ z ∈ R := by
  cases R with
  | nil => simp [uniq]
  | cons x R => exact uqF_mem R x z he
theorem uqF_strict {eq lt : List PV -> List PV -> Bool} (ho : Ord lt) (hne : ∀ x y, lt x y = false -> lt y x = false -> eq y x = true) : ∀ (R : List (List PV)) (p : List PV), Sorted lt (p :: R) -> (p :: uqF eq p R).Pairwise fun a b => lt a b = true
  | [], p, _ => by simp [uqF]
  | x :: R, p, hs => by
    have hs' := List.pairwise_cons.1 hs
    have hx : lt x p = false := hs'.1 x List.mem_cons_self
    have ih := uqF_strict ho hne R x hs'.2
    rw [uqF]
    cases hc : eq x p with
    | true =>
      rw [cond_true]
      have ih' := List.pairwise_cons.1 ih
      refine List.pairwise_cons.2 ⟨fun z hz => ?_, ih'.2⟩
      exact ho.lt_of_le_lt hx (ih'.1 z hz)
    | false =>
      rw [cond_false]
      have hpx : lt p x = true := by
        cases hq : lt p x with
        | true => rfl
        | false => rw [hne p x hq hx] at hc; cases hc
      refine List.pairwise_cons.2 ⟨fun z hz => ?_, ih⟩
      rcases List.mem_cons.1 hz with rfl | hz
      . exact hpx
      . have h2 := (List.pairwise_cons.1 ih).1 z hz
        exact ho.lt_of_le_lt hx h2
theorem uniq_strict {eq lt : List PV -> List PV -> Bool} (ho : Ord lt) (hne : ∀ x y, lt x y = false -> lt y x = false -> eq y x = true) (R : List (List PV)) (hs : Sorted lt R) : (uniq eq R).Pairwise fun a b => lt a b = true := by
  cases R with
  | nil => exact List.Pairwise.nil
  | cons x R => exact uqF_strict ho hne R x hs
theorem strict_one {lt : List PV -> List PV -> Bool} (ho : Ord lt) {L M : List (List PV)} (hL : L.Pairwise fun a b => lt a b = true) (hM : M.Pairwise fun a b => lt a b = true) (hm : ∀ z, z ∈ L ↔ z ∈ M) : L = M := by
  have nd : ∀ {L : List (List PV)}, L.Pairwise (fun a b => lt a b = true) -> L.Nodup := fun h => h.imp fun {a b} hab e => by subst e; rw [ho.irrefl] at hab; cases hab
  have hp : L.Perm M := (List.perm_ext_iff_of_nodup (nd hL) (nd hM)).2 hm
  exact List.Perm.eq_of_pairwise (le := fun a b => lt a b = true) (fun a b _ _ h1 h2 => by rw [ho.asymm a b h1] at h2; cases h2) hL hM hp
end
section
noncomputable def TKr : Table := Tadd T0 55 (gKy2 kyR)
theorem kRef (N : Nat) (a b : Ky) : apartS EN T0 H0 N 5 55 [.agg a.cs, .agg b.cs] = kyT a.space a.name b.space b.name := by kernel_rfl
theorem TKrok : TR TKr := TR0.add TR0 (runKy fun a b => (kRef 1000009 a b).trans (kyT_some a b))
end
section
open St
def HKs : FuncId -> Hint := fun f t => bif Nat.beq f 33 then (bif Nat.beq t 44 then [some false] else bif Nat.beq t 45 || (Nat.beq t 48 || Nat.beq t 52) then [none, some false] else []) else []
def curK (b : Bool) (k : Nat) : PV := bif b then .osl 0 k 0 2 k none else .sl [] 2 0 (some 0)
def slK (c : List PV) (n : Nat) (b : Bool) (k : Nat) (i : Int) : List (Nat × PV) := [(0, .sl c 2 n none), (2, .nils), (3, curK b k), (7, .sl [] 2 0 (some 0)), (8, .sl c 2 n none), (9, vI n), (10, vI i)]
def obK (b : Bool) (a : List PV) (k : Nat) : Store := accO b a 2 k
noncomputable def LK (N m : Nat) (c : List PV) (n : Nat) (b : Bool) (a : List PV) (k : Nat) (i : Int) : Option PV := loopS EN TKr HKs N 5 33 Tryz.f33 [1, 1, 0, 1, 0] (patOf (sparse 55 0 (slK [] 0 false 0 0))) 0 m (sparse 55 0 (slK c n b k i)) (obK b a k)
noncomputable def recK (N : Nat) : RecS PV := recS EN TKr HKs N 5
noncomputable def cK (N : Nat) (c : Code) : Slots -> Store -> KC PV -> Option PV := codeS EN TKr (recK N) (HKs 33) 0 N c
noncomputable def aK (N : Nat) (c : Code) (p : List Nat) (k : KC PV) : KC PV := afterS EN TKr (recK N) (HKs 33) 0 N c p k
noncomputable def contK (N : Nat) (pat : List Bool) (n0 : Nat) (body : Code) (q : Nat) (e : KC PV) : KC PV := fun o s1 σ1 => match o with
  | .norm => trimS EN 0 pat n0 s1 σ1 fun s2 σ2 => iterS EN 0 pat n0 (cK N body) q s2 σ2 e
  | .exit j => e (.exit j) s1 σ1
  | .ret => e .ret s1 σ1
  | .goto l => e (.goto l) s1 σ1
noncomputable def endKs (N : Nat) : KC PV := aK N (bodyOf Tryz.f33) [1, 1, 0, 1, 0] (endK EN Tryz.f33 (lastK EN 33))
noncomputable def bodyK : Code := subC (bodyOf Tryz.f33) [1, 1, 0, 1, 0, 0]
noncomputable def patK : List Bool := patOf (sparse 55 0 (slK [] 0 false 0 0))
def slKa (c : List PV) (n : Nat) (b : Bool) (k : Nat) (i : Int) (row : List PV) (at' : Int) : List (Nat × PV) := [(0, .sl c 2 n none), (2, .nils), (3, curK b k), (5, .ptr (nb b) 1 0), (6, vI at'), (7, .sl [] 2 0 (some 0)), (8, .sl c 2 n none), (9, vI n), (10, vI i), (11, .bool true), (12, .eptr c (i.toNat * 2)), (13, .agg row), (14, curK b k), (15, vI k)]
noncomputable def LKa (N m q : Nat) (c : List PV) (n : Nat) (b : Bool) (a : List PV) (k : Nat) (i : Int) (row : List PV) (at' : Int) : Option PV :=
  iterS EN 0 (patOf (sparse 55 0 (slKa [] 0 false 0 0 [] 0))) (nb b + 1) (cK N (subC bodyK [1, 1, 0, 0, 1, 1, 0, 0, 0])) q (sparse 55 0 (slKa c n b k i row at')) (obK b a k ++ [bxN row 2])
    (aK N bodyK [1, 1, 0, 0, 1, 1, 0, 0] (contK N patK 0 bodyK m (endKs N)))
def rowKk (c : List PV) (i : Int) : List PV := shapeAt KKy c (i.toNat * 2)
def eqK2 (x y : List PV) : Bool := asS (x.getD 0 .nilp) == asS (y.getD 0 .nilp) && (asS (x.getD 1 .nilp) == asS (y.getD 1 .nilp) && true)
def exitK (b : Bool) (a : List PV) (k : Nat) : Option PV := asks (ifb b (sealAsk a k 2)) <| asks (ifb b [oldL 0 ((a.drop 0).take (k * 2))]) <| some (.sl (bif b then (a.drop 0).take (k * 2) else []) 2 (bif b then k else 0) none)
theorem k00 (N : Nat) (c : List PV) (n : Nat) : apartS EN TKr HKs N 5 33 [.sl c 2 n none] = LK N N c n false [] 0 0 := by kernel_rfl
theorem kK (N m : Nat) (c : List PV) (n : Nat) (a : List PV) (k : Nat) (i : Int) : LK N (m + 1) c n true a k i =
  (bif decide (i < (n : Int)) then
    (asks [decide (0 <= i) && decide (i < (n : Int)), okAt KKy c (i.toNat * 2)] <| LKa N m N c n true a k i (rowKk c i) k)
  else exitK true a k) := by kernel_rfl
theorem kK0 (N m : Nat) (c : List PV) (n : Nat) (i : Int) : LK N (m + 1) c n false [] 0 i =
  (bif decide (i < (n : Int)) then
    (asks [decide (0 <= i) && decide (i < (n : Int)), okAt KKy c (i.toNat * 2)] <| LKa N m N c n false [] 0 i (rowKk c i) 0)
  else exitK false [] 0) := by kernel_rfl
noncomputable def insK (N m : Nat) (c : List PV) (n : Nat) (a : List PV) (k : Nat) (i at' : Int) : Option PV :=
  insT a k at' 2 (rowKk c i) fun ac k' => asks [oldL 0 c, oldL 0 c] <| asks [oldL 0 ac] <| LK N m c n true ac k' (IntKind.i64.wrap (i + 1))
noncomputable def restK (N m : Nat) (c : List PV) (n : Nat) (a : List PV) (k : Nat) (i at' : Int) : Option PV :=
  bif decide (at' > 0) then
    (asks [decide (0 <= IntKind.i64.wrap (at' - 1)) && decide (IntKind.i64.wrap (at' - 1) < (k : Int)), k == k, okAt KKy a (0 + (IntKind.i64.wrap (at' - 1)).toNat * 2)] <|
    bif eqK2 (shapeAt KKy a (0 + (IntKind.i64.wrap (at' - 1)).toNat * 2)) (rowKk c i) then
      (asks [oldL 0 c, oldL 0 c] <| asks [oldL 0 a] <| LK N m c n true a k (IntKind.i64.wrap (i + 1)))
    else insK N m c n a k i at')
  else insK N m c n a k i at'
theorem kA (N m q : Nat) (c : List PV) (n : Nat) (a : List PV) (k : Nat) (i at' : Int) : LKa N m (q + 1) c n true a k i (rowKk c i) at' =
  (bif decide (at' > 0) then
    (asks [decide (0 <= IntKind.i64.wrap (at' - 1)) && decide (IntKind.i64.wrap (at' - 1) < (k : Int)), k == k, okAt KKy a (0 + (IntKind.i64.wrap (at' - 1)).toNat * 2)] <|
    bif decide (rKy (rowKk c i) (shapeAt KKy a (0 + (IntKind.i64.wrap (at' - 1)).toNat * 2)) < 0) then
      (asks [oldL 2 c, oldL 2 c, oldL 2 c] <| asks [oldL 0 a] <| LKa N m q c n true a k i (rowKk c i) (IntKind.i64.wrap (at' - 1)))
    else restK N m c n a k i at')
  else restK N m c n a k i at') := by kernel_rfl
theorem kA0 (N m q : Nat) (c : List PV) (n : Nat) (i : Int) : LKa N m (q + 1) c n false [] 0 i (rowKk c i) 0 =
  (asks [oldL 0 c, oldL 0 c] <| asks [oldL 0 (rowKk c i)] <| LK N m c n true (rowKk c i) 1 (IntKind.i64.wrap (i + 1))) := by kernel_rfl
end
section
open St
def insU (x : List PV) (A : List (List PV)) : List (List PV) :=
  bif decide (0 < plc (ltOf rKy) x A A.length) && eqK2 (A.getD (plc (ltOf rKy) x A A.length - 1) []) x then A
  else A.take (plc (ltOf rKy) x A A.length) ++ x :: A.drop (plc (ltOf rKy) x A A.length)
def sortU (R : List (List PV)) : List (List PV) := R.foldl (fun A x => insU x A) []
theorem sortU_snoc (R : List (List PV)) (x : List PV) : sortU (R ++ [x]) = insU x (sortU R) := by simp [sortU]
theorem insU_mem {x y : List PV} {A : List (List PV)} (h : y ∈ insU x A) : y = x ∨ y ∈ A := by
  unfold insU at h
  cases hc : decide (0 < plc (ltOf rKy) x A A.length) && eqK2 (A.getD (plc (ltOf rKy) x A A.length - 1) []) x with
  | true => rw [hc] at h; exact Or.inr h
  | false =>
    rw [hc, cond_false, List.mem_append, List.mem_cons] at h
    rcases h with h | h | h
    . exact Or.inr (List.mem_of_mem_take h)
    . exact Or.inl h
    . exact Or.inr (List.mem_of_mem_drop h)
theorem sortU_mem : ∀ (R A : List (List PV)) (y : List PV), y ∈ R.foldl (fun A x => insU x A) A -> y ∈ R ∨ y ∈ A
  | [], A, y, h => Or.inr h
  | x :: R, A, y, h => by
    rcases sortU_mem R (insU x A) y h with h | h
    . exact Or.inl (List.mem_cons_of_mem _ h)
    . rcases insU_mem h with rfl | h
      . exact Or.inl List.mem_cons_self
      . exact Or.inr h
theorem insU_len (x : List PV) (A : List (List PV)) : (insU x A).length <= A.length + 1 := by
  unfold insU
  cases decide (0 < plc (ltOf rKy) x A A.length) && eqK2 (A.getD (plc (ltOf rKy) x A A.length - 1) []) x with
  | true => exact Nat.le_succ _
  | false =>
    rw [cond_false, List.length_append, List.length_cons, List.length_take, List.length_drop]
    have := plc_le (ltOf rKy) x A A.length
    omega
theorem sortU_len : ∀ (R A : List (List PV)), (R.foldl (fun A x => insU x A) A).length <= A.length + R.length
  | [], A => by simp
  | x :: R, A => by
    have h1 := sortU_len R (insU x A)
    have h2 := insU_len x A
    rw [List.foldl_cons, List.length_cons]
    omega
theorem sortU_ok {R : List (List PV)} (h : rowsOk KKy R = true) : rowsOk KKy (sortU R) = true := by
  unfold rowsOk at h ⊢
  rw [List.all_eq_true] at h ⊢
  intro y hy
  rcases sortU_mem R [] y hy with hy | hy
  . exact h y hy
  . cases hy
theorem sk_loop {N n : Nat} {R : List (List PV)} (hN : 1000002 <= N) (hR : rowsOk KKy R = true) (hl : R.length = n) (hn : n <= 1000000) (q : Nat) :
    LK N (q + n + 1) R.flatten n false [] 0 0 = some (.sl (sortU R).flatten 2 (sortU R).length none) := by
  have hO : ∀ x, oldL x R.flatten = true := rows_oldn hR
  refine mid_loop (L := fun q i => LK N q R.flatten n (!Nat.beq (sortU (R.take i)).length 0) (sortU (R.take i)).flatten (sortU (R.take i)).length (i : Int)) ?_ ?_ q
  . intro q i hi
    have hi' : i < R.length := by omega
    have hA : rowsOk KKy (sortU (R.take i)) = true := sortU_ok (rowsOk_take hR i)
    have hlen : (sortU (R.take i)).length <= i := by
      have := sortU_len (R.take i) []
      rw [List.length_take, List.length_nil] at this
      exact Nat.le_trans this (by omega)
    have hnx : sortU (R.take (i + 1)) = insU R[i] (sortU (R.take i)) := by rw [List.take_succ_eq_append_getElem hi', sortU_snoc]
    have hAn : rowsOk KKy (sortU (R.take (i + 1))) = true := sortU_ok (rowsOk_take hR (i + 1))
    have hrow : rowKk R.flatten (i : Int) = R[i] := by
      unfold rowKk
      rw [Int.toNat_natCast, show (2 : Nat) = KKy.length from rfl]
      exact (rows_at0 hR hi').2
    have hxl : R[i].length = KKy.length := wk_len (rowsOk_get hR (List.getElem_mem hi')).1
    have hask : ([decide (0 <= (i : Int)) && decide ((i : Int) < (n : Int)), okAt KKy R.flatten ((i : Int).toNat * 2)]).all id = true := by
      rw [Int.toNat_natCast, show (2 : Nat) = KKy.length from rfl]
      exact cons_ok (inside hi) (cons_ok (rows_at0 hR hi').1 rfl)
    show LK N (q + 1) R.flatten n (!Nat.beq (sortU (R.take i)).length 0) (sortU (R.take i)).flatten (sortU (R.take i)).length (i : Int) = LK N q R.flatten n (!Nat.beq (sortU (R.take (i + 1))).length 0) (sortU (R.take (i + 1))).flatten (sortU (R.take (i + 1))).length ((i + 1 : Nat) : Int)
    generalize hAe : sortU (R.take i) = A at *
    obtain ⟨s0, rfl⟩ : ∃ s0, N = s0 + 1 := ⟨N - 1, by omega⟩
    cases A with
    | nil =>
      have e1 : insU R[i] [] = [R[i]] := by simp [insU, plc]
      rw [hnx, e1]
      show LK (s0 + 1) (q + 1) R.flatten n false [] 0 (i : Int) = LK (s0 + 1) q R.flatten n true [R[i]].flatten 1 ((i + 1 : Nat) : Int)
      rw [kK0, cond_t (show decide ((i : Int) < (n : Int)) = true from by simp; omega), asks_of hask, kA0, hrow, asks_of (cons_ok (hO 0) (cons_ok (hO 0) rfl)), asks_of (ask1 (rowsOk_get hR (List.getElem_mem hi')).2), wrap_succ (by omega : i < 9223372036854775807)]
      simp
    | cons y A =>
      have hb : (!Nat.beq (y :: A).length 0) = true := rfl
      rw [hb, kK, cond_t (show decide ((i : Int) < (n : Int)) = true from by simp; omega), asks_of hask]
      obtain ⟨s, hs⟩ : ∃ s, s0 + 1 = s + (y :: A).length + 1 := ⟨s0 - (y :: A).length, by omega⟩
      have hpl := plc_le (ltOf rKy) R[i] (y :: A) (y :: A).length
      have hins : ∀ t, t <= (y :: A).length -> ∀ v, (fun (ac : List PV) (k' : Nat) => LK (s0 + 1) q R.flatten n true ac k' ((i + 1 : Nat) : Int)) ((y :: A).take t ++ R[i] :: (y :: A).drop t).flatten ((y :: A).length + 1) = v -> oldL 0 ((y :: A).take t ++ R[i] :: (y :: A).drop t).flatten = true -> insK (s0 + 1) q R.flatten n (y :: A).flatten (y :: A).length (i : Int) (t : Int) = v := by
        intro t ht v hv ho
        unfold insK
        rw [insT_eq, hrow, show (2 : Nat) = KKy.length from rfl, insT2_ok (K := KKy) hA hxl (by omega) ht (by simp) rfl rfl, asks_of (cons_ok (hO 0) (cons_ok (hO 0) rfl)), asks_of (ask1 ho), wrap_succ (by omega : i < 9223372036854775807)]
        exact hv
      have main := at_loop (lt := ltOf rKy) (x := R[i]) (A := y :: A) (L := fun s t => LKa (s0 + 1) q s R.flatten n true (y :: A).flatten (y :: A).length (i : Int) (rowKk R.flatten (i : Int)) t) (fin := fun t => restK (s0 + 1) q R.flatten n (y :: A).flatten (y :: A).length (i : Int) (t : Int)) (v := LK (s0 + 1) q R.flatten n (!Nat.beq (sortU (R.take (i + 1))).length 0) (sortU (R.take (i + 1))).flatten (sortU (R.take (i + 1))).length ((i + 1 : Nat) : Int)) ?_ ?_ ?_ s
      . rw [<- hs] at main
        exact main
      . intro s t ht
        have pa := rows_at hA ht
        show LKa (s0 + 1) q (s + 1) R.flatten n true (y :: A).flatten (y :: A).length (i : Int) (rowKk R.flatten (i : Int)) ((t + 1 : Nat) : Int) = _
        rw [kA, cond_t (show decide (((t + 1 : Nat) : Int) > 0) = true from by simp), wrap_pred (by omega : t < 9223372036854775807)]
        simp only [Int.toNat_natCast]
        have e2 : (2 : Nat) = KKy.length := rfl
        rw [asks_of (l := [decide (0 <= (t : Int)) && decide ((t : Int) < ((y :: A).length : Int)), (y :: A).length == (y :: A).length, okAt KKy (y :: A).flatten (0 + t * 2)]) (cons_ok (inside ht) (cons_ok (by simp) (cons_ok pa.1 rfl)))]
        have hcell : rKy (rowKk R.flatten (i : Int)) (shapeAt KKy (y :: A).flatten (0 + t * 2)) = rKy R[i] (y :: A)[t] := by rw [hrow, e2, pa.2]
        simp only [hcell]
        rw [getD_at ht, show ltOf rKy R[i] (y :: A)[t] = decide (rKy R[i] (y :: A)[t] < 0) from rfl]
        generalize decide (rKy R[i] (y :: A)[t] < 0) = b
        cases b
        . rfl
        . simp only [cond_true]
          rw [asks_of (cons_ok (hO 2) (cons_ok (hO 2) (cons_ok (hO 2) rfl))), asks_of (ask1 (rows_old hA))]
      . intro s
        show LKa (s0 + 1) q (s + 1) R.flatten n true (y :: A).flatten (y :: A).length (i : Int) (rowKk R.flatten (i : Int)) ((0 : Nat) : Int) = _
        rw [kA, cond_f (by simp)]
      . have hAn' := hAn
        rw [hnx] at hAn' ⊢
        unfold insU at hAn' ⊢
        generalize hp : plc (ltOf rKy) R[i] (y :: A) (y :: A).length = p at *
        cases p with
        | zero =>
          have : (decide (0 < 0) && eqK2 ((y :: A).getD (0 - 1) []) R[i]) = false := by simp
          rw [this, cond_false] at hAn' ⊢
          unfold restK
          rw [cond_f (by simp)]
          refine hins 0 (by omega) _ ?_ (rows_old hAn')
          simp
          try rfl
        | succ t =>
          have ht : t < (y :: A).length := by omega
          have pa := rows_at hA ht
          have e2 : (2 : Nat) = KKy.length := rfl
          unfold restK
          rw [cond_t (show decide (((t + 1 : Nat) : Int) > 0) = true from by simp), wrap_pred (by omega : t < 9223372036854775807)]
          simp only [Int.toNat_natCast]
          rw [asks_of (l := [decide (0 <= (t : Int)) && decide ((t : Int) < ((y :: A).length : Int)), (y :: A).length == (y :: A).length, okAt KKy (y :: A).flatten (0 + t * 2)]) (cons_ok (inside ht) (cons_ok (by simp) (cons_ok pa.1 rfl)))]
          have hcell : eqK2 (shapeAt KKy (y :: A).flatten (0 + t * 2)) (rowKk R.flatten (i : Int)) = eqK2 ((y :: A).getD (t + 1 - 1) []) R[i] := by rw [hrow, e2, pa.2, Nat.add_sub_cancel, getD_at ht]
          rw [hcell]
          have h0 : decide (0 < t + 1) = true := by simp
          rw [h0, Bool.true_and] at hAn' ⊢
          cases he : eqK2 ((y :: A).getD (t + 1 - 1) []) R[i] with
          | true =>
            rw [cond_true, cond_true, asks_of (cons_ok (hO 0) (cons_ok (hO 0) rfl)), asks_of (ask1 (rows_old hA)), wrap_succ (by omega : i < 9223372036854775807)]
            rfl
          | false =>
            rw [he, cond_false] at hAn'
            rw [cond_false, cond_false]
            refine hins (t + 1) (by omega) _ ?_ (rows_old hAn')
            have e3 : ((y :: A).take (t + 1) ++ R[i] :: (y :: A).drop (t + 1)).length = (y :: A).length + 1 := by
              rw [List.length_append, List.length_cons, List.length_take, List.length_drop]
              omega
            rw [e3]
            rfl
  . intro q
    show LK N (q + 1) R.flatten n (!Nat.beq (sortU (R.take n)).length 0) (sortU (R.take n)).flatten (sortU (R.take n)).length (n : Int) = _
    have e : R.take n = R := by rw [List.take_of_length_le (by omega)]
    rw [e]
    have hA := sortU_ok hR
    obtain ⟨s1, s2, s3⟩ := seal_ok hA (by decide)
    generalize sortU R = A at *
    cases A with
    | nil =>
      show LK N (q + 1) R.flatten n false [] 0 (n : Int) = _
      rw [kK0, cond_f (by simp)]
      rfl
    | cons y A =>
      have hb : (!Nat.beq (y :: A).length 0) = true := rfl
      rw [hb] at s1 s2 ⊢
      rw [kK, cond_f (by simp)]
      unfold exitK
      rw [show (2 : Nat) = KKy.length from rfl, asks_of s1, asks_of s2, cond_true, cond_true, take_all _ (rows_len hA)]
def gSortK (xs : List PV) : Option (Bool × PV) := match xs with
  | [.sl c e n none] => some (Nat.beq e 2 && rowsC KKy n c, .sl (sortU (chunks 2 n c)).flatten 2 (sortU (chunks 2 n c)).length none)
  | _ => none
theorem runSortK (xs : List PV) (v : PV) (h : gSortK xs = some (true, v)) : ∃ H, apartS EN TKr H 1000009 5 33 xs = some v := by
  unfold gSortK at h
  split at h
  . rename_i c e n
    simp only [Option.some.injEq, Prod.mk.injEq, Bool.and_eq_true] at h
    obtain ⟨⟨h1, h2⟩, rfl⟩ := h
    rw [Nat.eq_of_beq_eq_true h1]
    obtain ⟨r1, r2, r3, r4⟩ := rowsC_ok h2
    refine ⟨HKs, (k00 1000009 c n).trans ?_⟩
    have := sk_loop (N := 1000009) (by omega) r2 r4 r1 (1000008 - n)
    rw [show 1000008 - n + n + 1 = 1000009 from by omega, r3] at this
    exact this
  . cases h
def kyP (p : Nat) (x : List PV) : List UInt8 × List UInt8 := (asS (x.getD p .nilp), asS (x.getD (p + 1) .nilp))
def goodK (p : Nat) (a b : List UInt8) (x : List PV) : Bool := asS (x.getD p .nilp) == a && (asS (x.getD (p + 1) .nilp) == b && true)
theorem goodK_eq (p : Nat) (a b : List UInt8) : goodK p a b = fun x => decide (kyP p x = (a, b)) := by
  funext x
  unfold goodK kyP
  rw [Bool.eq_iff_iff]
  simp [Prod.ext_iff]
theorem eqK2_iff (x y : List PV) : eqK2 x y = true ↔ kyP 0 x = kyP 0 y := by
  unfold eqK2 kyP
  simp [Prod.ext_iff]
theorem lt_rKy : ltOf rKy = ltOf cKy := by
  funext x y
  unfold ltOf
  rw [cKy_eq]
theorem cKy_same {x y z : List PV} (h : kyP 0 y = kyP 0 z) : cKy x y = cKy x z /\ cKy y x = cKy z x := by
  have e : kyAt y 0 = kyAt z 0 := by
    unfold kyAt
    have h1 := congrArg Prod.fst h
    have h2 := congrArg Prod.snd h
    simp only [kyP] at h1 h2
    rw [h1, h2]
  unfold cKy
  rw [e]
  exact ⟨rfl, rfl⟩
theorem plc_lt (lt : List PV -> List PV -> Bool) (x : List PV) (R : List (List PV)) : ∀ (k i : Nat), plc lt x R k <= i -> i < k -> lt x (R.getD i []) = true
  | 0, i, _, h => by omega
  | k + 1, i, h1, h2 => by
    rw [plc] at h1
    split at h1
    . rename_i hk
      by_cases e : i = k
      . rw [e]; exact hk
      . exact plc_lt lt x R k i h1 (by omega)
    . omega
theorem plc_ge (lt : List PV -> List PV -> Bool) (x : List PV) (R : List (List PV)) : ∀ (k : Nat), 0 < plc lt x R k -> lt x (R.getD (plc lt x R k - 1) []) = false
  | 0, h => by simp [plc] at h
  | k + 1, h => by
    rw [plc] at h ⊢
    split at h
    . rename_i hk
      rw [if_pos hk]
      exact plc_ge lt x R k h
    . rename_i hk
      rw [if_neg hk, Nat.add_sub_cancel]
      simpa using hk
structure KsOk (A : List (List PV)) : Prop where
  srt : Sorted (ltOf rKy) A
  once : (A.map (kyP 0)).Nodup
theorem insU_ok {x : List PV} {A : List (List PV)} (h : KsOk A) : KsOk (insU x A) /\ kyP 0 x ∈ (insU x A).map (kyP 0) /\ ∀ k ∈ A.map (kyP 0), k ∈ (insU x A).map (kyP 0) := by
  have ho : Ord (ltOf rKy) := lt_rKy ▸ oKy
  have hpl := plc_le (ltOf rKy) x A A.length
  unfold insU
  cases hc : decide (0 < plc (ltOf rKy) x A A.length) && eqK2 (A.getD (plc (ltOf rKy) x A A.length - 1) []) x with
  | true =>
    rw [cond_true]
    simp only [Bool.and_eq_true, decide_eq_true_eq] at hc
    have hl : plc (ltOf rKy) x A A.length - 1 < A.length := by omega
    refine ⟨h, ?_, fun k hk => hk⟩
    rw [<- (eqK2_iff _ _).1 hc.2, getD_at hl]
    exact List.mem_map.2 ⟨_, List.getElem_mem hl, rfl⟩
  | false =>
    rw [cond_false]
    have hperm : (A.take (plc (ltOf rKy) x A A.length) ++ x :: A.drop (plc (ltOf rKy) x A A.length)).Perm (x :: A) := by
      refine List.perm_middle.trans ?_
      rw [List.take_append_drop]
    refine ⟨⟨?_, ?_⟩, ?_, ?_⟩
    . rw [plc_all]
      exact ins_sorted ho x A h.srt
    . refine ((hperm.map (kyP 0)).nodup_iff).2 ?_
      rw [List.map_cons, List.nodup_cons]
      refine ⟨fun hm => ?_, h.once⟩
      obtain ⟨y, hy, hk⟩ := List.mem_map.1 hm
      obtain ⟨i, hi, rfl⟩ := List.mem_iff_getElem.1 hy
      have hz : cKy x x = 0 := by have := cKy_co.anti x x; omega
      have h1 : ltOf rKy x A[i] = false := by
        rw [lt_rKy]
        unfold ltOf
        rw [(cKy_same (x := x) hk).1, hz]
        rfl
      have hip : i < plc (ltOf rKy) x A A.length := by
        by_cases q : i < plc (ltOf rKy) x A A.length
        . exact q
        . have := plc_lt (ltOf rKy) x A A.length i (by omega) hi
          rw [getD_at hi, h1] at this
          cases this
      have h2 := plc_ge (ltOf rKy) x A A.length (by omega)
      have hl : plc (ltOf rKy) x A A.length - 1 < A.length := by omega
      have h4 : ltOf rKy (A[plc (ltOf rKy) x A A.length - 1]) A[i] = false := by
        by_cases q : i = plc (ltOf rKy) x A A.length - 1
        . subst q
          exact ho.irrefl _
        . exact List.pairwise_iff_getElem.1 h.srt i _ hi hl (by omega)
      have he : A.getD (plc (ltOf rKy) x A A.length - 1) [] = A[plc (ltOf rKy) x A A.length - 1] := getD_at hl
      rw [he] at h2
      have h6 : eqK2 (A.getD (plc (ltOf rKy) x A A.length - 1) []) x = true := by
        rw [he]
        generalize A[plc (ltOf rKy) x A A.length - 1] = y at h2 h4
        have h3 : ltOf rKy y x = false := by
          rw [lt_rKy] at h4 ⊢
          unfold ltOf at h4 ⊢
          rw [<- (cKy_same (x := y) hk).1]
          exact h4
        rw [lt_rKy] at h2 h3
        have h5 := kyC_zero (no_tie cKy_co h3 h2)
        exact (eqK2_iff _ _).2 (Prod.ext h5.1 h5.2)
      rw [h6] at hc
      simp only [Bool.and_true, decide_eq_false_iff_not] at hc
      omega
    . exact List.mem_map.2 ⟨x, by simp, rfl⟩
    . intro k hk
      exact ((hperm.map (kyP 0)).mem_iff).2 (by rw [List.map_cons]; exact List.mem_cons_of_mem _ hk)
theorem sortU_fold : ∀ (R A : List (List PV)), KsOk A -> KsOk (R.foldl (fun A x => insU x A) A) /\ (∀ k ∈ A.map (kyP 0), k ∈ (R.foldl (fun A x => insU x A) A).map (kyP 0)) /\ ∀ x ∈ R, kyP 0 x ∈ (R.foldl (fun A x => insU x A) A).map (kyP 0)
  | [], A, h => ⟨h, fun k hk => hk, fun x hx => by cases hx⟩
  | x :: R, A, h => by
    obtain ⟨h1, h2, h3⟩ := insU_ok (x := x) h
    obtain ⟨g1, g2, g3⟩ := sortU_fold R (insU x A) h1
    refine ⟨g1, fun k hk => g2 k (h3 k hk), fun y hy => ?_⟩
    rcases List.mem_cons.1 hy with rfl | hy
    . exact g2 _ h2
    . exact g3 y hy
end
section
open St
theorem key_one {x y : List PV} (hx : wk KKy x = true) (hy : wk KKy y = true) (h : kyP 0 x = kyP 0 y) : x = y := by
  have h1 := congrArg Prod.fst h
  have h2 := congrArg Prod.snd h
  simp only [kyP] at h1 h2
  rw [ky_of hx, ky_of hy]
  unfold Ky.cs kyAt
  rw [h1, h2]
theorem uniq_sort {R : List (List PV)} (hR : rowsOk KKy R = true) : uniq eqK2 (insAll (ltOf cKy) R) = sortU R := by
  have hw : ∀ x ∈ R, wk KKy x = true := fun x hx => (rowsOk_get hR hx).1
  have hm : ∀ z, z ∈ insAll (ltOf cKy) R ↔ z ∈ R := fun z => mem_insAll _ z R
  obtain ⟨hk, _, hall⟩ := sortU_fold R [] ⟨List.Pairwise.nil, List.Pairwise.nil⟩
  have hk : KsOk (sortU R) := hk
  refine strict_one oKy ?_ ?_ ?_
  . exact uniq_strict oKy (fun x y h1 h2 => (eqK2_iff y x).2 (by
      have := kyC_zero (a := kyAt x 0) (b := kyAt y 0) (no_tie cKy_co h1 h2)
      exact Prod.ext this.1.symm this.2.symm)) _ (insAll_sorted oKy R)
  . have h1 := hk.srt
    rw [lt_rKy] at h1
    have h2 := List.pairwise_map.1 hk.once
    refine (h1.and h2).imp fun {a b} hab => ?_
    obtain ⟨h3, h4⟩ := hab
    cases hq : ltOf cKy a b with
    | true => rfl
    | false =>
      have := kyC_zero (a := kyAt a 0) (b := kyAt b 0) (no_tie cKy_co hq h3)
      exact absurd (Prod.ext this.1 this.2) h4
  . intro z
    rw [uniq_mem (fun x hx y hy h => key_one (hw x ((hm x).1 hx)) (hw y ((hm y).1 hy)) ((eqK2_iff x y).1 h)), hm]
    constructor
    . intro hz
      obtain ⟨y, hy, he⟩ := List.mem_map.1 (hall z hz)
      rcases sortU_mem R [] y hy with h | h
      . rw [<- key_one (hw y h) (hw z hz) he]
        exact hy
      . cases h
    . intro hz
      rcases sortU_mem R [] z hz with h | h
      . exact h
      . cases h
end
section
open St
def HCm : FuncId -> Hint := fun f t => bif Nat.beq f 62 then (bif Nat.beq t 28 || (Nat.beq t 56 || Nat.beq t 59) then [some false] else []) else []
def slC (n : Nat) (k : Int) : List (Nat × PV) := [(0, .osl 0 n 0 2 n none), (2, .nils), (3, vI k), (6, .osl 0 n 0 2 n none), (7, vI n), (8, .bool false)]
noncomputable def LC (N m : Nat) (c : List PV) (n : Nat) (k : Int) : Option PV := loopSF EN T0 HCm N 5 1 62 Tryz.f62 [1, 1, 0, 1, 0] (patOf (sparse 61 0 (slC 0 0))) 1 m (sparse 61 0 (slC n k)) (obOf 2 n c)
noncomputable def recC (N : Nat) : RecS PV := recS EN T0 HCm N 5
noncomputable def cC (N : Nat) (c : Code) : Slots -> Store -> KC PV -> Option PV := codeS EN T0 (recC N) (HCm 62) 0 N c
noncomputable def aC (N : Nat) (c : Code) (p : List Nat) (k : KC PV) : KC PV := afterS EN T0 (recC N) (HCm 62) 0 N c p k
noncomputable def contC (N : Nat) (pat : List Bool) (n0 : Nat) (body : Code) (q : Nat) (e : KC PV) : KC PV := fun o s1 σ1 => match o with
  | .norm => trimS EN 0 pat n0 s1 σ1 fun s2 σ2 => iterS EN 0 pat n0 (cC N body) q s2 σ2 e
  | .exit j => e (.exit j) s1 σ1
  | .ret => e .ret s1 σ1
  | .goto l => e (.goto l) s1 σ1
noncomputable def endC (N : Nat) : KC PV := aC N (bodyOf Tryz.f62) [1, 1, 0, 1, 0] (endK EN Tryz.f62 (lastF 1))
noncomputable def bodyC : Code := subC (bodyOf Tryz.f62) [1, 1, 0, 1, 0, 0]
noncomputable def patC : List Bool := patOf (sparse 61 0 (slC 0 0))
def slCi (n : Nat) (k : Int) (a1 b1 a2 b2 : List UInt8) (w j : Int) : List (Nat × PV) := [(0, .osl 0 n 0 2 n none), (2, .nils), (3, vI w), (4, .osl 0 n (0 + k.toNat * 2) 2 (n - k.toNat) none), (5, vI j), (6, .osl 0 n 0 2 n none), (7, vI n), (8, .bool false), (10, vI k), (11, .osl 0 n 0 2 n none), (12, vI n), (13, .bool true), (16, .osl 0 n 0 2 n none), (17, vI k), (18, .ptr 0 n (0 + k.toNat * 2)), (19, .agg [.str a1, .str b1]), (20, .osl 0 n 0 2 n none), (21, vI k), (22, vI (IntKind.i64.wrap (k - 1))), (23, .ptr 0 n (0 + (IntKind.i64.wrap (k - 1)).toNat * 2)), (24, .agg [.str a2, .str b2]), (25, .bool true), (26, .osl 0 n 0 2 n none), (27, vI k), (28, .osl 0 n (0 + k.toNat * 2) 2 (n - k.toNat) none)]
noncomputable def LCi (N m q : Nat) (c : List PV) (n : Nat) (k : Int) (a1 b1 a2 b2 : List UInt8) (w j : Int) : Option PV :=
  iterS EN 0 (patOf (sparse 61 0 (slCi 0 0 [] [] [] [] 0 0))) 1 (cC N (subC bodyC [1, 0, 0, 1, 0, 1, 0, 1, 0, 0])) q (sparse 61 0 (slCi n k a1 b1 a2 b2 w j)) (obOf 2 n c) (aC N bodyC [1, 0, 0, 1, 0, 1, 0, 1, 0] (contC N patC 1 bodyC m (endC N)))
def Zk : List PV := [.str [], .str []]
def cmA (c : List PV) (n u : Nat) : PV := .tup [.osl 0 n 0 2 u none, encS (obOf 2 n c)]
def finC (c : List PV) (n : Nat) (w : Int) : Option PV :=
  asks [n == n && decide (0 + n * 2 <= c.length), decide (0 <= w) && decide (w <= ((n - 0 : Nat) : Int)), !(decide (0 = w.toNat) && decide (0 < 0)), oldL 0 c] <| some (cmA c n (w.toNat - 0))
def exitC (c : List PV) (n : Nat) (w : Int) : Option PV :=
  asks [n == n && decide (0 + n * 2 <= c.length), decide (0 <= w) && decide (w <= (n : Int)), !(decide (w.toNat = n) && decide (0 < w.toNat))] <|
  bif decide (n - w.toNat = 0) then finC c n w
  else (asks [n == n && decide (0 + w.toNat * 2 + (repCells Zk (n - w.toNat)).length <= c.length)] <| finC (splice c (0 + w.toNat * 2) (repCells Zk (n - w.toNat))) n w)
theorem cm0 (N : Nat) (c : List PV) (n : Nat) : footSR EN T0 HCm N 5 62 [.osl 0 n 0 2 n none, encS (obOf 2 n c)] =
  (bif decide ((n : Int) < 2) then (asks [oldL 0 c] <| some (cmA c n n)) else LC N N c n 1) := by kernel_rfl
theorem cmO (N m : Nat) (c : List PV) (n : Nat) (k : Int) : LC N (m + 1) c n k =
  (bif decide (k < (n : Int)) then
    (asks [decide (0 <= k) && decide (k < (n : Int)), n == n, okAt KKy c (0 + k.toNat * 2), decide (0 <= IntKind.i64.wrap (k - 1)) && decide (IntKind.i64.wrap (k - 1) < (n : Int)), n == n, okAt KKy c (0 + (IntKind.i64.wrap (k - 1)).toNat * 2)] <|
    bif eqK2 (shapeAt KKy c (0 + k.toNat * 2)) (shapeAt KKy c (0 + (IntKind.i64.wrap (k - 1)).toNat * 2)) then
      (asks [n == n && decide (0 + n * 2 <= c.length), decide (0 <= k) && decide (k <= (n : Int)), !(decide (k.toNat = n) && decide (0 < k.toNat))] <|
      LCi N m N c n k (asS (c.getD (0 + k.toNat * 2) .nilp)) (asS (c.getD (0 + k.toNat * 2 + 1) .nilp)) (asS (c.getD (0 + (IntKind.i64.wrap (k - 1)).toNat * 2) .nilp)) (asS (c.getD (0 + (IntKind.i64.wrap (k - 1)).toNat * 2 + 1) .nilp)) k 1)
    else (asks [oldL 0 c] <| LC N m c n (IntKind.i64.wrap (k + 1))))
  else (asks [oldL 0 c] <| some (cmA c n n))) := by kernel_rfl
theorem cmI (N m q : Nat) (c : List PV) (n : Nat) (k : Int) (a1 b1 a2 b2 : List UInt8) (w j : Int) : LCi N m (q + 1) c n k a1 b1 a2 b2 w j =
  (bif decide (j < ((n - k.toNat : Nat) : Int)) then
    (asks [decide (0 <= j) && decide (j < ((n - k.toNat : Nat) : Int)), n == n, okAt KKy c (0 + k.toNat * 2 + j.toNat * 2), decide (0 <= IntKind.i64.wrap (j - 1)) && decide (IntKind.i64.wrap (j - 1) < ((n - k.toNat : Nat) : Int)), n == n, okAt KKy c (0 + k.toNat * 2 + (IntKind.i64.wrap (j - 1)).toNat * 2)] <|
    bif !(eqK2 (shapeAt KKy c (0 + k.toNat * 2 + j.toNat * 2)) (shapeAt KKy c (0 + k.toNat * 2 + (IntKind.i64.wrap (j - 1)).toNat * 2))) then
      (asks [decide (0 <= j) && decide (j < ((n - k.toNat : Nat) : Int)), n == n, okAt KKy c (0 + k.toNat * 2 + j.toNat * 2), decide (0 <= w) && decide (w < (n : Int)), n == n && (2 == 2 && (decide (0 + w.toNat * 2 + 2 <= c.length) && (shapeAt KKy c (0 + k.toNat * 2 + j.toNat * 2)).all PV.oneCell))] <|
      asks [oldL 0 (splice c (0 + w.toNat * 2) (shapeAt KKy c (0 + k.toNat * 2 + j.toNat * 2)))] <|
      LCi N m q (splice c (0 + w.toNat * 2) (shapeAt KKy c (0 + k.toNat * 2 + j.toNat * 2))) n k a1 b1 a2 b2 (IntKind.i64.wrap (w + 1)) (IntKind.i64.wrap (j + 1)))
    else (asks [oldL 0 c] <| LCi N m q c n k a1 b1 a2 b2 w (IntKind.i64.wrap (j + 1))))
  else exitC c n w) := by kernel_rfl
theorem i_loop {N m n z : Nat} {R : List (List PV)} {a1 b1 a2 b2 : List UInt8} (hl : R.length = n) (hn : n <= 1000000) (hz : z < n) : ∀ (r j w q : Nat) (S : List (List PV)), z + j + r = n -> 1 <= j -> rowsOk KKy S = true -> Uq eqK2 R S w (z + j) ->
    ∃ S' w', rowsOk KKy S' = true /\ Uq eqK2 R S' w' R.length /\ LCi N m (q + r + 1) S.flatten n (z : Int) a1 b1 a2 b2 (w : Int) (j : Int) = exitC S'.flatten n (w' : Int)
  | 0, j, w, q, S, h, h1, hS, hk => by
    have e : z + j = R.length := by omega
    rw [e] at hk
    refine ⟨S, w, hS, hk, ?_⟩
    rw [cmI, cond_f (show decide ((j : Int) < ((n - (z : Int).toNat : Nat) : Int)) = false from by simp; omega)]
  | r + 1, j, w, q, S, h, h1, hS, hk => by
    obtain ⟨i, rfl⟩ : ∃ i, j = i + 1 := ⟨j - 1, by omega⟩
    have hj : z + i + 1 < R.length := by omega
    have hj' : z + i + 1 < S.length := by rw [hk.len]; exact hj
    have hi' : z + i < S.length := by omega
    have hwj := hk.le
    have hw : w < S.length := by omega
    have pa := rows_at hS hj'
    have pb := rows_at hS hi'
    have hrow := rowsOk_get hS (List.getElem_mem hj')
    have ha : S[z + i + 1] = R[z + i + 1] := hk.at (by omega) hj
    have hb : S[z + i] = R[z + i] := hk.at (by omega) (by omega)
    have hin : (decide (0 <= ((i + 1 : Nat) : Int)) && decide (((i + 1 : Nat) : Int) < ((n - z : Nat) : Int))) = true := by simp; omega
    have hin' : (decide (0 <= ((i : Nat) : Int)) && decide (((i : Nat) : Int) < ((n - z : Nat) : Int))) = true := by simp; omega
    rw [show q + (r + 1) + 1 = (q + r + 1) + 1 from by omega, cmI]
    simp only [Int.toNat_natCast]
    rw [cond_t (show decide (((i + 1 : Nat) : Int) < ((n - z : Nat) : Int)) = true from by simp; omega), wrap_pred (by omega : i < 9223372036854775807)]
    simp only [Int.toNat_natCast]
    rw [show 0 + z * 2 + (i + 1) * 2 = 0 + (z + i + 1) * KKy.length from by show _ = 0 + (z + i + 1) * 2; omega, show 0 + z * 2 + i * 2 = 0 + (z + i) * KKy.length from by show _ = 0 + (z + i) * 2; omega, pa.2, pa.1, pb.2, pb.1, asks_of (cons_ok hin (cons_ok (by simp) (cons_ok rfl (cons_ok hin' (cons_ok (by simp) (cons_ok rfl rfl)))))), ha, hb]
    rw [ha] at hrow
    cases hg : eqK2 R[z + i + 1] R[z + i] with
    | false =>
      have hset : rowsOk KKy (S.set w R[z + i + 1]) = true := rowsOk_set hS w hrow.1 hrow.2
      have hfl := flat_len hS hw
      obtain ⟨S', w', r1, r2, r3⟩ := i_loop hl hn hz r (i + 2) (w + 1) q (S.set w R[z + i + 1]) (by omega) (by omega) hset (hk.in hj hg)
      refine ⟨S', w', r1, r2, ?_⟩
      rw [Bool.not_false, cond_true]
      rw [show (2 : Nat) = KKy.length from rfl, rows_splice hS hw (wk_len hrow.1), asks_of (cons_ok hin (cons_ok (by simp) (cons_ok rfl (cons_ok (inside (by omega : w < n)) (cons_ok (by
        simp only [hfl, wk_one hrow.1, beq_self_eq_true, decide_true, Bool.and_self]) rfl))))), asks_of (ask1 (rows_old hset)), wrap_succ (by omega : w < 9223372036854775807), wrap_succ (by omega : i + 1 < 9223372036854775807)]
      exact r3
    | true =>
      obtain ⟨S', w', r1, r2, r3⟩ := i_loop hl hn hz r (i + 2) w q S (by omega) (by omega) hS (hk.out hj hg)
      refine ⟨S', w', r1, r2, ?_⟩
      rw [Bool.not_true, cond_false, asks_of (ask1 (rows_old hS)), wrap_succ (by omega : i + 1 < 9223372036854775807)]
      exact r3
theorem exitC_ok {n w : Nat} {S : List (List PV)} (hS : rowsOk KKy S = true) (hl : S.length = n) (hw : w < n) :
    exitC S.flatten n (w : Int) = some (cmA (outC n (S.take w) Zk) n w) := by
  have hz : Zk.length = KKy.length := rfl
  have lS := rows_len hS
  rw [hl, show KKy.length = 2 from rfl] at lS
  have hsp := splice_rest hS hz (w := w) (by omega)
  rw [hl, show KKy.length = 2 from rfl] at hsp
  have ht : (S.take w).length = w := by rw [List.length_take]; omega
  have ho : outC n (S.take w) Zk = (S.take w ++ List.replicate (n - w) Zk).flatten := by unfold outC; rw [ht]
  have hlen : (S.take w ++ List.replicate (n - w) Zk).flatten.length = n * 2 := by
    rw [List.flatten_append, List.length_append, flat_tl hS (by omega), rep_len, hz, show KKy.length = 2 from rfl]
    exact mul_split (by omega)
  have hold : oldL 0 (S.take w ++ List.replicate (n - w) Zk).flatten = true := by rw [List.flatten_append, oldL_append, rows_old (rowsOk_take hS w), rep_old (by rfl)]; rfl
  unfold exitC
  rw [asks_of (cons_ok (by simp [lS]) (cons_ok (by simp; omega) (cons_ok (by simp; omega) rfl)))]
  simp only [Int.toNat_natCast]
  have lr : (repCells Zk (n - w)).length = (n - w) * 2 := by rw [rep_cells, rep_len]; rfl
  rw [cond_f (by simp; omega), hsp, asks_of (ask1 (by
    have := mul_split (e := 2) (show w <= n by omega)
    simp only [lr, lS, beq_self_eq_true, Bool.true_and, decide_eq_true_eq]
    omega))]
  unfold finC
  rw [asks_of (cons_ok (by simp only [hlen, beq_self_eq_true, Bool.true_and, decide_eq_true_eq]; omega) (cons_ok (by simp; omega) (cons_ok (by simp) (cons_ok hold rfl)))), ho]
  simp
theorem o_loop {N n : Nat} {R : List (List PV)} (hR : rowsOk KKy R = true) (hl : R.length = n) (hn : n <= 1000000) (hN : 1000002 <= N) : ∀ (r k q : Nat), k + r = n -> 1 <= k -> (∀ (i : Nat) (hi : i + 1 < k) (h : i + 1 < R.length), eqK2 R[i + 1] R[i] = false) ->
    LC N (q + r + 1) R.flatten n (k : Int) = some (cmA (outC n (uniq eqK2 R) Zk) n (uniq eqK2 R).length)
  | 0, k, q, h, h1, hd => by
    have e : uniq eqK2 R = R := by
      have := uniq_same (eq := eqK2) (R := R) R.length (Nat.le_refl _) (fun i hi h => hd i (by omega) h)
      rwa [List.take_length] at this
    rw [cmO, cond_f (show decide ((k : Int) < (n : Int)) = false from by simp; omega), asks_of (ask1 (rows_old hR)), e, hl]
    have : outC n R Zk = R.flatten := by unfold outC; rw [hl]; simp
    rw [this]
  | r + 1, k, q, h, h1, hd => by
    obtain ⟨i, rfl⟩ : ∃ i, k = i + 1 := ⟨k - 1, by omega⟩
    have hk : i + 1 < R.length := by omega
    have pa := rows_at hR hk
    have pb := rows_at hR (show i < R.length by omega)
    rw [show q + (r + 1) + 1 = (q + r + 1) + 1 from by omega, cmO, cond_t (show decide (((i + 1 : Nat) : Int) < (n : Int)) = true from by simp; omega), wrap_pred (by omega : i < 9223372036854775807)]
    simp only [Int.toNat_natCast]
    rw [show 0 + (i + 1) * 2 = 0 + (i + 1) * KKy.length from rfl, show 0 + i * 2 = 0 + i * KKy.length from rfl, pa.2, pa.1, pb.2, pb.1, asks_of (cons_ok (inside (by omega : i + 1 < n)) (cons_ok (by simp) (cons_ok rfl (cons_ok (inside (by omega : i < n)) (cons_ok (by simp) (cons_ok rfl rfl))))))]
    have lR := rows_len hR
    rw [hl] at lR
    cases hg : eqK2 R[i + 1] R[i] with
    | true =>
      have hs := Uq.start (eq := eqK2) (R := R) (z := i + 1) (by omega) hk hd hg
      obtain ⟨S', w', s1, s2, s3⟩ := i_loop (N := N) (m := q + r + 1) (n := n) (z := i + 1) (a1 := asS (R.flatten.getD (0 + (i + 1) * KKy.length) .nilp)) (b1 := asS (R.flatten.getD (0 + (i + 1) * KKy.length + 1) .nilp)) (a2 := asS (R.flatten.getD (0 + i * KKy.length) .nilp)) (b2 := asS (R.flatten.getD (0 + i * KKy.length + 1) .nilp)) hl hn (by omega) (n - (i + 2)) 1 (i + 1) (N - 1 - (n - (i + 2))) R (by omega) (Nat.le_refl _) hR hs
      rw [show N - 1 - (n - (i + 2)) + (n - (i + 2)) + 1 = N from by omega] at s3
      rw [cond_true, asks_of (cons_ok (by simp [lR]; exact Nat.le_refl _) (cons_ok (by simp; omega) (cons_ok (by simp; omega) rfl)))]
      refine Eq.trans s3 ?_
      have hle := s2.le
      have hlS : S'.length = n := by rw [s2.len, hl]
      rw [exitC_ok s1 hlS (by omega), s2.done]
      have : (uniq eqK2 R).length = w' := by rw [<- s2.done, List.length_take]; omega
      rw [this]
    | false =>
      rw [cond_false, asks_of (ask1 (rows_old hR)), wrap_succ (by omega : i + 1 < 9223372036854775807)]
      refine o_loop hR hl hn hN r (i + 2) q (by omega) (by omega) fun j hj hlt => ?_
      by_cases e : j = i
      . subst e; exact hg
      . exact hd j (by omega) hlt
def gCm (xs : List PV) : Option Tr := match xs with
  | [d, o] => match obIn 2 d o with
    | some (n, n1, n2, c) => some (.leaf ((n1 == n) && ((n2 == n) && rowsC KKy n c)) (cmA (outC n (uniq eqK2 (chunks 2 n c)) Zk) n (uniq eqK2 (chunks 2 n c)).length))
    | none => none
  | _ => none
theorem runCm (xs : List PV) (t : Tr) (v : PV) (h : gCm xs = some t) (hv : t.val = some v) : ∃ H, footSR EN T0 H 1000009 5 62 xs = some v := by
  unfold gCm at h
  split at h
  . rename_i d o
    split at h
    . rename_i n n1 n2 c ho
      cases h
      obtain ⟨hc, rfl⟩ := leaf_val hv
      simp only [Bool.and_eq_true] at hc
      obtain ⟨q1, q2, hr⟩ := hc
      obtain ⟨rfl, rfl⟩ := obIn_ok ho q1 q2
      obtain ⟨r1, r2, r3, r4⟩ := rowsC_ok hr
      rw [show KKy.length = 2 from rfl] at r2 r3 r4
      refine ⟨HCm, (cm0 1000009 c n).trans ?_⟩
      generalize hR : chunks 2 n c = R at *
      by_cases h2 : n < 2
      . have e : uniq eqK2 R = R := by
          have := uniq_same (eq := eqK2) (R := R) R.length (Nat.le_refl _) (fun i hi h => by omega)
          rwa [List.take_length] at this
        have : outC n R Zk = R.flatten := by unfold outC; rw [r4]; simp
        rw [cond_t (by simp; omega), e, this, r3, r4, asks_of (ask1 (by rw [<- r3]; exact rows_old r2))]
      . rw [cond_f (by simp; omega), <- r3]
        have := o_loop (N := 1000009) r2 r4 r1 (by omega) (n - 1) 1 (1000008 - (n - 1)) (by omega) (Nat.le_refl _) (fun i hi => by omega)
        rw [show 1000008 - (n - 1) + (n - 1) + 1 = 1000009 from by omega] at this
        exact this
    . cases h
  . cases h
noncomputable def TCm : Table := TaddT T0 62 gCm
theorem TCmok : TR TCm := TR0.addF TR0 runCm
end
section
open St
def srtK (c : List PV) (n : Nat) : List PV := (insAll (ltOf cKy) (chunks 2 n c)).flatten
def askSo (c : List PV) (n : Nat) : Bool := Nat.beq 0 0 && (Nat.beq 61 61 && (Nat.beq n n && (Nat.beq n n && (Nat.beq 2 KKy.length && (Nat.beq 2 KKy.length && (!false && (rowsC KKy n c && (chunks KKy.length n c).all (goodR KKy))))))))
def unqK (c : List PV) (n : Nat) : List (List PV) := uniq eqK2 (chunks 2 n c)
theorem s5 (N : Nat) (c : List PV) (n : Nat) : apartS EN TCm H0 (N + 50) 5 32 [.sl c 2 n none] =
  asks [decide (n <= 1048576) && c.all PV.oneCell] (bif decide (n = 0) then some (.sl [] 2 0 none) else
    asks [oldL 0 c] <| asks [askSo c n] <| asks [oldL 0 (srtK c n)] <| asks [oldL 0 (srtK c n)] <| asks [oldL 0 (srtK c n)] <| asks [n == n && (n == n && rowsC KKy n (srtK c n))] <|
    asks [oldL 0 (outC n (unqK (srtK c n) n) Zk)] <| asks (sealAskW (outC n (unqK (srtK c n) n) Zk) n (unqK (srtK c n) n).length 2) <|
    asks [oldL 0 (((outC n (unqK (srtK c n) n) Zk).drop 0).take ((unqK (srtK c n) n).length * 2))] <|
    some (.sl (((outC n (unqK (srtK c n) n) Zk).drop 0).take ((unqK (srtK c n) n).length * 2)) 2 (unqK (srtK c n) n).length none)) := by kernel_rfl
theorem wk_goodK {x : List PV} (h : wk KKy x = true) : goodR KKy x = true := by
  rw [ky_of h]
  rfl
theorem runSortP (xs : List PV) (v : PV) (h : gSortK xs = some (true, v)) : ∃ H, apartS EN TCm H 1000009 5 32 xs = some v := by
  unfold gSortK at h
  split at h
  . rename_i c e n
    simp only [Option.some.injEq, Prod.mk.injEq, Bool.and_eq_true] at h
    obtain ⟨⟨h1, h2⟩, rfl⟩ := h
    rw [Nat.eq_of_beq_eq_true h1]
    obtain ⟨r1, r2, r3, r4⟩ := rowsC_ok h2
    rw [show KKy.length = 2 from rfl] at r2 r3 r4
    refine ⟨H0, (s5 999959 c n).trans ?_⟩
    have hs := rows_insAll (lt := ltOf cKy) r2
    have hl : (insAll (ltOf cKy) (chunks 2 n c)).length = n := by rw [(insAll_perm (ltOf cKy) _).length_eq, r4]
    have hc : chunks 2 n (srtK c n) = insAll (ltOf cKy) (chunks 2 n c) := by
      have := chunks_of hs
      rw [hl] at this
      exact this
    have hu : unqK (srtK c n) n = sortU (chunks 2 n c) := by unfold unqK; rw [hc, uniq_sort r2]
    have hU := sortU_ok r2
    have hUl : (sortU (chunks 2 n c)).length <= n := by
      have := sortU_len (chunks 2 n c) []
      rw [r4] at this
      simpa [sortU] using this
    obtain ⟨o1, o2, o3⟩ := out_ok (Z := Zk) (n := n) hU rfl rfl (by decide) hUl
    rw [show KKy.length = 2 from rfl] at o2 o3
    have hso : oldL 0 (srtK c n) = true := rows_old hs
    have hco : oldL 0 c = true := by rw [<- r3]; exact rows_old r2
    have hone : c.all PV.oneCell = true := by
      have := one_flat r2
      rwa [r3] at this
    have hask : askSo c n = true := by
      unfold askSo
      simp only [Nat.beq_refl, Bool.not_false, Bool.true_and, h2, show KKy.length = 2 from rfl]
      rw [List.all_eq_true]
      exact fun x hx => wk_goodK (rowsOk_get r2 hx).1
    have hrc : rowsC KKy n (srtK c n) = true := by
      have := rowsC_of hs (by omega)
      rwa [hl] at this
    rw [asks_of (ask1 (by rw [hone]; simp; omega)), hu]
    by_cases h0 : n = 0
    . rw [cond_t (by simp [h0])]
      have : sortU (chunks 2 n c) = [] := List.eq_nil_of_length_eq_zero (by omega)
      rw [this]
      rfl
    . rw [cond_f (by simp [h0]), asks_of (ask1 hco), asks_of (ask1 hask), asks_of (ask1 hso), asks_of (ask1 hso), asks_of (ask1 hso), asks_of (ask1 (by rw [hrc]; simp)), asks_of (ask1 o1), asks_of o2, o3, asks_of (ask1 (rows_old hU))]
  . cases h
end
end Go.Proofs.YtpbemfikhmeedaaGreatDoor.Am
