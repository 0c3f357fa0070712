/- Bytes trimmed; which addresses and points are right. -/
import Derived.Test.YtaofbpldflcjmaaDoorMZMgGen
set_option linter.unusedVariables false
set_option linter.unusedSimpArgs false
set_option maxRecDepth 100000
set_option maxHeartbeats 4000000
namespace Go.Proofs.YtaofbpldflcjmaaDoor.Am
open St
def Sp.zeros (b : Nat -> Int) : List Nat -> Bool
  | [] => true
  | i :: r => (b i == 0) && Sp.zeros b r
def Sp.adOk (a : Ad) : Bool := a.six || Sp.zeros a.b [4, 5, 6, 7, 8, 9, 10, 11, 12, 13, 14, 15]
def Sp.ptOk (p : Pt) : Bool := Sp.adOk p.ad && (decide (1 <= p.port) && decide (p.port <= 65535))
def gAR (xs : List PV) : Option (Bool × PV) := match xs with
  | [x] => (asAd x).map fun a => (true, .bool (Sp.adOk a))
  | _ => none
def Sp.isU8 : PV -> Bool
  | .int .u8 _ => true
  | _ => false
def Sp.isB (k : Int) (x : PV) : Bool := asI x == k
def Sp.trR (k : Int) (c : List PV) : List PV := (c.reverse.dropWhile (Sp.isB k)).reverse
def Sp.trL (k : Int) (c : List PV) : List PV := c.dropWhile (Sp.isB k)
def gTRB (xs : List PV) : Option (Bool × PV) := match xs with
  | [.sl c 1 n none, .int .u8 k] => some (c.all Sp.isU8 && (Nat.beq n c.length && decide (n <= 1000000)), .sl (Sp.trR k c) 1 (Sp.trR k c).length none)
  | _ => none
def gTLB (xs : List PV) : Option (Bool × PV) := match xs with
  | [.sl c 1 n none, .int .u8 k] => some (c.all Sp.isU8 && (Nat.beq n c.length && decide (n <= 1000000)), .sl (Sp.trL k c) 1 (Sp.trL k c).length none)
  | _ => none
noncomputable def TTRB : Table := Tadd T0 53 gTRB
noncomputable def TTLB : Table := Tadd TTRB 52 gTLB
theorem tArS (N : Nat) (b : Nat -> Int) : apartS EN TTLB H0 (N + 50) 5 22 [.agg (⟨true, b⟩ : Ad).cs] = some (.bool true) := by kernel_rfl
def c12 (b : Nat -> Int) : List PV := [.int .u8 (b 4), .int .u8 (b 5), .int .u8 (b 6), .int .u8 (b 7), .int .u8 (b 8), .int .u8 (b 9), .int .u8 (b 10), .int .u8 (b 11), .int .u8 (b 12), .int .u8 (b 13), .int .u8 (b 14), .int .u8 (b 15)]
theorem tArF (N : Nat) (b : Nat -> Int) : apartS EN TTLB H0 (N + 50) 5 22 [.agg (⟨false, b⟩ : Ad).cs] =
    (ass (oldL 0 (Sp.trR 0 (c12 b))) <| ass ((Sp.trR 0 (c12 b)).all Sp.isU8 && (Nat.beq (Sp.trR 0 (c12 b)).length (Sp.trR 0 (c12 b)).length && decide ((Sp.trR 0 (c12 b)).length <= 1000000))) <|
      some (.bool (((Sp.trL 0 (Sp.trR 0 (c12 b))).length : Int) == 0))) := by kernel_rfl
noncomputable def LTR (N m : Nat) (c : List PV) (n : Nat) (k : Int) : Option PV := loopS EN T0 H0 N 5 53 Tryd.f53 [1, 0, 0] ([true, true, false, false, true] ++ List.replicate 19 false) 0 m ([some (PV.sl c 1 n none), some (PV.int IntKind.u8 k), none, none, some .nils] ++ List.replicate 19 none) []
noncomputable def LTL (N m : Nat) (c : List PV) (n : Nat) (k : Int) : Option PV := loopS EN TTRB H0 N 5 52 Tryd.f52 [1, 0, 0] ([true, true, false, false, true] ++ List.replicate 16 false) 0 m ([some (PV.sl c 1 n none), some (PV.int IntKind.u8 k), none, none, some .nils] ++ List.replicate 16 none) []
theorem t88 (N : Nat) (c : List PV) (n : Nat) (k : Int) : apartS EN T0 H0 N 5 53 [PV.sl c 1 n none, PV.int IntKind.u8 k] = LTR N N c n k := by kernel_rfl
theorem t87 (N : Nat) (c : List PV) (n : Nat) (k : Int) : apartS EN TTRB H0 N 5 52 [PV.sl c 1 n none, PV.int IntKind.u8 k] = LTL N N c n k := by kernel_rfl
theorem t88r (N : Nat) (m : Nat) (c : List PV) (n : Nat) (k : Int) : LTR N (m + 1) c n k =
  (bif decide ((↑n : Int) > 0) then
    (ass (decide (0 <= IntKind.i64.wrap ((↑n : Int) - 1)) && decide (IntKind.i64.wrap ((↑n : Int) - 1) < (↑n : Int))) <|
    ass (okAt [Kd.int IntKind.u8] c ((IntKind.i64.wrap ((↑n : Int) - 1)).toNat * 1)) <|
      bif asI (c.getD ((IntKind.i64.wrap ((↑n : Int) - 1)).toNat * 1) PV.nilp) == k then
          (ass (decide (0 <= IntKind.i64.wrap ((↑n : Int) - 1)) && decide (IntKind.i64.wrap ((↑n : Int) - 1) <= (↑n : Int))) <|
          ass (oldL 0 (List.take (((IntKind.i64.wrap ((↑n : Int) - 1)).toNat - 0) * 1) (List.drop 0 c))) <|
            LTR N (m) (List.take (((IntKind.i64.wrap ((↑n : Int) - 1)).toNat - 0) * 1) (List.drop 0 c)) ((IntKind.i64.wrap ((↑n : Int) - 1)).toNat - 0) (k))
        else
          (ass (oldL 0 c) <|
          some (PV.sl c 1 n none)))
  else
    (ass (oldL 0 c) <|
    some (PV.sl c 1 n none))) := by kernel_rfl
theorem t87r (N : Nat) (m : Nat) (c : List PV) (n : Nat) (k : Int) : LTL N (m + 1) c n k =
  (bif decide ((↑n : Int) > 0) then
    (ass (decide (0 <= 0) && decide (0 < (↑n : Int))) <|
    ass (okAt [Kd.int IntKind.u8] c 0) <|
      bif asI (c.getD 0 PV.nilp) == k then
          (ass (decide (0 <= 1) && decide (1 <= (↑n : Int))) <|
          ass (oldL 0 (List.take ((n - 1) * 1) (List.drop 1 c))) <|
            LTL N (m) (List.take ((n - 1) * 1) (List.drop 1 c)) (n - 1) (k))
        else
          (bif (↑n : Int) == 0 then
            (some (PV.sl [] 1 0 none))
          else
            (ass (oldL 0 c) <|
            some (PV.sl c 1 n none))))
  else
    (bif (↑n : Int) == 0 then
      (some (PV.sl [] 1 0 none))
    else
      (ass (oldL 0 c) <|
      some (PV.sl c 1 n none)))) := by kernel_rfl
theorem u8_at {c : List PV} (h : c.all Sp.isU8 = true) {i : Nat} (hi : i < c.length) : okAt [Kd.int IntKind.u8] c i = true := by
  have h1 := List.all_eq_true.1 h c[i] (List.getElem_mem hi)
  simp only [okAt, List.getElem?_eq_getElem hi, Bool.and_true]
  cases hx : c[i] <;> rw [hx] at h1 <;> simp_all [Sp.isU8]
  split at h1
  . rename_i e; cases e; rfl
  . cases h1
theorem u8_old : ∀ {c : List PV}, c.all Sp.isU8 = true -> oldL 0 c = true
  | [], _ => rfl
  | x :: c, h => by
    simp only [List.all_cons, Bool.and_eq_true] at h
    simp only [oldL, Bool.and_eq_true]
    refine ⟨?_, u8_old h.2⟩
    cases x <;> first | rfl | (simp [Sp.isU8] at h)
theorem trR_snoc (k : Int) (c : List PV) (x : PV) : Sp.trR k (c ++ [x]) = if Sp.isB k x then Sp.trR k c else c ++ [x] := by
  unfold Sp.trR
  rw [List.reverse_append]
  simp only [List.reverse_cons, List.reverse_nil, List.nil_append, List.singleton_append, List.dropWhile_cons]
  split <;> simp
theorem trR_sub (k : Int) (c : List PV) : (Sp.trR k c).length <= c.length /\ (c.all Sp.isU8 = true -> (Sp.trR k c).all Sp.isU8 = true) := by
  unfold Sp.trR
  have h := List.dropWhile_sublist (Sp.isB k) (l := c.reverse)
  refine ⟨by have := h.length_le; simpa using this, fun hc => ?_⟩
  rw [List.all_eq_true] at hc ⊢
  intro x hx
  exact hc x (by simpa using h.subset (by simpa using hx))
theorem loopTR (N : Nat) (k : Int) : ∀ (n : Nat) (c : List PV) (m : Nat), c.length = n -> n <= 1000000 -> n < m -> c.all Sp.isU8 = true -> LTR N m c n k = some (.sl (Sp.trR k c) 1 (Sp.trR k c).length none)
  | 0, c, m, hc, hn, hm, hu => by
    obtain ⟨m, rfl⟩ : ∃ q, m = q + 1 := ⟨m - 1, by omega⟩
    have := List.length_eq_zero_iff.1 hc
    subst this
    rw [t88r]
    rfl
  | n + 1, c, m, hc, hn, hm, hu => by
    obtain ⟨m, rfl⟩ : ∃ q, m = q + 1 := ⟨m - 1, by omega⟩
    rcases List.eq_nil_or_concat c with rfl | ⟨t, x, rfl⟩
    . simp at hc
    . rw [List.concat_eq_append] at hc hu ⊢
      have ht : t.length = n := by simpa using hc
      have hut : t.all Sp.isU8 = true := by rw [List.all_append, Bool.and_eq_true] at hu; exact hu.1
      have ih := loopTR N k n t m ht (by omega) (by omega) hut
      have w : IntKind.i64.wrap (((n + 1 : Nat) : Int) - 1) = (n : Int) := by
        rw [wrap_in] <;> simp <;> omega
      have c1 : ((n + 1 : Nat) : Int) > 0 := by omega
      have c2 : (n : Int) < ((n + 1 : Nat) : Int) := by omega
      have c3 : (n : Int) <= ((n + 1 : Nat) : Int) := by omega
      have e0 : (t ++ [x]).getD n .nilp = x := by rw [<- ht]; simp [List.getD_eq_getElem?_getD]
      have e1 : List.take n (List.drop 0 (t ++ [x])) = t := by rw [<- ht]; simp
      have e2 : okAt [Kd.int IntKind.u8] (t ++ [x]) n = true := u8_at hu (by simp; omega)
      rw [t88r]
      simp only [w, Int.toNat_natCast, Nat.mul_one, Nat.sub_zero, e0, e1, e2, u8_old hu, u8_old hut, ih, c1, c2, c3, decide_true, Bool.and_true, cond_true, ass_true, Int.natCast_nonneg]
      rw [trR_snoc]
      unfold Sp.isB
      cases hq : asI x == k with
      | true => rfl
      | false => simp only [cond_false, Bool.false_eq_true, if_false, List.length_append, List.length_cons, List.length_nil, ht]
theorem runTRB {N : Nat} (hN : 1000001 <= N) (xs : List PV) (v : PV) (h : gTRB xs = some (true, v)) : ∃ H, apartS EN T0 H N 5 53 xs = some v := by
  unfold gTRB at h
  split at h
  . rename_i c n k
    simp only [Option.some.injEq, Prod.mk.injEq, Bool.and_eq_true, decide_eq_true_eq] at h
    obtain ⟨⟨h1, h2, h3⟩, rfl⟩ := h
    have h2 := Nat.eq_of_beq_eq_true h2
    refine ⟨H0, (t88 N c n k).trans (loopTR N k n c N h2.symm h3 (by omega) h1)⟩
  . cases h
theorem loopTL (N : Nat) (k : Int) : ∀ (c : List PV) (m : Nat), c.length <= 1000000 -> c.length < m -> c.all Sp.isU8 = true -> LTL N m c c.length k = some (.sl (Sp.trL k c) 1 (Sp.trL k c).length none)
  | [], m, hn, hm, hu => by
    obtain ⟨m, rfl⟩ : ∃ q, m = q + 1 := ⟨m - 1, by omega⟩
    rw [t87r]
    rfl
  | x :: c, m, hn, hm, hu => by
    obtain ⟨m, rfl⟩ : ∃ q, m = q + 1 := ⟨m - 1, by omega⟩
    have hu' := hu
    simp only [List.all_cons, Bool.and_eq_true] at hu'
    have ih := loopTL N k c m (by simp at hn; omega) (by simp at hm; omega) hu'.2
    have c1 : (((x :: c).length : Nat) : Int) > 0 := by simp
    have c3 : (1 : Int) <= (((x :: c).length : Nat) : Int) := by simp <;> omega
    have c4 : ((((x :: c).length : Nat) : Int) == 0) = false := by
      rw [<- Bool.not_eq_true, beq_iff_eq]; simp; omega
    have e1 : List.take c.length (List.drop 1 (x :: c)) = c := by simp
    have e3 : (x :: c).length - 1 = c.length := rfl
    have e2 : okAt [Kd.int IntKind.u8] (x :: c) 0 = true := u8_at hu (by simp)
    have e4 : (x :: c).getD 0 .nilp = x := rfl
    rw [t87r]
    simp only [Nat.mul_one, e1, e2, e3, e4, u8_old hu, u8_old hu'.2, ih, c1, c3, c4, decide_true, Bool.and_true, cond_true, cond_false, ass_true, Int.le_refl]
    unfold Sp.trL Sp.isB
    rw [List.dropWhile_cons]
    cases hq : asI x == k with
    | true => rfl
    | false => rfl
theorem runTLB {N : Nat} (hN : 1000001 <= N) (xs : List PV) (v : PV) (h : gTLB xs = some (true, v)) : ∃ H, apartS EN TTRB H N 5 52 xs = some v := by
  unfold gTLB at h
  split at h
  . rename_i c n k
    simp only [Option.some.injEq, Prod.mk.injEq, Bool.and_eq_true, decide_eq_true_eq] at h
    obtain ⟨⟨h1, h2, h3⟩, rfl⟩ := h
    have h2 := Nat.eq_of_beq_eq_true h2
    subst h2
    refine ⟨H0, (t87 N c c.length k).trans (loopTL N k c N h3 (by omega) h1)⟩
  . cases h
theorem dwNil (p : PV -> Bool) : ∀ (l : List PV), l.dropWhile p = [] ↔ ∀ x ∈ l, p x = true
  | [] => by simp
  | a :: l => by
    rw [List.dropWhile_cons]
    cases ha : p a with
    | true => simp [dwNil p l, ha]
    | false => simp [ha]
theorem dwHead (p : PV -> Bool) : ∀ (l : List PV) {y : PV} {r : List PV}, l.dropWhile p = y :: r -> p y = false
  | [], y, r, h => by cases h
  | a :: l, y, r, h => by
    rw [List.dropWhile_cons] at h
    cases ha : p a with
    | true => rw [ha] at h; exact dwHead p l h
    | false =>
      rw [ha] at h
      simp only [Bool.false_eq_true, if_false, List.cons.injEq] at h
      rw [<- h.1]; exact ha
theorem zeros_tr (b : Nat -> Int) : ((((Sp.trL 0 (Sp.trR 0 (c12 b))).length : Nat) : Int) == 0) = Sp.zeros b [4, 5, 6, 7, 8, 9, 10, 11, 12, 13, 14, 15] := by
  have key : ∀ (l : List PV), (Sp.trL 0 (Sp.trR 0 l)).length = 0 ↔ ∀ x ∈ l, Sp.isB 0 x = true := by
    intro l
    unfold Sp.trL Sp.trR
    rw [List.length_eq_zero_iff, dwNil]
    constructor
    . intro h
      have h2 : ∀ y ∈ l.reverse.dropWhile (Sp.isB 0), Sp.isB 0 y = true := fun y hy => h y (by simpa using hy)
      cases hA : l.reverse.dropWhile (Sp.isB 0) with
      | nil => exact fun x hx => (dwNil _ _).1 hA x (by simpa using hx)
      | cons y r =>
        have h3 := dwHead _ _ hA
        rw [h2 y (by rw [hA]; simp)] at h3
        cases h3
    . intro h x hx
      have : x ∈ l.reverse := (List.dropWhile_sublist (Sp.isB 0)).subset (by simpa using hx)
      exact h x (by simpa using this)
  have key2 : Sp.zeros b [4, 5, 6, 7, 8, 9, 10, 11, 12, 13, 14, 15] = true ↔ ∀ x ∈ c12 b, Sp.isB 0 x = true := by
    simp [Sp.zeros, c12, Sp.isB, asI]
  rw [Bool.eq_iff_iff, key2, <- key, beq_iff_eq]
  omega
theorem runAR {N : Nat} (hN : 50 <= N) (xs : List PV) (v : PV) (h : gAR xs = some (true, v)) : ∃ H, apartS EN TTLB H N 5 22 xs = some v := by
  obtain ⟨N, rfl⟩ : ∃ k, N = k + 50 := ⟨N - 50, by omega⟩
  unfold gAR at h
  split at h
  . rename_i x
    simp only [Option.map_eq_some_iff, Prod.mk.injEq] at h
    obtain ⟨a, h1, _, rfl⟩ := h
    rw [asAd_ok h1]
    obtain ⟨s, b⟩ := a
    cases s with
    | true => exact ⟨H0, tArS N b⟩
    | false =>
      refine ⟨H0, (tArF N b).trans ?_⟩
      have hu : (c12 b).all Sp.isU8 = true := rfl
      have hu2 := (trR_sub 0 (c12 b)).2 hu
      have hl : (Sp.trR 0 (c12 b)).length <= 12 := (trR_sub 0 (c12 b)).1
      have hl2 : (Sp.trR 0 (c12 b)).length <= 1000000 := by omega
      rw [u8_old hu2, hu2, Nat.beq_refl, zeros_tr]
      simp only [hl2, decide_true, Bool.and_true, ass_true]
      rfl
  . cases h
theorem TTLBok : TR TTLB := (TR0.add TR0 (runTRB (by omega))).add (TR0.add TR0 (runTRB (by omega))) (runTLB (by omega))
noncomputable def TAr : Table := Tadd T0 22 gAR
theorem TArok : TR TAr := TR0.add TTLBok (runAR (by omega))
def gPR (xs : List PV) : Option (Bool × PV) := match xs with
  | [.int .i64 n] => some (true, .bool (decide (1 <= n) && decide (n <= 65535)))
  | _ => none
theorem tPR (N : Nat) (n : Int) : apartS EN T0 H0 N 5 23 [.int .i64 n] = (bif decide (n ≥ 1) then some (.bool (decide (n <= 65535))) else some (.bool false)) := by kernel_rfl
theorem runPR (xs : List PV) (v : PV) (h : gPR xs = some (true, v)) : ∃ H, apartS EN T0 H 1000009 5 23 xs = some v := by
  unfold gPR at h
  split at h
  . rename_i n
    simp only [Option.some.injEq, Prod.mk.injEq, true_and] at h
    subst h
    refine ⟨H0, (tPR 1000009 n).trans ?_⟩
    cases h2 : decide (n ≥ 1) <;> simp_all
  . cases h
noncomputable def TPR : Table := Tadd TAr 23 gPR
theorem TPRok : TR TPR := TArok.add TR0 runPR
def gPoi (xs : List PV) : Option (Bool × PV) := match xs with
  | [x] => (asPt x).map fun p => (true, .bool (Sp.ptOk p))
  | _ => none
theorem tPoi (N : Nat) (p : Pt) : apartS EN TPR H0 (N + 50) 5 13 [.agg p.cs] = (bif Sp.adOk p.ad then some (.bool (decide (1 <= p.port) && decide (p.port <= 65535))) else some (.bool false)) := by kernel_rfl
theorem runPoi (xs : List PV) (v : PV) (h : gPoi xs = some (true, v)) : ∃ H, apartS EN TPR H 1000009 5 13 xs = some v := by
  unfold gPoi at h
  split at h
  . rename_i x
    simp only [Option.map_eq_some_iff, Prod.mk.injEq] at h
    obtain ⟨p, h1, _, rfl⟩ := h
    rw [asPt_ok h1]
    refine ⟨H0, (tPoi 999959 p).trans ?_⟩
    unfold Sp.ptOk
    cases Sp.adOk p.ad <;> rfl
  . cases h
noncomputable def TPoi : Table := Tadd T0 13 gPoi
theorem TPoiok : TR TPoi := TR0.add TPRok runPoi
end Go.Proofs.YtaofbpldflcjmaaDoor.Am
