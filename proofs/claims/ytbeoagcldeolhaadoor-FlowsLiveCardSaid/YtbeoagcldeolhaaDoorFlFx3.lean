/- FlowsLive: what the functions answer. -/
import Derived.Test.YtbeoagcldeolhaaDoorFlFx2
set_option linter.unusedVariables false
set_option linter.unusedSimpArgs false
set_option maxRecDepth 100000
set_option maxHeartbeats 4000000
namespace Go.Proofs.YtbeoagcldeolhaaDoor.Am

theorem two_some {A B : Type} {f : PV → Option A} {g : A × A → B} {xs : List PV} {v : B} (h : (two f xs).map g = some v) : ∃ x y a b, xs = [x, y] ∧ f x = some a ∧ f y = some b ∧ v = g (a, b) := by
  simp only [Option.map_eq_some_iff] at h
  obtain ⟨⟨a, b⟩, h, rfl⟩ := h
  unfold two at h
  split at h
  · rename_i x y
    split at h
    · rename_i a' b' h1 h2
      cases h
      exact ⟨x, y, a, b, rfl, h1, h2, rfl⟩
    · cases h
  · cases h

theorem u8_at {c : List PV} (h : c.all Sp.isU8 = true) {i : Nat} (hi : i < c.length) : okAt [Kd.int IntKind.u8] c i = true := by
  have h1 := List.all_eq_true.1 h c[i] (List.getElem_mem hi)
  simp only [okAt, List.getElem?_eq_getElem hi, Bool.and_true]
  cases hx : c[i] <;> rw [hx] at h1 <;> simp_all [Sp.isU8]
  split at h1
  · rename_i e; cases e; rfl
  · cases h1

theorem u8_old : ∀ {c : List PV}, c.all Sp.isU8 = true → oldL 0 c = true
  | [], _ => rfl
  | x :: c, h => by
    simp only [List.all_cons, Bool.and_eq_true] at h
    simp only [oldL, Bool.and_eq_true]
    refine ⟨?_, u8_old h.2⟩
    cases x <;> first | rfl | (simp [Sp.isU8] at h)

theorem trR_snoc (k : Int) (c : List PV) (x : PV) : Sp.trR k (c ++ [x]) = if Sp.isB k x then Sp.trR k c else c ++ [x] := by
  unfold Sp.trR
  rw [List.reverse_append]
  simp only [List.reverse_cons, List.reverse_nil, List.nil_append, List.singleton_append, List.dropWhile_cons]
  split <;> simp

theorem trR_sub (k : Int) (c : List PV) : (Sp.trR k c).length ≤ c.length ∧ (c.all Sp.isU8 = true → (Sp.trR k c).all Sp.isU8 = true) := by
  unfold Sp.trR
  have h := List.dropWhile_sublist (Sp.isB k) (l := c.reverse)
  refine ⟨by have := h.length_le; simpa using this, fun hc => ?_⟩
  rw [List.all_eq_true] at hc ⊢
  intro x hx
  exact hc x (by simpa using h.subset (by simpa using hx))

theorem loopTR (N : Nat) (k : Int) : ∀ (n : Nat) (c : List PV) (m : Nat), c.length = n → n ≤ 1000000 → n < m → c.all Sp.isU8 = true → LTR N m c n k = some (.sl (Sp.trR k c) 1 (Sp.trR k c).length none)
  | 0, c, m, hc, hn, hm, hu => by
    obtain ⟨m, rfl⟩ : ∃ q, m = q + 1 := ⟨m - 1, by omega⟩
    have := List.length_eq_zero_iff.1 hc
    subst this
    rw [t88r]
    rfl
  | n + 1, c, m, hc, hn, hm, hu => by
    obtain ⟨m, rfl⟩ : ∃ q, m = q + 1 := ⟨m - 1, by omega⟩
    rcases List.eq_nil_or_concat c with rfl | ⟨t, x, rfl⟩
    · simp at hc
    · rw [List.concat_eq_append] at hc hu ⊢
      have ht : t.length = n := by simpa using hc
      have hut : t.all Sp.isU8 = true := by rw [List.all_append, Bool.and_eq_true] at hu; exact hu.1
      have ih := loopTR N k n t m ht (by omega) (by omega) hut
      have w : IntKind.i64.wrap (((n + 1 : Nat) : Int) - 1) = (n : Int) := by
        rw [wrap_in] <;> simp <;> omega
      have c1 : ((n + 1 : Nat) : Int) > 0 := by omega
      have c2 : (n : Int) < ((n + 1 : Nat) : Int) := by omega
      have c3 : (n : Int) ≤ ((n + 1 : Nat) : Int) := by omega
      have e0 : (t ++ [x]).getD n .nilp = x := by rw [← ht]; simp [List.getD_eq_getElem?_getD]
      have e1 : List.take n (List.drop 0 (t ++ [x])) = t := by rw [← ht]; simp
      have e2 : okAt [Kd.int IntKind.u8] (t ++ [x]) n = true := u8_at hu (by simp; omega)
      rw [t88r]
      simp only [w, Int.toNat_natCast, Nat.mul_one, Nat.sub_zero, e0, e1, e2, u8_old hu, u8_old hut, ih, c1, c2, c3, decide_true, Bool.and_true, cond_true, ass_true, Int.natCast_nonneg]
      rw [trR_snoc]
      unfold Sp.isB
      cases hq : asI x == k with
      | true => rfl
      | false => simp only [cond_false, Bool.false_eq_true, if_false, List.length_append, List.length_cons, List.length_nil, ht]

theorem runTRB {N : Nat} (hN : 1000001 ≤ N) (xs : List PV) (v : PV) (h : gTRB xs = some (true, v)) : ∃ H, apartS EN TRKey H N 5 88 xs = some v := by
  unfold gTRB at h
  split at h
  · rename_i c n k
    simp only [Option.some.injEq, Prod.mk.injEq, Bool.and_eq_true, decide_eq_true_eq] at h
    obtain ⟨⟨h1, h2, h3⟩, rfl⟩ := h
    have h2 := Nat.eq_of_beq_eq_true h2
    refine ⟨H0, (t88 N c n k).trans (loopTR N k n c N h2.symm h3 (by omega) h1)⟩
  · cases h

theorem loopTL (N : Nat) (k : Int) : ∀ (c : List PV) (m : Nat), c.length ≤ 1000000 → c.length < m → c.all Sp.isU8 = true → LTL N m c c.length k = some (.sl (Sp.trL k c) 1 (Sp.trL k c).length none)
  | [], m, hn, hm, hu => by
    obtain ⟨m, rfl⟩ : ∃ q, m = q + 1 := ⟨m - 1, by omega⟩
    rw [t87r]
    rfl
  | x :: c, m, hn, hm, hu => by
    obtain ⟨m, rfl⟩ : ∃ q, m = q + 1 := ⟨m - 1, by omega⟩
    have hu' := hu
    simp only [List.all_cons, Bool.and_eq_true] at hu'
    have ih := loopTL N k c m (by simp at hn; omega) (by simp at hm; omega) hu'.2
    have c1 : (((x :: c).length : Nat) : Int) > 0 := by simp
    have c3 : (1 : Int) ≤ (((x :: c).length : Nat) : Int) := by simp <;> omega
    have c4 : ((((x :: c).length : Nat) : Int) == 0) = false := by
      rw [← Bool.not_eq_true, beq_iff_eq]; simp; omega
    have e1 : List.take c.length (List.drop 1 (x :: c)) = c := by simp
    have e3 : (x :: c).length - 1 = c.length := rfl
    have e2 : okAt [Kd.int IntKind.u8] (x :: c) 0 = true := u8_at hu (by simp)
    have e4 : (x :: c).getD 0 .nilp = x := rfl
    rw [t87r]
    simp only [Nat.mul_one, e1, e2, e3, e4, u8_old hu, u8_old hu'.2, ih, c1, c3, c4, decide_true, Bool.and_true, cond_true, cond_false, ass_true, Int.le_refl]
    unfold Sp.trL Sp.isB
    rw [List.dropWhile_cons]
    cases hq : asI x == k with
    | true => rfl
    | false => rfl

theorem runTLB {N : Nat} (hN : 1000001 ≤ N) (xs : List PV) (v : PV) (h : gTLB xs = some (true, v)) : ∃ H, apartS EN TTRB H N 5 87 xs = some v := by
  unfold gTLB at h
  split at h
  · rename_i c n k
    simp only [Option.some.injEq, Prod.mk.injEq, Bool.and_eq_true, decide_eq_true_eq] at h
    obtain ⟨⟨h1, h2, h3⟩, rfl⟩ := h
    have h2 := Nat.eq_of_beq_eq_true h2
    subst h2
    refine ⟨H0, (t87 N c c.length k).trans (loopTL N k c N h3 (by omega) h1)⟩
  · cases h

theorem dwNil (p : PV → Bool) : ∀ (l : List PV), l.dropWhile p = [] ↔ ∀ x ∈ l, p x = true
  | [] => by simp
  | a :: l => by
    rw [List.dropWhile_cons]
    cases ha : p a with
    | true => simp [dwNil p l, ha]
    | false => simp [ha]

theorem dwHead (p : PV → Bool) : ∀ (l : List PV) {y : PV} {r : List PV}, l.dropWhile p = y :: r → p y = false
  | [], y, r, h => by cases h
  | a :: l, y, r, h => by
    rw [List.dropWhile_cons] at h
    cases ha : p a with
    | true => rw [ha] at h; exact dwHead p l h
    | false =>
      rw [ha] at h
      simp only [Bool.false_eq_true, if_false, List.cons.injEq] at h
      rw [← h.1]; exact ha

theorem zeros_tr (b : Nat → Int) : ((((Sp.trL 0 (Sp.trR 0 (c12 b))).length : Nat) : Int) == 0) = Sp.zeros b [4, 5, 6, 7, 8, 9, 10, 11, 12, 13, 14, 15] := by
  have key : ∀ (l : List PV), (Sp.trL 0 (Sp.trR 0 l)).length = 0 ↔ ∀ x ∈ l, Sp.isB 0 x = true := by
    intro l
    unfold Sp.trL Sp.trR
    rw [List.length_eq_zero_iff, dwNil]
    constructor
    · intro h
      have h2 : ∀ y ∈ l.reverse.dropWhile (Sp.isB 0), Sp.isB 0 y = true := fun y hy => h y (by simpa using hy)
      cases hA : l.reverse.dropWhile (Sp.isB 0) with
      | nil => exact fun x hx => (dwNil _ _).1 hA x (by simpa using hx)
      | cons y r =>
        have h3 := dwHead _ _ hA
        rw [h2 y (by rw [hA]; simp)] at h3
        cases h3
    · intro h x hx
      have : x ∈ l.reverse := (List.dropWhile_sublist (Sp.isB 0)).subset (by simpa using hx)
      exact h x (by simpa using this)
  have key2 : Sp.zeros b [4, 5, 6, 7, 8, 9, 10, 11, 12, 13, 14, 15] = true ↔ ∀ x ∈ c12 b, Sp.isB 0 x = true := by
    simp [Sp.zeros, c12, Sp.isB, asI]
  rw [Bool.eq_iff_iff, key2, ← key, beq_iff_eq]
  omega

theorem runAR {N : Nat} (hN : 50 ≤ N) (xs : List PV) (v : PV) (h : gAR xs = some (true, v)) : ∃ H, apartS EN TA2 H N 5 47 xs = some v := by
  obtain ⟨N, rfl⟩ : ∃ k, N = k + 50 := ⟨N - 50, by omega⟩
  unfold gAR at h
  split at h
  · rename_i x
    simp only [Option.map_eq_some_iff, Prod.mk.injEq] at h
    obtain ⟨a, h1, _, rfl⟩ := h
    rw [asAd_ok h1]
    obtain ⟨s, b⟩ := a
    cases s with
    | true => exact ⟨H0, tArS N b⟩
    | false =>
      refine ⟨H0, (tArF N b).trans ?_⟩
      have hu : (c12 b).all Sp.isU8 = true := rfl
      have hu2 := (trR_sub 0 (c12 b)).2 hu
      have hl : (Sp.trR 0 (c12 b)).length ≤ 12 := (trR_sub 0 (c12 b)).1
      have hl2 : (Sp.trR 0 (c12 b)).length ≤ 1000000 := by omega
      rw [u8_old hu2, hu2, Nat.beq_refl, zeros_tr]
      simp only [hl2, decide_true, Bool.and_true, ass_true]
      rfl
  · cases h

theorem zerosT_eq (b : Nat → Int) : ∀ l, zerosT b l = some (.bool (Sp.zeros b l))
  | [] => rfl
  | i :: l => by
    simp only [zerosT, Sp.zeros, zerosT_eq b l]
    cases hq : b i == 0 with
    | true => simp [bne, hq]
    | false => simp [bne, hq]

theorem runRR {N : Nat} (hN : 50 ≤ N) (xs : List PV) (v : PV) (h : gAR xs = some (true, v)) : ∃ H, apartS EN TA3 H N 5 52 xs = some v := by
  obtain ⟨N, rfl⟩ : ∃ k, N = k + 50 := ⟨N - 50, by omega⟩
  unfold gAR at h
  split at h
  · rename_i x
    simp only [Option.map_eq_some_iff, Prod.mk.injEq] at h
    obtain ⟨a, h1, _, rfl⟩ := h
    rw [asAd_ok h1]
    obtain ⟨s, b⟩ := a
    cases s with
    | true => exact ⟨H0, tRrS N b⟩
    | false => exact ⟨H0, (tRrF N b).trans (zerosT_eq b _)⟩
  · cases h

theorem cmpT (p q : Bool) : (bif p then some (vi (-1)) else bif q then some (vi 1) else some (vi 0)) = some (vi (bif p then -1 else bif q then 1 else 0)) := by cases p <;> cases q <;> rfl

theorem runNaN {N : Nat} (xs : List PV) (v : PV) (h : gNaN xs = some (true, v)) : ∃ H, apartS EN TTLB H N 5 54 xs = some v := by
  unfold gNaN at h
  split at h
  · rename_i a
    cases h
    exact ⟨H0, (tNaN N a).trans (by simp)⟩
  · cases h

theorem runCmp {N : Nat} (xs : List PV) (v : PV) (h : gCmp xs = some (true, v)) : ∃ H, apartS EN TNaN H N 5 34 xs = some v := by
  unfold gCmp at h
  split at h
  · rename_i a b
    cases h
    exact ⟨H0, (tCmp N a b).trans (cmpT _ _)⟩
  · cases h

theorem runOr {N : Nat} (hN : 9 ≤ N) (xs : List PV) (v : PV) (h : gOr xs = some (true, v)) : ∃ H, apartS EN TCmp H N 5 33 xs = some v := by
  obtain ⟨N, rfl⟩ : ∃ k, N = k + 9 := ⟨N - 9, by omega⟩
  unfold gOr at h
  split at h
  · rename_i a b xc
    cases h
    refine ⟨H0, (tOr2 N a b xc).trans ?_⟩
    simp only [orr]
    cases a != 0 <;> cases b != 0 <;> rfl
  · rename_i a b c xc
    cases h
    refine ⟨H0, (tOr3 N a b c xc).trans ?_⟩
    simp only [orr]
    cases a != 0 <;> cases b != 0 <;> cases c != 0 <;> rfl
  · cases h

theorem runAdC {N : Nat} (xs : List PV) (v : PV) (h : gAd2 adC xs = some (true, v)) : ∃ H, apartS EN TOr H N 5 55 xs = some v := by
  obtain ⟨x, y, a, b, rfl, h1, h2, e⟩ := two_some h
  cases e
  rw [asAd_ok h1, asAd_ok h2]
  refine ⟨H0, (tAdC N a b).trans ?_⟩
  unfold adC
  cases a.six == b.six <;> cases a.six <;> rfl

theorem loopT_eq (a b : Nat → Int) : ∀ l, loopT a b l = some (vi (loopI a b l))
  | [] => rfl
  | i :: l => by
    simp only [loopT, loopI, loopT_eq a b l]
    cases decide (a i < b i) <;> cases decide (a i > b i) <;> rfl

theorem runAdR {N : Nat} (hN : 50 ≤ N) (xs : List PV) (v : PV) (h : gAd2 adR xs = some (true, v)) : ∃ H, apartS EN TA1 H N 5 56 xs = some v := by
  obtain ⟨N, rfl⟩ : ∃ k, N = k + 50 := ⟨N - 50, by omega⟩
  obtain ⟨x, y, a, b, rfl, h1, h2, e⟩ := two_some h
  cases e
  rw [asAd_ok h1, asAd_ok h2]
  refine ⟨H0, (tAdR N a b).trans ?_⟩
  rw [loopT_eq]
  unfold adR
  cases a.six == b.six <;> cases a.six <;> rfl

theorem runPtC {N : Nat} (hN : 50 ≤ N) (xs : List PV) (v : PV) (h : gPt2 ptC xs = some (true, v)) : ∃ H, apartS EN TA4 H N 5 35 xs = some v := by
  obtain ⟨N, rfl⟩ : ∃ k, N = k + 50 := ⟨N - 50, by omega⟩
  obtain ⟨x, y, a, b, rfl, h1, h2, e⟩ := two_some h
  cases e
  rw [asPt_ok h1, asPt_ok h2]
  exact ⟨H0, tPtC N a b⟩

theorem runPtR {N : Nat} (hN : 50 ≤ N) (xs : List PV) (v : PV) (h : gPt2 ptR xs = some (true, v)) : ∃ H, apartS EN TA5 H N 5 36 xs = some v := by
  obtain ⟨N, rfl⟩ : ∃ k, N = k + 50 := ⟨N - 50, by omega⟩
  obtain ⟨x, y, a, b, rfl, h1, h2, e⟩ := two_some h
  cases e
  rw [asPt_ok h1, asPt_ok h2]
  refine ⟨H0, (tPtR N a b).trans ?_⟩
  unfold ptR cmpI
  cases adR a.ad b.ad != 0 <;> cases decide (a.port < b.port) <;> cases decide (a.port > b.port) <;> rfl

theorem runFcC {N : Nat} (hN : 50 ≤ N) (xs : List PV) (v : PV) (h : gFl2 Sp.fcC xs = some (true, v)) : ∃ H, apartS EN TA10 H N 5 11 xs = some v := by
  obtain ⟨N, rfl⟩ : ∃ k, N = k + 50 := ⟨N - 50, by omega⟩
  obtain ⟨x, y, a, b, rfl, h1, h2, e⟩ := two_some h
  cases e
  rw [asFl_ok h1, asFl_ok h2]
  exact ⟨H0, t11 N a b⟩

theorem runFcR {N : Nat} (hN : 50 ≤ N) (xs : List PV) (v : PV) (h : gFl2 Sp.fcR xs = some (true, v)) : ∃ H, apartS EN TA11 H N 5 12 xs = some v := by
  obtain ⟨N, rfl⟩ : ∃ k, N = k + 50 := ⟨N - 50, by omega⟩
  obtain ⟨x, y, a, b, rfl, h1, h2, e⟩ := two_some h
  cases e
  rw [asFl_ok h1, asFl_ok h2]
  refine ⟨H0, (t12 N a b).trans ?_⟩
  unfold Sp.fcR
  cases a.proto != b.proto <;> cases decide (a.proto < b.proto) <;> cases ptR a.client b.client != 0 <;> rfl

end Go.Proofs.YtbeoagcldeolhaaDoor.Am
