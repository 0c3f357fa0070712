/- Labels and keys: what the functions answer. -/
import Derived.Test.YtcjcinipfdameaaGreatDoorDlNm3
set_option linter.unusedVariables false
set_option linter.unusedSimpArgs false
set_option maxRecDepth 100000
set_option maxHeartbeats 4000000
namespace Go.Proofs.YtcjcinipfdameaaGreatDoor.Am

theorem ass_intro {R : Type} {c : Bool} {x : Option R} {v : R} (h : c = true) (k : x = some v) : ass c x = some v := by subst h; exact k

theorem getD0 (x : UInt8) (s : List UInt8) : (x :: s).getD 0 0 = x := rfl

theorem byte_lt (x : UInt8) : ((x.toNat : Nat) : Int) < 256 := by have := x.toNat_lt; omega

theorem set_at {c : List PV} (h : Sp.isSet c = true) (b : UInt8) : okAt [Kd.bool] c b.toNat = true := by
  unfold Sp.isSet at h
  simp only [Bool.and_eq_true, decide_eq_true_eq] at h
  have hb := b.toNat_lt
  have hlt : b.toNat < c.length := by rw [h.1]; omega
  have := List.all_eq_true.1 h.2 c[b.toNat] (List.getElem_mem hlt)
  simp only [okAt, List.getElem?_eq_getElem hlt, Bool.and_true]
  cases hx : c[b.toNat] with
  | bool b => rfl
  | _ => rw [hx] at this; simp at this

theorem set_old {c : List PV} (h : Sp.isSet c = true) : oldL 0 c = true := by
  unfold Sp.isSet at h
  simp only [Bool.and_eq_true] at h
  have := h.2
  clear h
  induction c with
  | nil => rfl
  | cons x c ih =>
    simp only [List.all_cons, Bool.and_eq_true] at this
    simp only [oldL, Bool.and_eq_true]
    refine ⟨?_, ih this.2⟩
    cases x <;> first | rfl | (have := this.1; simp at this)

theorem loop50 (N : Nat) (c : List PV) (hc : Sp.isSet c = true) : ∀ (s : List UInt8) (m : Nat), s.length < m → L50 H0 N m s c = some (.str (Sp.trimL c s))
  | [], m, hm => by
    obtain ⟨m, rfl⟩ : ∃ q, m = q + 1 := ⟨m - 1, by omega⟩
    rw [t50r]
    rfl
  | x :: s, m, hm => by
    obtain ⟨m, rfl⟩ : ∃ q, m = q + 1 := ⟨m - 1, by omega⟩
    have ih := loop50 N c hc s m (by simp at hm; omega)
    have hx := byte_lt x
    have c1 : (((x :: s).length : Nat) : Int) > 0 := by simp <;> omega
    have c2 : 0 < (x :: s).length := by simp
    have c3 : (1 : Int) ≤ (((x :: s).length : Nat) : Int) := by omega
    have e1 : List.take ((x :: s).length - 1) (List.drop 1 (x :: s)) = s := by simp
    rw [t50r]
    simp only [getD0, Nat.mul_one, Nat.zero_add, set_at hc x, set_old hc, c1, c2, c3, hx, e1, ih, decide_true, Bool.and_true, cond_true, Int.le_refl, Int.natCast_nonneg]
    unfold Sp.trimL
    rw [List.dropWhile_cons]
    unfold Sp.inSet
    cases hq : asB (c.getD x.toNat .nilp) with
    | true => rfl
    | false => rfl

theorem run50 {N : Nat} (hN : 1000001 ≤ N) (xs : List PV) (v : PV) (h : gTL xs = some (true, v)) : ∃ H, apartS EN T0 H N 5 111 xs = some v := by
  unfold gTL at h
  split at h
  · rename_i s c
    simp only [Option.some.injEq, Prod.mk.injEq, Bool.and_eq_true, decide_eq_true_eq] at h
    obtain ⟨⟨h1, h2⟩, rfl⟩ := h
    exact ⟨H0, (t50 N s c).trans (loop50 N c h1 s N (by omega))⟩
  · cases h

theorem trimR_snoc (c : List PV) (s : List UInt8) (x : UInt8) : Sp.trimR c (s ++ [x]) = if Sp.inSet c x then Sp.trimR c s else s ++ [x] := by
  unfold Sp.trimR
  rw [List.reverse_append, List.reverse_singleton, List.singleton_append, List.dropWhile_cons]
  split <;> simp

theorem loop51 (N : Nat) (c : List PV) (hc : Sp.isSet c = true) : ∀ (n : Nat) (s : List UInt8) (m : Nat), s.length = n → n ≤ 1000000 → n < m → L51 H0 N m s c = some (.str (Sp.trimR c s))
  | 0, s, m, hs, hn, hm => by
    obtain ⟨m, rfl⟩ : ∃ q, m = q + 1 := ⟨m - 1, by omega⟩
    have := List.length_eq_zero_iff.1 hs
    subst this
    rw [t51r]
    rfl
  | n + 1, s, m, hs, hn, hm => by
    obtain ⟨m, rfl⟩ : ∃ q, m = q + 1 := ⟨m - 1, by omega⟩
    rcases List.eq_nil_or_concat s with rfl | ⟨t, x, rfl⟩
    · simp at hs
    · rw [List.concat_eq_append] at hs ⊢
      have ht : t.length = n := by simpa using hs
      have ih := loop51 N c hc n t m ht (by omega) (by omega)
      have hx := byte_lt x
      have w : IntKind.i64.wrap ((((t ++ [x]).length : Nat) : Int) - 1) = (t.length : Int) := by
        rw [wrap_in] <;> simp <;> omega
      have c1 : (((t ++ [x]).length : Nat) : Int) > 0 := by simp <;> omega
      have c2 : t.length < (t ++ [x]).length := by simp
      have c3 : (t.length : Int) ≤ (((t ++ [x]).length : Nat) : Int) := by simp <;> omega
      have e0 : (t ++ [x]).getD t.length 0 = x := by simp [List.getD_eq_getElem?_getD]
      have e1 : List.take (t.length - 0) (List.drop 0 (t ++ [x])) = t := by simp
      rw [t51r]
      simp only [w, Int.toNat_natCast, e0, Nat.mul_one, Nat.zero_add, set_at hc x, set_old hc, c1, c2, c3, hx, e1, ih, decide_true, Bool.and_true, cond_true, Int.natCast_nonneg]
      rw [trimR_snoc]
      unfold Sp.inSet
      cases hq : asB (c.getD x.toNat .nilp) with
      | true => rfl
      | false => rfl

theorem run51 {N : Nat} (hN : 1000001 ≤ N) (xs : List PV) (v : PV) (h : gTR xs = some (true, v)) : ∃ H, apartS EN T0 H N 5 112 xs = some v := by
  unfold gTR at h
  split at h
  · rename_i s c
    simp only [Option.some.injEq, Prod.mk.injEq, Bool.and_eq_true, decide_eq_true_eq] at h
    obtain ⟨⟨h1, h2⟩, rfl⟩ := h
    exact ⟨H0, (t51 N s c).trans (loop51 N c h1 s.length s N rfl h2 (by omega))⟩
  · cases h

theorem asSet : Sp.isSet Sp.asCells = true := by
  unfold Sp.isSet Sp.asCells
  simp

theorem asIn (b : UInt8) : Sp.inSet Sp.asCells b = Sp.lb b := by
  have hb := b.toNat_lt
  unfold Sp.inSet Sp.asCells
  rw [List.getD_eq_getElem?_getD, List.getElem?_map, List.getElem?_range (by omega)]
  simp [asB]

theorem trimR_len (c : List PV) (s : List UInt8) : (Sp.trimR c s).length ≤ s.length := by
  unfold Sp.trimR
  rw [List.length_reverse]
  have := List.Sublist.length_le (List.dropWhile_sublist (Sp.inSet c) (l := s.reverse))
  simpa using this

theorem run31 {N : Nat} (hN : 50 ≤ N) (xs : List PV) (v : PV) (h : gTrim xs = some (true, v)) : ∃ H, apartS EN TTR H N 5 93 xs = some v := by
  obtain ⟨N, rfl⟩ : ∃ q, N = q + 50 := ⟨N - 50, by omega⟩
  unfold gTrim at h
  split at h
  · rename_i s cs
    simp only [Option.some.injEq, Prod.mk.injEq, Bool.and_eq_true, decide_eq_true_eq] at h
    obtain ⟨⟨rfl, h2⟩, rfl⟩ := h
    cases s with
    | nil => exact ⟨H0, t31z N⟩
    | cons x s =>
      refine ⟨H0, (t31 N x s).trans ?_⟩
      have := trimR_len Sp.asCells (x :: s)
      refine ass_intro (by rw [asSet]; simp only [h2, decide_true, Bool.and_true]) (ass_intro (by rw [asSet]; simp only [Bool.true_and, decide_eq_true_eq]; omega) rfl)
  · cases h

theorem dw_all {p : UInt8 → Bool} : ∀ (l : List UInt8), (∀ b ∈ l.dropWhile p, p b = true) → ∀ b ∈ l, p b = true
  | [], _, b, hb => by cases hb
  | a :: l, h, b, hb => by
    rw [List.dropWhile_cons] at h
    by_cases ha : p a = true
    · rw [if_pos ha] at h
      rcases List.mem_cons.1 hb with rfl | hb
      · exact ha
      · exact dw_all l h b hb
    · rw [if_neg ha] at h
      exact absurd (h a (by simp)) ha

theorem trim_nil (s : List UInt8) : (Sp.trim s == []) = s.all Sp.lb := by
  have hp : Sp.inSet Sp.asCells = Sp.lb := funext asIn
  unfold Sp.trim Sp.trimL Sp.trimR
  rw [hp, Bool.eq_iff_iff, beq_iff_eq, List.all_eq_true]
  constructor
  · intro h
    have h1 : ∀ b ∈ (s.reverse.dropWhile Sp.lb).reverse, Sp.lb b = true := fun b hb => by
      have : ∀ (l : List UInt8), l.dropWhile Sp.lb = [] → ∀ b ∈ l, Sp.lb b = true := fun l hl => dw_all l (fun b hb => by rw [hl] at hb; cases hb)
      exact this _ h b hb
    have h2 := dw_all s.reverse fun b hb => h1 b (by simpa using hb)
    exact fun b hb => h2 b (by simpa using hb)
  · intro h
    have h1 : s.reverse.dropWhile Sp.lb = [] := by
      have : ∀ (l : List UInt8), (∀ b ∈ l, Sp.lb b = true) → l.dropWhile Sp.lb = [] := by
        intro l
        induction l with
        | nil => intro _; rfl
        | cons a l ih =>
          intro hl
          rw [List.dropWhile_cons, if_pos (hl a (by simp))]
          exact ih fun b hb => hl b (by simp [hb])
      exact this _ fun b hb => h b (by simpa using hb)
    rw [h1]
    rfl

theorem one_at (s : List UInt8) (i : Nat) (hi : i < s.length) : ((s.drop i).take 1 == [45]) = decide (s.getD i 0 = 45) := by
  rw [List.drop_eq_getElem_cons hi, List.getD_eq_getElem?_getD, List.getElem?_eq_getElem hi]
  simp only [List.take_succ_cons, List.take_zero, Option.getD_some]
  rw [Bool.eq_iff_iff]
  simp

theorem run19 {N : Nat} (xs : List PV) (v : PV) (h : gLab xs = some (true, v)) : ∃ H, apartS EN TTrim H N 5 70 xs = some v := by
  unfold gLab at h
  split at h
  · rename_i s
    simp only [Option.some.injEq, Prod.mk.injEq, decide_eq_true_eq] at h
    obtain ⟨h1, rfl⟩ := h
    refine ⟨H0, (t19 N s).trans ?_⟩
    refine ass_intro (by simp only [h1, decide_true, Bool.and_true]) ?_
    rw [trim_nil]
    unfold Sp.label
    cases s with
    | nil => simp
    | cons x s =>
      have hpos : 0 < (x :: s).length := by simp
      have c1 : (((x :: s).length : Nat) : Int) ≥ 1 := by simp <;> omega
      have w : IntKind.i64.wrap ((((x :: s).length : Nat) : Int) - 1) = (((x :: s).length - 1 : Nat) : Int) := by
        rw [wrap_in] <;> omega
      have c2 : (((x :: s).length - 1 : Nat) : Int) ≤ (((x :: s).length : Nat) : Int) := by omega
      have e1 : (x :: s).length - ((x :: s).length - 1) = 1 := by simp
      have c5 : (0 : Int) ≤ 1 := by decide
      have c6 : (1 : Int) ≤ (((x :: s).length : Nat) : Int) := by omega
      have o1 := one_at (x :: s) 0 hpos
      have o2 := one_at (x :: s) ((x :: s).length - 1) (by simp)
      have e2 : ((x :: s) == []) = false := rfl
      have e3 : decide ((((x :: s).length : Nat) : Int) ≤ 15) = decide ((x :: s).length ≤ 15) := by rw [Bool.eq_iff_iff]; simp <;> omega
      have e4 : decide (1 ≤ (x :: s).length) = true := by simp
      simp only [c1, w, c2, c5, c6, Int.toNat_natCast, e1, o1, o2, e2, e3, e4, decide_true, Bool.true_and, cond_true, Bool.not_false, Int.natCast_nonneg]
      simp only [ne_eq, decide_not]
      generalize (x :: s).all Sp.lb = A
      generalize decide ((x :: s).getD 0 0 = 45) = B
      generalize decide ((x :: s).getD ((x :: s).length - 1) 0 = 45) = C
      generalize decide ((x :: s).length ≤ 15) = D
      cases A <;> cases B <;> cases C <;> cases D <;> rfl
  · cases h

theorem loop20 (N : Nat) (s : List UInt8) (hs : s.length ≤ 1000000) : ∀ (k i m : Nat), i + k = s.length → k < m → L20 H0 N m s (i : Int) = some (.bool ((s.drop i).all Sp.lb))
  | 0, i, m, h, hm => by
    obtain ⟨m, rfl⟩ : ∃ q, m = q + 1 := ⟨m - 1, by omega⟩
    have hi : i = s.length := by omega
    subst hi
    rw [t20r]
    simp
  | k + 1, i, m, h, hm => by
    obtain ⟨m, rfl⟩ : ∃ q, m = q + 1 := ⟨m - 1, by omega⟩
    have hi : i < s.length := by omega
    have ih := loop20 N s hs k (i + 1) m (by omega) (by omega)
    have e3 : IntKind.i64.wrap ((i : Int) + 1) = ((i + 1 : Nat) : Int) := wrap_succ (by omega)
    have c1 : ((i : Int) < (s.length : Int)) := by omega
    have hg : s.getD i 0 = s[i] := by rw [List.getD_eq_getElem?_getD, List.getElem?_eq_getElem hi]; rfl
    rw [t20r, List.drop_eq_getElem_cons hi, List.all_cons]
    simp only [hg, e3, c1, hi, ih, decide_true, Bool.and_true, cond_true, ass_true, Int.natCast_nonneg]
    generalize (List.drop (i + 1) s).all Sp.lb = R
    unfold Sp.lb
    generalize s[i].toNat = n
    by_cases h1 : n = 45
    · subst h1; simp
    · have q1 : ((n : Int) != 45) = true := by simp only [bne_iff_ne, ne_eq]; omega
      rw [q1]
      simp only [cond_true, h1, decide_false, Bool.or_false]
      by_cases h2 : 97 ≤ n
      · have q2 : (n : Int) ≥ 97 := by omega
        by_cases h3 : n ≤ 122
        · have q3 : (n : Int) ≤ 122 := by omega
          simp [h2, h3, q2, q3]
        · have q3 : ¬ (n : Int) ≤ 122 := by omega
          have q4 : (n : Int) ≥ 48 := by omega
          have q5 : ¬ (n : Int) ≤ 57 := by omega
          have q6 : ¬ n ≤ 57 := by omega
          simp [h2, h3, q2, q3, q4, q5, q6]
      · have q2 : ¬ (n : Int) ≥ 97 := by omega
        by_cases h3 : 48 ≤ n
        · have q3 : (n : Int) ≥ 48 := by omega
          by_cases h4 : n ≤ 57
          · have q4 : (n : Int) ≤ 57 := by omega
            simp [h2, h3, h4, q2, q3, q4]
          · have q4 : ¬ (n : Int) ≤ 57 := by omega
            simp [h2, h3, h4, q2, q3, q4]
        · have q3 : ¬ (n : Int) ≥ 48 := by omega
          simp [h2, h3, q2, q3]

theorem run20 {N : Nat} (hN : 1000001 ≤ N) (xs : List PV) (v : PV) (h : gLab xs = some (true, v)) : ∃ H, apartS EN T0 H N 5 44 xs = some v := by
  unfold gLab at h
  split at h
  · rename_i s
    simp only [Option.some.injEq, Prod.mk.injEq, decide_eq_true_eq] at h
    obtain ⟨h1, rfl⟩ := h
    refine ⟨H0, (t20 N s).trans ?_⟩
    unfold Sp.label
    by_cases k1 : 1 ≤ s.length
    · have q1 : ¬ ((s.length : Int) < 1) := by omega
      by_cases k2 : s.length ≤ 15
      · have q2 : ¬ ((s.length : Int) > 15) := by omega
        have w : IntKind.i64.wrap ((s.length : Int) - 1) = ((s.length - 1 : Nat) : Int) := by rw [wrap_in] <;> omega
        have c2 : s.length - 1 < s.length := by omega
        have c3 : 0 < s.length := by omega
        have l := loop20 N s h1 s.length 0 N (by omega) (by omega)
        simp only [Int.ofNat_zero, List.drop_zero] at l
        have o : ∀ b : UInt8, (((b.toNat : Nat) : Int) == 45) = decide (b = 45) := fun b => by
          rw [Bool.eq_iff_iff, beq_iff_eq, decide_eq_true_eq]
          constructor
          · intro hb
            apply UInt8.toNat_inj.1
            show b.toNat = 45
            omega
          · rintro rfl
            rfl
        simp only [q1, q2, w, c2, c3, l, o, k1, k2, Int.toNat_natCast, decide_true, decide_false, cond_false, Bool.true_and, Bool.and_true, ass_true, Int.natCast_nonneg, ne_eq, decide_not, Int.le_refl]
        cases decide (s.getD 0 0 = 45) <;> cases decide (s.getD (s.length - 1) 0 = 45) <;> rfl
      · have q2 : ((s.length : Int) > 15) := by omega
        simp [q1, q2, k2]
    · have q1 : ((s.length : Int) < 1) := by omega
      simp [q1, k1]
  · cases h

theorem run21 {N : Nat} (xs : List PV) (v : PV) (h : gKey xs = some (true, v)) : ∃ H, apartS EN TRLab H N 5 42 xs = some v := by
  unfold gKey at h
  split at h
  · rename_i a b
    simp only [Option.some.injEq, Prod.mk.injEq, Bool.and_eq_true, decide_eq_true_eq] at h
    obtain ⟨⟨h1, h2⟩, rfl⟩ := h
    refine ⟨H0, (t21 N a b).trans ?_⟩
    simp only [h1, h2, decide_true, ass_true]
    cases Sp.label a <;> rfl
  · cases h

theorem run22 {N : Nat} (xs : List PV) (v : PV) (h : gKey xs = some (true, v)) : ∃ H, apartS EN TRLab H N 5 18 xs = some v := by
  unfold gKey at h
  split at h
  · rename_i a b
    simp only [Option.some.injEq, Prod.mk.injEq, Bool.and_eq_true, decide_eq_true_eq] at h
    obtain ⟨⟨h1, h2⟩, rfl⟩ := h
    refine ⟨H0, (t22 N a b).trans ?_⟩
    simp only [h1, h2, decide_true, ass_true]
    cases Sp.label a <;> rfl
  · cases h


end Go.Proofs.YtcjcinipfdameaaGreatDoor.Am
