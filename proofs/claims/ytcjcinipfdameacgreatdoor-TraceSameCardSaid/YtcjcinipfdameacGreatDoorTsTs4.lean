/- TraceSame: summaries, the law. -/
import Derived.Test.YtcjcinipfdameacGreatDoorTsTs3
set_option linter.unusedVariables false
set_option linter.unusedSimpArgs false
set_option maxRecDepth 100000
set_option maxHeartbeats 8000000
namespace Go.Proofs.YtcjcinipfdameacGreatDoor.Am

theorem wk_shape {K : List Kd} {r : List PV} (h : wk K r = true) : shapeAt K r 0 = r := by
  have := (wk_at [] [] h).2
  simpa using this

theorem old_c : ∀ {r : List PV} (i : Nat), oldL 0 r = true → oldL 0 (slCells (Sp.c r i)) = true
  | [], i, _ => by simp [Sp.c, slCells, oldL]
  | x :: r, 0, h => by
    simp only [oldL, Bool.and_eq_true] at h
    simp only [Sp.c, List.getD_cons_zero]
    cases x <;> first | rfl | (simp only [oldV] at h; exact h.1)
  | x :: r, i + 1, h => by
    simp only [oldL, Bool.and_eq_true] at h
    have := old_c (r := r) i h.2
    simpa [Sp.c] using this

theorem inside' {i n : Nat} (h : i < n) : (decide (0 ≤ ((i : Nat) : Int)) && decide (((i : Nat) : Int) < (n : Int))) = true := by
  simp only [Bool.and_eq_true, decide_eq_true_eq]; omega

theorem wrap_small {x : Int} (h1 : -100000 ≤ x) (h2 : x ≤ 100000) : IntKind.i64.wrap x = x := by
  simp [IntKind.wrap, IntKind.bits, IntKind.signed]; omega

theorem orB {c y : Bool} {X : Option PV} (h : X = some (.bool y)) : (bif c then some (.bool true) else X) = some (.bool (c || y)) := by
  subst h; cases c <;> rfl
theorem orB0 {c : Bool} : (bif c then some (PV.bool true) else some (.bool false)) = some (.bool c) := by cases c <;> rfl

theorem texts_at {n : Nat} {a : List PV} (h : textsC n a = true) : (Sp.strs a).length = n ∧ ∀ i (hi : i < (Sp.strs a).length), okAt [Kd.str] a (i * 1) = true ∧ asS (a.getD (i * 1) .nilp) = (Sp.strs a)[i] := by
  unfold textsC at h
  simp only [Bool.and_eq_true, decide_eq_true_eq, List.all_eq_true] at h
  refine ⟨by simp [Sp.strs, h.1], fun i hi => ?_⟩
  have hlt : i < a.length := by simpa [Sp.strs] using hi
  have := h.2 a[i] (List.getElem_mem hlt)
  refine ⟨?_, ?_⟩
  · simp [okAt, hlt, this]
  · simp [Sp.strs, List.getD_eq_getElem?_getD, hlt]

theorem texts_old {n : Nat} {a : List PV} (h : textsC n a = true) : oldL 0 a = true := by
  unfold textsC at h
  simp only [Bool.and_eq_true, List.all_eq_true] at h
  replace h := h.2
  induction a with
  | nil => rfl
  | cons x a ih =>
    have h1 := h x (by simp)
    have h2 := ih fun y hy => h y (by simp [hy])
    cases x <;> first | (cases h1; done) | (simp only [oldL, oldV, h2, Bool.and_self])

theorem texts_P {n : Nat} {a : List PV} (h : textsC n a = true) : textsP a = some (Sp.strs a) := by
  unfold textsC at h
  simp only [Bool.and_eq_true, List.all_eq_true] at h
  replace h := h.2
  induction a with
  | nil => rfl
  | cons x a ih =>
    have h1 := h x (by simp)
    have h2 := ih fun y hy => h y (by simp [hy])
    cases x <;> first | (cases h1; done) | (simp only [textsP, h2, Sp.strs, List.map_cons, asS])

theorem lng_loop (N n : Nat) (k : Int) (a : List PV) (ht : textsC n a = true) (hk : 0 ≤ k ∧ k ≤ 1000) : ∀ (c i q : Nat) (acc : Int), k - acc < (c : Int) → (i : Int) ≤ acc → acc ≤ k → i ≤ n →
    LLg N (q + c + 1) a n k acc (i : Int) = some (.bool (Sp.lng k acc ((Sp.strs a).drop i)))
  | 0, i, q, acc, h1, h2, h3, h4 => by omega
  | c + 1, i, q, acc, h1, h2, h3, h4 => by
    obtain ⟨hl, hat⟩ := texts_at ht
    rw [show q + (c + 1) + 1 = (q + c + 1) + 1 from by omega, uLLg]
    by_cases hi : i < n
    · have hi' : i < (Sp.strs a).length := by omega
      obtain ⟨w1, w2⟩ := hat i hi'
      rw [ass_of (inside' hi), show decide (((i : Nat) : Int) < (n : Int)) = true from by simp; omega, cond_true]
      simp only [Int.toNat_natCast]
      rw [ass_of w1]
      simp only [w2]
      rw [List.drop_eq_getElem_cons hi', Sp.lng]
      by_cases hb : ((Sp.strs a)[i].length : Int) > k
      · rw [show decide (((Sp.strs a)[i].length : Int) > k) = true from by simpa using hb]; rfl
      · rw [show decide (((Sp.strs a)[i].length : Int) > k) = false from by simpa using hb, cond_false, Bool.false_or, wrap_small (x := 1 + ((Sp.strs a)[i].length : Int)) (by omega) (by omega), wrap_small (x := acc + (1 + ((Sp.strs a)[i].length : Int))) (by omega) (by omega)]
        by_cases hc : acc + (1 + ((Sp.strs a)[i].length : Int)) > k
        · rw [show decide (acc + (1 + ((Sp.strs a)[i].length : Int)) > k) = true from by simpa using hc]; rfl
        · rw [show decide (acc + (1 + ((Sp.strs a)[i].length : Int)) > k) = false from by simpa using hc, cond_false, Bool.false_or, ass_of (texts_old ht), ass_of (texts_old ht), wrap_small (x := (i : Int) + 1) (by omega) (by omega)]
          exact lng_loop N n k a ht hk c (i + 1) q _ (by omega) (by omega) (by omega) (by omega)
    · have : i = n := by omega
      subst this
      rw [show decide (((i : Nat) : Int) < (i : Int)) = false from by simp, cond_false, List.drop_of_length_le (by omega)]
      rfl

theorem runLng {N : Nat} (hN : 2000 ≤ N) (xs : List PV) (v : PV) (h : gLng xs = some (true, v)) : ∃ H, apartS EN T0 H N 5 5 xs = some v := by
  unfold gLng at h
  split at h
  · rename_i a n m
    simp only [Option.some.injEq, Prod.mk.injEq, Bool.and_eq_true, decide_eq_true_eq] at h
    obtain ⟨⟨ht, h0, h1⟩, rfl⟩ := h
    refine ⟨H0, ?_⟩
    rw [uLng]
    have := lng_loop N n m a ht ⟨h0, h1⟩ (m.toNat + 1) 0 (N - m.toNat - 2) 0 (by omega) (by omega) (by omega) (by omega)
    rw [show N - m.toNat - 2 + (m.toNat + 1) + 1 = N from by omega] at this
    simpa using this
  · cases h

theorem eq_loop (N n : Nat) (a b : List PV) (ha : textsC n a = true) (hb : textsC n b = true) (hn : n ≤ 1000) : ∀ (c i q : Nat), i + c = n →
    LEq N (q + c + 1) a b n n false (i : Int) = some (.bool ((Sp.strs a).drop i == (Sp.strs b).drop i)) ∧ LSm N (q + c + 1) a b n n false (i : Int) = some (.bool ((Sp.strs a).drop i == (Sp.strs b).drop i))
  | 0, i, q, h => by
    obtain ⟨la, _⟩ := texts_at ha
    obtain ⟨lb, _⟩ := texts_at hb
    rw [uLEq, uLSm, show decide (((i : Nat) : Int) < (n : Int)) = false from by simp; omega, cond_false, cond_false, List.drop_of_length_le (by omega), List.drop_of_length_le (by omega)]
    exact ⟨rfl, rfl⟩
  | c + 1, i, q, h => by
    obtain ⟨la, aa⟩ := texts_at ha
    obtain ⟨lb, ab⟩ := texts_at hb
    have hi : i < n := by omega
    have ih := eq_loop N n a b ha hb hn c (i + 1) q (by omega)
    obtain ⟨a1, a2⟩ := aa i (by omega)
    obtain ⟨b1, b2⟩ := ab i (by omega)
    rw [show q + (c + 1) + 1 = (q + c + 1) + 1 from by omega, uLEq, uLSm, ass_of (inside' hi), ass_of (inside' hi), show decide (((i : Nat) : Int) < (n : Int)) = true from by simp; omega, cond_true, cond_true]
    simp only [Int.toNat_natCast]
    rw [ass_of a1, ass_of a1]
    have hin := inside' hi
    rw [show decide (((i : Nat) : Int) < (n : Int)) = true from by simp; omega] at hin
    repeat rw [ass_of hin]
    repeat rw [ass_of b1]
    rw [a2, b2, wrap_small (by omega) (by omega)]
    repeat rw [ass_of (texts_old ha)]
    repeat rw [ass_of (texts_old hb)]
    repeat rw [ass_of (texts_old ha)]
    repeat rw [ass_of (texts_old hb)]
    repeat rw [ass_of (texts_old ha)]
    rw [List.drop_eq_getElem_cons (show i < (Sp.strs a).length by omega), List.drop_eq_getElem_cons (show i < (Sp.strs b).length by omega)]
    cases hx : (Sp.strs a)[i] == (Sp.strs b)[i] with
    | true =>
      simp only [Bool.not_true, cond_false, List.cons_beq_cons, hx, Bool.true_and]
      exact ih
    | false =>
      simp only [Bool.not_false, cond_true, List.cons_beq_cons, hx, Bool.false_and, and_self]

theorem runEq {N : Nat} (hN : 2000 ≤ N) (xs : List PV) (v : PV) (h : gEq xs = some (true, v)) : ∃ H, apartS EN T0 H N 5 14 xs = some v := by
  unfold gEq at h
  split at h
  · rename_i a n b m
    simp only [Option.some.injEq, Prod.mk.injEq, Bool.and_eq_true, decide_eq_true_eq] at h
    obtain ⟨⟨ha, hb, hn, hm⟩, rfl⟩ := h
    refine ⟨H0, ?_⟩
    rw [uEq]
    by_cases he : n = m
    · subst he
      rw [show ((n : Int) != (n : Int)) = false from by simp, cond_false]
      have := (eq_loop N n a b ha hb hn n 0 (N - n - 1) (by omega)).1
      rw [show N - n - 1 + n + 1 = N from by omega] at this
      simpa using this
    · have hl : (Sp.strs a == Sp.strs b) = false := by
        cases hq : (Sp.strs a == Sp.strs b) with
        | false => rfl
        | true => exact absurd (by have := congrArg List.length (eq_of_beq hq); rw [(texts_at ha).1, (texts_at hb).1] at this; exact this) he
      rw [show ((n : Int) != (m : Int)) = true from by simp; omega, hl]; rfl
  · cases h

theorem runSm {N : Nat} (hN : 2000 ≤ N) (xs : List PV) (v : PV) (h : gEq xs = some (true, v)) : ∃ H, apartS EN T0 H N 5 15 xs = some v := by
  unfold gEq at h
  split at h
  · rename_i a n b m
    simp only [Option.some.injEq, Prod.mk.injEq, Bool.and_eq_true, decide_eq_true_eq] at h
    obtain ⟨⟨ha, hb, hn, hm⟩, rfl⟩ := h
    refine ⟨H0, ?_⟩
    rw [uSm]
    by_cases he : n = m
    · subst he
      rw [show ((n : Int) != (n : Int)) = false from by simp, cond_false]
      have := (eq_loop N n a b ha hb hn n 0 (N - n - 1) (by omega)).2
      rw [show N - n - 1 + n + 1 = N from by omega] at this
      simpa using this
    · have hl : (Sp.strs a == Sp.strs b) = false := by
        cases hq : (Sp.strs a == Sp.strs b) with
        | false => rfl
        | true => exact absurd (by have := congrArg List.length (eq_of_beq hq); rw [(texts_at ha).1, (texts_at hb).1] at this; exact this) he
      rw [show ((n : Int) != (m : Int)) = true from by simp; omega, hl]; rfl
  · cases h

structure TraceOk (r : List PV) : Prop where
  wk : Am.wk KT r = true
  old : oldL 0 r = true
  tx : textsC (slLen (Sp.c r 0)) (slCells (Sp.c r 0)) = true
  n : slLen (Sp.c r 0) ≤ 400
  j : (Sp.joined [62] (Sp.steps r)).length ≤ 400

theorem traceC_ok {r : List PV} (h : traceC r = true) : TraceOk r := by
  unfold traceC at h
  simp only [Bool.and_eq_true, decide_eq_true_eq] at h
  exact ⟨h.1, h.2.1, h.2.2.1, h.2.2.2.1, h.2.2.2.2⟩

theorem TraceOk.c {r : List PV} (h : TraceOk r) : traceC r = true := by
  unfold traceC
  rw [h.wk, h.old, h.tx, show decide (slLen (Sp.c r 0) ≤ 400) = true from by simpa using h.n, show decide ((Sp.joined [62] (Sp.steps r)).length ≤ 400) = true from by simpa using h.j]
  rfl

theorem same_of {r s : List PV} : (bif Sp.steps r == Sp.steps s then (bif asI (Sp.c r 1) == asI (Sp.c s 1) then (bif Sp.fr r s then some (PV.bool (Sp.bk r s)) else some (PV.bool false)) else some (PV.bool false)) else some (PV.bool false)) = some (PV.bool (Sp.same r s)) := by
  unfold Sp.same
  cases Sp.steps r == Sp.steps s <;> cases asI (Sp.c r 1) == asI (Sp.c s 1) <;> cases Sp.fr r s <;> rfl

theorem runSame {N : Nat} (xs : List PV) (v : PV) (h : gSame xs = some (true, v)) : (∃ H, apartS EN TEq H N 5 7 xs = some v) ∧ ∃ H, apartS EN TEq H N 5 8 xs = some v := by
  unfold gSame at h
  split at h
  · rename_i r s
    simp only [Option.some.injEq, Prod.mk.injEq, Bool.and_eq_true] at h
    obtain ⟨⟨hr, hs⟩, rfl⟩ := h
    have hr := traceC_ok hr
    have hs := traceC_ok hs
    have hn1 := hr.n
    have hn2 := hs.n
    have ask : (textsC (slLen (Sp.c r 0)) (slCells (Sp.c r 0)) && (textsC (slLen (Sp.c s 0)) (slCells (Sp.c s 0)) && (decide (slLen (Sp.c r 0) ≤ 1000) && decide (slLen (Sp.c s 0) ≤ 1000)))) = true := by
      rw [hr.tx, hs.tx]; simp; omega
    refine ⟨⟨H0, ?_⟩, H0, ?_⟩
    · have := uSame r s N
      rw [wk_shape hr.wk, wk_shape hs.wk] at this
      rw [this, ass_of (old_c 0 hr.old), ass_of (old_c 0 hs.old), ass_of ask]
      exact same_of
    · have := uSameR r s N
      rw [wk_shape hr.wk, wk_shape hs.wk] at this
      rw [this, ass_of (old_c 0 hr.old), ass_of (old_c 0 hs.old), ass_of ask]
      exact same_of
  · cases h

theorem run22 {N : Nat} (hN : 10 ≤ N) (xs : List PV) (v : PV) (h : gL22 xs = some (true, v)) : ∃ H, apartS EN T0 H N 5 6 xs = some v := by
  unfold gL22 at h
  split at h
  · rename_i f m
    simp only [Option.some.injEq, Prod.mk.injEq, Bool.and_eq_true, decide_eq_true_eq] at h
    obtain ⟨⟨hl, h1, h2, rfl⟩, rfl⟩ := h
    refine ⟨H0, ?_⟩
    obtain ⟨N, rfl⟩ : ∃ k, N = k + 3 := ⟨N - 3, by omega⟩
    have ht := uL22 (f.take 26) (f.drop 26) N
    rw [wk_shape h1, wk_shape h2, List.take_append_drop] at ht
    rw [ht]
    unfold Sp.lF
    simp only [Bool.or_assoc]
    exact orB (orB (orB (orB (orB orB0))))
  · cases h

theorem words7 {k : Int} (h1 : 0 ≤ k) (h2 : k ≤ 6) : okAt [Kd.str] W7 (0 + k.toNat * 1) = true ∧ okAt [Kd.str] W7 (k.toNat * 1) = true ∧ asS (W7.getD (0 + k.toNat * 1) .nilp) = Sp.vw k ∧ asS (W7.getD (k.toNat * 1) .nilp) = Sp.vw k ∧ (Sp.vw k == []) = false ∧ (Sp.vw k).length ≤ 20 := by
  have : k = 0 ∨ k = 1 ∨ k = 2 ∨ k = 3 ∨ k = 4 ∨ k = 5 ∨ k = 6 := by omega
  rcases this with rfl | rfl | rfl | rfl | rfl | rfl | rfl <;> exact ⟨rfl, rfl, rfl, rfl, rfl, by decide⟩

theorem vw_out {k : Int} (h : ¬ (0 ≤ k ∧ k ≤ 6)) : Sp.vw k = [63] := by
  unfold Sp.vw
  rw [show (decide (0 ≤ k) && decide (k ≤ 6)) = false from by simp; omega]; rfl

theorem runLine {N : Nat} (xs : List PV) (v : PV) (h : gLine xs = some (true, v)) : ∃ H, apartS EN TJn H N 5 10 xs = some v := by
  unfold gLine at h
  split at h
  · rename_i r
    simp only [Option.some.injEq, Prod.mk.injEq] at h
    obtain ⟨hr, rfl⟩ := h
    have hr := traceC_ok hr
    refine ⟨H0, ?_⟩
    have ht := uLine r N
    rw [wk_shape hr.wk] at ht
    have hn := hr.n
    have hj := hr.j
    have ask : (textsC (slLen (Sp.c r 0)) (slCells (Sp.c r 0)) && (decide (slLen (Sp.c r 0) ≤ 1000) && decide ((Sp.joined [62] (Sp.steps r)).length ≤ 140737488355328))) = true := by
      rw [hr.tx]; simp; omega
    rw [ht]
    repeat rw [ass_of (old_c 0 hr.old)]
    repeat rw [ass_of ask]
    have b1 : decide ((Sp.joined [62] (Sp.steps r)).length + 1 ≤ 4611686018427387904) = true := by simp; omega
    repeat rw [ass_of b1]
    simp only [List.append_eq]
    unfold Sp.line
    by_cases h0 : asI (Sp.c r 1) < 0
    · rw [vw_out (by omega), show decide (asI (Sp.c r 1) < 0) = true from by simpa using h0, cond_true, ass_of (by simp; omega)]
      simp
    · rw [show decide (asI (Sp.c r 1) < 0) = false from by simpa using h0, cond_false]
      by_cases h6 : asI (Sp.c r 1) > 6
      · rw [vw_out (by omega), show decide (asI (Sp.c r 1) > 6) = true from by simpa using h6, cond_true, ass_of (by simp; omega)]
        simp
      · obtain ⟨w1, w2, w3, w4, w5, w6⟩ := words7 (k := asI (Sp.c r 1)) (by omega) (by omega)
        rw [show decide (asI (Sp.c r 1) > 6) = false from by simpa using h6, cond_false, ass_of (by simp; omega), ass_of w1]
        simp only [w3, w5, cond_false]
        rw [ass_of (by simp; omega)]
        simp
  · cases h

theorem joined_le (sep : List UInt8) : ∀ (A B : List (List UInt8)), (Sp.joined sep A).length ≤ (Sp.joined sep (A ++ B)).length
  | [], B => by simp [Sp.joined]
  | [x], [] => by simp
  | [x], y :: B => by simp [Sp.joined]
  | x :: y :: A, B => by
    have ih := joined_le sep (y :: A) B
    simp only [List.cons_append] at ih ⊢
    simp only [Sp.joined, List.length_append] at ih ⊢
    omega

theorem joined_snoc (sep : List UInt8) : ∀ (A : List (List UInt8)) (x : List UInt8), A ≠ [] → Sp.joined sep (A ++ [x]) = (Sp.joined sep A ++ sep) ++ x
  | [], x, h => absurd rfl h
  | [a], x, _ => by simp [Sp.joined]
  | a :: b :: A, x, _ => by
    have ih := joined_snoc sep (b :: A) x (by simp)
    simp only [List.cons_append] at ih ⊢
    simp only [Sp.joined, ih, List.append_assoc]

theorem llr_loop (N : Nat) (r : List PV) (hr : TraceOk r) (n : Nat) (hn : n = slLen (Sp.c r 0)) : ∀ (c i q : Nat), i + c = n →
    LLr N (q + c + 1) r n [] (Sp.joined [62] ((Sp.steps r).take i)) (i : Int) = some (.str (Sp.line r))
  | 0, i, q, h => by
    obtain ⟨la, _⟩ := texts_at hr.tx
    have la : (Sp.steps r).length = n := by rw [hn]; exact la
    have hj := hr.j
    rw [uLLr, show decide (((i : Nat) : Int) < (n : Int)) = false from by simp; omega, cond_false, List.take_of_length_le (by omega)]
    have b2 : decide ((Sp.joined [62] (Sp.steps r)).length + 2 ≤ 4611686018427387904) = true := by simp; omega
    repeat rw [ass_of b2]
    simp only [List.append_eq]
    unfold Sp.line
    by_cases h0 : asI (Sp.c r 1) < 0
    · rw [vw_out (by omega), show decide (asI (Sp.c r 1) < 0) = true from by simpa using h0, cond_true]
    · rw [show decide (asI (Sp.c r 1) < 0) = false from by simpa using h0, cond_false]
      by_cases h6 : asI (Sp.c r 1) > 6
      · rw [vw_out (by omega), show decide (asI (Sp.c r 1) > 6) = true from by simpa using h6, cond_true]
      · obtain ⟨w1, w2, w3, w4, w5, w6⟩ := words7 (k := asI (Sp.c r 1)) (by omega) (by omega)
        rw [show decide (asI (Sp.c r 1) > 6) = false from by simpa using h6, cond_false, ass_of (by simp; omega), ass_of (by simp; omega), ass_of w2]
        simp only [w4]
        rw [ass_of (by simp; omega)]
        simp
  | c + 1, i, q, h => by
    obtain ⟨la, aa⟩ := texts_at hr.tx
    have la : (Sp.steps r).length = n := by rw [hn]; exact la
    have hi : i < (Sp.steps r).length := by omega
    obtain ⟨w1, w2⟩ := aa i hi
    have hj := hr.j
    have hj2 := joined_le [62] ((Sp.steps r).take (i + 1)) ((Sp.steps r).drop (i + 1))
    rw [List.take_append_drop] at hj2
    have hn4 := hr.n
    have o1 : oldL 1 (slCells (Sp.c r 0)) = true := oldL_le (Nat.zero_le 1) _ (old_c 0 hr.old)
    have ih := llr_loop N r hr n hn c (i + 1) q (by omega)
    rw [show q + (c + 1) + 1 = (q + c + 1) + 1 from by omega, uLLr, ass_of (inside' (by omega : i < n)), show decide (((i : Nat) : Int) < (n : Int)) = true from by simp; omega, cond_true]
    simp only [Int.toNat_natCast]
    rw [ass_of w1]
    repeat rw [ass_of o1]
    simp only [w2, List.append_eq]
    rw [wrap_small (x := (i : Int) + 1) (by omega) (by omega)]
    have et : (Sp.steps r).take (i + 1) = (Sp.steps r).take i ++ [(Sp.steps r)[i]] := List.take_succ_eq_append_getElem hi
    by_cases hz : i = 0
    · subst hz
      have e0 : Sp.joined [62] ((Sp.steps r).take (0 + 1)) = (Sp.steps r)[0] := by rw [et]; simp [Sp.joined]
      rw [e0] at ih hj2
      rw [show decide (((0 : Nat) : Int) > 0) = false from by simp, cond_false]
      simp only [List.take_zero, Sp.joined, List.nil_append]
      rw [ass_of (by show decide (([] : List UInt8).length + (Sp.steps r)[0].length ≤ 4611686018427387904) = true; simp; omega)]
      exact ih
    · have hne : (Sp.steps r).take i ≠ [] := fun e => by
        have this := congrArg List.length e
        rw [List.length_take, Nat.min_eq_left (Nat.le_of_lt hi)] at this
        exact hz (by simpa using this)
      rw [et, joined_snoc _ _ _ hne] at ih hj2
      simp only [List.length_append, List.length_singleton] at hj2
      rw [show decide (((i : Nat) : Int) > 0) = true from by simp; omega, cond_true, ass_of (by simp; omega), ass_of (by
        show decide ((Sp.joined [62] ((Sp.steps r).take i) ++ [62]).length + (Sp.steps r)[i].length ≤ 4611686018427387904) = true
        simp; omega)]
      exact ih

theorem runLineR {N : Nat} (hN : 2000 ≤ N) (xs : List PV) (v : PV) (h : gLine xs = some (true, v)) : ∃ H, apartS EN T0 H N 5 11 xs = some v := by
  unfold gLine at h
  split at h
  · rename_i r
    simp only [Option.some.injEq, Prod.mk.injEq] at h
    obtain ⟨hr, rfl⟩ := h
    have hr := traceC_ok hr
    have hn := hr.n
    refine ⟨H0, ?_⟩
    have ht := uLineR r N
    rw [wk_shape hr.wk] at ht
    rw [ht]
    have := llr_loop N r hr _ rfl (slLen (Sp.c r 0)) 0 (N - slLen (Sp.c r 0) - 1) (by omega)
    rw [show N - slLen (Sp.c r 0) - 1 + slLen (Sp.c r 0) + 1 = N from by omega] at this
    simpa [Sp.joined] using this
  · cases h

def tot : List (List UInt8) → Int
  | [] => 0
  | x :: r => 1 + (x.length : Int) + tot r

theorem lng_tot (m : Int) : ∀ (l : List (List UInt8)) (acc : Int), Sp.lng m acc l = false → acc ≤ m → acc + tot l ≤ m
  | [], acc, _, h => by simp [tot]; exact h
  | x :: r, acc, h, ha => by
    simp only [Sp.lng, Bool.or_eq_false_iff, decide_eq_false_iff_not] at h
    have := lng_tot m r (acc + (1 + (x.length : Int))) h.2.2 (by omega)
    simp only [tot]
    omega

theorem tot_len : ∀ (l : List (List UInt8)), (l.length : Int) ≤ tot l ∧ ((Sp.joined [62] l).length : Int) ≤ tot l
  | [] => by simp [tot, Sp.joined]
  | [x] => by simp [tot, Sp.joined]; omega
  | x :: y :: r => by
    have ih := tot_len (y :: r)
    simp only [tot, Sp.joined, List.length_append, List.length_cons, List.length_nil] at ih ⊢
    omega

/-- The law at every two traces. -/
theorem holds {N : Nat} (r s : List PV) (wr : wk KT r = true) (ws : wk KT s = true) (or : oldL 0 r = true) (os : oldL 0 s = true) (tr : textsC (slLen (Sp.c r 0)) (slCells (Sp.c r 0)) = true) (ts : textsC (slLen (Sp.c s 0)) (slCells (Sp.c s 0)) = true) :
    apartS EN TTs H0 N 5 3 [.agg r, .agg s] = some (.bool true) := by
  have ht := uLaw r s N
  rw [wk_shape wr, wk_shape ws] at ht
  rw [ht, ass_of (old_c 0 or), ass_of (by rw [tr]; rfl)]
  cases h1 : Sp.lng 400 0 (Sp.steps r) with
  | true => rfl
  | false =>
    rw [cond_false, ass_of (old_c 0 os), ass_of (by rw [ts]; rfl)]
    cases h2 : Sp.lng 400 0 (Sp.steps s) with
    | true => rfl
    | false =>
      rw [cond_false]
      cases Sp.lF ((r.drop 2).take 26) || Sp.lF ((s.drop 2).take 26) with
      | true => rfl
      | false =>
        have k1 := lng_tot 400 _ 0 h1 (by omega)
        have k2 := lng_tot 400 _ 0 h2 (by omega)
        have q1 := tot_len (Sp.steps r)
        have q2 := tot_len (Sp.steps s)
        have e1 : (Sp.steps r).length = slLen (Sp.c r 0) := (texts_at tr).1
        have e2 : (Sp.steps s).length = slLen (Sp.c s 0) := (texts_at ts).1
        have hr : TraceOk r := ⟨wr, or, tr, by omega, by omega⟩
        have hs : TraceOk s := ⟨ws, os, ts, by omega, by omega⟩
        have both : (traceC r && traceC s) = true := by rw [hr.c, hs.c]; rfl
        rw [cond_false, ass_of (oldL_le (Nat.zero_le 2) _ (old_c 0 or)), ass_of (oldL_le (Nat.zero_le 2) _ (old_c 0 os)), ass_of (old_c 0 or), ass_of (old_c 0 os), ass_of both,
          ass_of (oldL_le (Nat.zero_le 2) _ (old_c 0 or)), ass_of (oldL_le (Nat.zero_le 4) _ (old_c 0 os)), ass_of (old_c 0 or), ass_of (old_c 0 os), ass_of both,
          show (Sp.same r s == Sp.same r s) = true from by simp, cond_true, ass_of (oldL_le (Nat.zero_le 6) _ (old_c 0 or)), ass_of (old_c 0 or), ass_of hr.c, ass_of (oldL_le (Nat.zero_le 6) _ (old_c 0 or)), ass_of (old_c 0 or), ass_of hr.c]
        simp

end Go.Proofs.YtcjcinipfdameacGreatDoor.Am
