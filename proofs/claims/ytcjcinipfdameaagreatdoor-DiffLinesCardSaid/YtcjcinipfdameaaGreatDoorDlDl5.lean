/- DiffLines: all rows of ops; all summaries joined; the law. -/
import Derived.Test.YtcjcinipfdameaaGreatDoorDlDl4
import Derived.Test.YtcjcinipfdameaaGreatDoorDlLaidP
import Derived.Test.YtcjcinipfdameaaGreatDoorShk
set_option linter.unusedVariables false
set_option linter.unusedSimpArgs false
set_option maxRecDepth 100000
set_option maxHeartbeats 8000000
namespace Go.Proofs.YtcjcinipfdameaaGreatDoor.Am

theorem tL22 (f : List PV) (g : List PV) (h : List PV) (N : Nat) : apartS EN T0 H0 (N + 3) 5 12 [PV.agg [PV.sl (shapeAt KFr f 0) 26 1 none, PV.sl (shapeAt KGr g 0) 8 1 none, PV.sl (shapeAt KFi h 0) 3 1 none], PV.int IntKind.i64 1] =
  (bif decide ((↑(asS (Sp.c f 19)).length : Int) > 100) then
    (some (PV.bool true))
  else
    (bif decide ((↑(asS (Sp.c f 20)).length : Int) > 100) then
      (some (PV.bool true))
    else
      (bif decide ((↑(asS (Sp.c f 21)).length : Int) > 100) then
        (some (PV.bool true))
      else
        (ass (oldL 1 (shapeAt KGr g 0)) <|
        ass (oldL 1 (shapeAt KFi h 0)) <|
          ass (oldL 1 (shapeAt KGr g 0)) <|
            ass (oldL 1 (shapeAt KFi h 0)) <|
              ass (oldL 1 (shapeAt KGr g 0)) <|
                ass (oldL 1 (shapeAt KFi h 0)) <|
                  bif decide ((↑(asS (Sp.c g 0)).length : Int) > 100) then
                      (some (PV.bool true))
                    else
                      (bif decide ((↑(asS (Sp.c g 1)).length : Int) > 100) then
                        (some (PV.bool true))
                      else
                        (bif decide ((↑(asS (Sp.c g 2)).length : Int) > 100) then
                          (some (PV.bool true))
                        else
                          (bif decide ((↑(slLen (Sp.c g 6)) : Int) > 30) then
                            (some (PV.bool true))
                          else
                            (bif decide ((↑(slLen (Sp.c g 7)) : Int) > 260) then
                              (some (PV.bool true))
                            else
                              (ass (oldL 1 (shapeAt KGr g 0)) <|
                              ass (oldL 1 (shapeAt KFi h 0)) <|
                                ass (oldL 1 (shapeAt KGr g 0)) <|
                                  ass (oldL 1 (shapeAt KFi h 0)) <|
                                    ass (oldL 1 (shapeAt KGr g 0)) <|
                                      ass (oldL 1 (shapeAt KGr g 0)) <|
                                        ass (oldL 1 (shapeAt KFi h 0)) <|
                                          bif decide ((↑(asS (Sp.c h 0)).length : Int) > 100) then
                                              (some (PV.bool true))
                                            else
                                              (bif decide ((↑(asS (Sp.c h 1)).length : Int) > 100) then
                                                (some (PV.bool true))
                                              else
                                                (bif decide ((↑(slLen (Sp.c h 2)) : Int) > 20) then
                                                  (some (PV.bool true))
                                                else
                                                  (ass (oldL 1 (shapeAt KGr g 0)) <|
                                                  ass (oldL 1 (shapeAt KFi h 0)) <|
                                                    ass (oldL 1 (shapeAt KGr g 0)) <|
                                                      ass (oldL 1 (shapeAt KFi h 0)) <|
                                                        ass (oldL 1 (shapeAt KGr g 0)) <|
                                                          ass (oldL 1 (shapeAt KFi h 0)) <|
                                                            ass (oldL 1 (shapeAt KGr g 0)) <|
                                                              ass (oldL 1 (shapeAt KFi h 0)) <|
                                                                some (PV.bool false))))))))))))) := by kernel_rfl

theorem orB {c y : Bool} {X : Option PV} (h : X = some (.bool y)) : (bif c then some (.bool true) else X) = some (.bool (c || y)) := by
  subst h; cases c <;> rfl
theorem orB0 {c : Bool} : (bif c then some (PV.bool true) else some (.bool false)) = some (.bool c) := by cases c <;> rfl

theorem run12 {N : Nat} (hN : 10 ≤ N) (xs : List PV) (v : PV) (h : gL22 xs = some (true, v)) : ∃ H, apartS EN T0 H N 5 12 xs = some v := by
  unfold gL22 at h
  split at h
  · rename_i f g q m
    simp only [Option.some.injEq, Prod.mk.injEq, Bool.and_eq_true, decide_eq_true_eq] at h
    obtain ⟨⟨hf, hg, hq, rfl, og, oq⟩, rfl⟩ := h
    refine ⟨H0, ?_⟩
    obtain ⟨N, rfl⟩ : ∃ k, N = k + 3 := ⟨N - 3, by omega⟩
    have ht := tL22 f g q N
    rw [wk_shape hf, wk_shape hg, wk_shape hq] at ht
    rw [ht]
    have a1 : oldL 1 g = true := oldL_le (Nat.zero_le 1) g og
    have a2 : oldL 1 q = true := oldL_le (Nat.zero_le 1) q oq
    repeat rw [ass_of a1]
    repeat rw [ass_of a2]
    repeat rw [ass_of a1]
    repeat rw [ass_of a2]
    unfold Sp.lF Sp.lG Sp.lH
    simp only [Bool.or_assoc, Nat.zero_add]
    exact orB (orB (orB (orB (orB (orB (orB (orB (orB (orB orB0)))))))))
  · cases h

theorem gC_old {r : List PV} (h : oldL 0 r = true) : oldL 0 (Sp.gC r) = true := by
  unfold Sp.gC
  simp only [oldL, oldV, old_c _ h, Bool.and_self]

theorem hC_old {r : List PV} (h : oldL 0 r = true) : oldL 0 (Sp.hC r) = true := by
  unfold Sp.hC
  simp only [oldL, oldV, old_c _ h, Bool.and_self]

theorem wrap_s2 {x : Int} (h1 : -100000 ≤ x) (h2 : x ≤ 100000) : IntKind.i64.wrap x = x := by
  simp [IntKind.wrap, IntKind.bits, IntKind.signed]; omega

theorem l5_loop (N n : Nat) (k : Int) (R : List (List PV)) (hR : rowsOk KO R = true) (hl : R.length = n) (hn : n ≤ 1000) : ∀ (c i m : Nat), i + c = n →
    L5 N (m + c + 1) R.flatten n k (i : Int) = some (.bool ((R.drop i).any Sp.longR))
  | 0, i, m, h => by
    have hi : i = n := by omega
    subst hi
    rw [tL5, show decide (((i : Nat) : Int) < (i : Int)) = false from by simp, cond_false, List.drop_of_length_le (by omega)]
    rfl
  | c + 1, i, m, h => by
    have hi : i < R.length := by omega
    have e38 : (38 : Nat) = KO.length := rfl
    rw [show m + (c + 1) + 1 = (m + c + 1) + 1 from by omega, tL5, ass_of (inside' (by omega : i < n)), show decide (((i : Nat) : Int) < (n : Int)) = true from by simp; omega, cond_true]
    simp only [Int.toNat_natCast]
    rw [e38]
    simp only [(rows_at' hR hi).2]
    have ho := row_old hR (List.getElem_mem hi)
    rw [ass_of (rows_at' hR hi).1, ass_of (gC_old ho), ass_of (hC_old ho), ass_of (by rw [gC_old ho, hC_old ho]; rfl)]
    repeat rw [ass_of (rows_old hR)]
    rw [wrap_s2 (by omega) (by omega), drop_at hi, List.any_cons]
    exact orB (l5_loop N n k R hR hl hn c (i + 1) m (by omega))

theorem rowsC_ok {n : Nat} {cells : List PV} (h : rowsC KO n cells = true) : ∃ R : List (List PV), rowsOk KO R = true ∧ R.length = n ∧ cells = R.flatten ∧ chunks 38 n cells = R := by
  unfold rowsC at h
  simp only [Bool.and_eq_true, decide_eq_true_eq] at h
  exact ⟨chunks 38 n cells, h.2, chunks_len 38 n cells, (chunks_flat 38 n cells h.1).symm, rfl⟩

theorem run5 {N : Nat} (hN : 2000 ≤ N) (xs : List PV) (v : PV) (h : gLong xs = some (true, v)) : ∃ H, apartS EN TL22 H N 5 5 xs = some v := by
  unfold gLong at h
  split at h
  · rename_i cells n m
    simp only [Option.some.injEq, Prod.mk.injEq, Bool.and_eq_true, decide_eq_true_eq] at h
    obtain ⟨⟨hk, h0, h1⟩, rfl⟩ := h
    obtain ⟨R, hR, hl, rfl, hch⟩ := rowsC_ok hk
    rw [hch]
    refine ⟨H0, ?_⟩
    rw [tA5]
    by_cases hnm : (n : Int) > m
    · rw [show decide ((n : Int) > m) = true from by simpa using hnm]; rfl
    · rw [show decide ((n : Int) > m) = false from by simpa using hnm, cond_false, Bool.false_or]
      have := l5_loop N n m R hR hl (by omega) n 0 (N - n - 1) (by omega)
      rw [show N - n - 1 + n + 1 = N from by omega] at this
      simpa using this
  · cases h

theorem wk_calm : ∀ {K : List Kd} {r : List PV}, wk K r = true → r.all PV.calm = true
  | [], [], _ => rfl
  | [], _ :: _, h => by cases h
  | _ :: _, [], h => by cases h
  | k :: K, x :: r, h => by
    simp only [wk, Bool.and_eq_true] at h
    simp only [List.all_cons, Bool.and_eq_true]
    refine ⟨?_, wk_calm h.2⟩
    have := h.1
    unfold Kd.wk at this
    split at this <;> first | rfl | cases this

theorem rows_calm {R : List (List PV)} (h : rowsOk KO R = true) : R.flatten.all PV.calm = true := by
  rw [List.all_eq_true]
  intro x hx
  obtain ⟨r, hr, hx⟩ := List.mem_flatten.1 hx
  exact List.all_eq_true.1 (wk_calm (rowsOk_get h hr).1) x hx

theorem take_rows {R : List (List PV)} (h : rowsOk KO R = true) {i : Nat} (hi : i ≤ R.length) : (R.take i).flatten.length = i * 38 := by
  have := rows_len (rowsOk_take h i)
  rw [this, List.length_take, Nat.min_eq_left hi]; rfl

theorem l9_loop (N n : Nat) (R : List (List PV)) (hR : rowsOk KO R = true) (hl : R.length = n) (hn : n ≤ 20) : ∀ (c i m : Nat), i + c = n →
    L9 N (m + c + 1) R.flatten n (R.take i).flatten i (i : Int) = some (.sl R.flatten 38 n none)
  | 0, i, m, h => by
    have hi : i = n := by omega
    subst hi
    rw [tL9, show decide (((i : Nat) : Int) < (i : Int)) = false from by simp, cond_false]
    have e : R.take i = R := List.take_of_length_le (by omega)
    rw [e]
    have hlen : R.flatten.length = i * 38 := by have := take_rows hR (Nat.le_refl _); rw [List.take_of_length_le (Nat.le_refl _), hl] at this; exact this
    have e2 : List.take (i * 38) (List.drop 0 R.flatten) = R.flatten := by rw [List.drop_zero]; exact List.take_of_length_le (by omega)
    rw [e2, ass_of (by rw [rows_calm hR, hlen]; simp), ass_of (rows_old hR)]
  | c + 1, i, m, h => by
    have hi : i < R.length := by omega
    have e38 : (38 : Nat) = KO.length := rfl
    have hlen := take_rows hR (Nat.le_of_lt hi)
    have e2 : List.take (i * 38) (R.take i).flatten = (R.take i).flatten := List.take_of_length_le (by omega)
    have a2 : (i == i && (decide (i ≤ 1048576) && (decide (1 ≤ 1048576) && decide (0 + i * 38 ≤ (R.take i).flatten.length)))) = true := by rw [hlen]; simp; omega
    have a3 : (!decide (0 + i + 1 ≤ i)) = true := by simp
    rw [show m + (c + 1) + 1 = (m + c + 1) + 1 from by omega, tL9, ass_of (inside' (by omega : i < n)), show decide (((i : Nat) : Int) < (n : Int)) = true from by simp; omega, cond_true, e2, ass_of a2, ass_of a3]
    simp only [Int.toNat_natCast]
    rw [e38]
    simp only [(rows_at' hR hi).2]
    have ho := row_old hR (List.getElem_mem hi)
    have eT : (R.take i).flatten.append R[i] = (R.take (i + 1)).flatten := by rw [take_at hi, List.flatten_append]; simp
    rw [ass_of (rows_at' hR hi).1, ass_of (oldL_le (Nat.zero_le 2) _ (old_c 33 ho)), ass_of (oldL_le (Nat.zero_le 2) _ (old_c 34 ho)), ass_of (oldL_le (Nat.zero_le 4) _ (old_c 37 ho))]
    rw [ass_of (rows_old hR), ass_of (rows_old hR), eT, ass_of (rows_old (rowsOk_take hR (i + 1))), wrap_small (by omega) (by omega)]
    exact l9_loop N n R hR hl hn c (i + 1) m (by omega)

theorem run9 {N : Nat} (hN : 100 ≤ N) (xs : List PV) (v : PV) (h : gOf xs = some (true, v)) : ∃ H, apartS EN T0 H N 5 9 xs = some v := by
  unfold gOf at h
  split at h
  · rename_i cells n
    simp only [Option.some.injEq, Prod.mk.injEq] at h
    obtain ⟨hk, rfl⟩ := h
    obtain ⟨R, hR, hl, rfl, hch, hn, hs⟩ := rowsS_ok hk
    refine ⟨HDl, ?_⟩
    obtain ⟨N, rfl⟩ : ∃ k, N = k + 1 := ⟨N - 1, by omega⟩
    rw [tA9]
    cases n with
    | zero =>
      have : R = [] := List.eq_nil_of_length_eq_zero hl
      subst this
      rfl
    | succ k =>
      have hi : 0 < R.length := by omega
      have hrow := rows_at' hR hi
      rw [Nat.zero_mul] at hrow
      simp only [hrow.2]
      have ho := row_old hR (List.getElem_mem hi)
      rw [show decide ((0 : Int) < ((k + 1 : Nat) : Int)) = true from by simp, cond_true, ass_of (by simp), ass_of hrow.1, ass_of (oldL_le (Nat.zero_le 1) _ (old_c 33 ho)), ass_of (oldL_le (Nat.zero_le 1) _ (old_c 34 ho)), ass_of (oldL_le (Nat.zero_le 3) _ (old_c 37 ho)),
        ass_of (rows_old hR), ass_of (rows_old hR), ass_of ho, show IntKind.i64.wrap (0 + 1) = ((1 : Nat) : Int) from by decide]
      have := l9_loop (N + 1) (k + 1) R hR hl hn k 1 (N - k - 1) (by omega)
      rw [show N - k - 1 + k + 1 = N from by omega, take_at hi] at this
      simpa using this
  · cases h

theorem sum_append (f : List PV → Int) : ∀ (A B : List (List PV)), Sp.sum f (A ++ B) = Sp.sum f A + Sp.sum f B
  | [], B => by simp [Sp.sum]
  | r :: A, B => by simp only [List.cons_append, Sp.sum, sum_append f A B]; omega

theorem sum_take {R : List (List PV)} (f : List PV → Int) {i : Nat} (h : i < R.length) : Sp.sum f (R.take (i + 1)) = Sp.sum f (R.take i) + f R[i] := by
  rw [take_at h, sum_append]; simp [Sp.sum]

/-- What a kind's remainder tells. -/
theorem kind_mod {r : List PV} (h1 : 1 ≤ Sp.kind r) (h2 : Sp.kind r ≤ 6) : (Sp.kind r).tmod 2 = Sp.put r ∧ 1 - (Sp.kind r).tmod 2 = Sp.drop r := by
  unfold Sp.put Sp.drop
  generalize Sp.kind r = k at h1 h2
  have : k = 1 ∨ k = 2 ∨ k = 3 ∨ k = 4 ∨ k = 5 ∨ k = 6 := by omega
  rcases this with rfl | rfl | rfl | rfl | rfl | rfl <;> exact ⟨by decide, by decide⟩

theorem kind_none {r : List PV} (h : ¬ (1 ≤ Sp.kind r ∧ Sp.kind r ≤ 6)) : Sp.put r = 0 ∧ Sp.drop r = 0 := by
  unfold Sp.put Sp.drop
  generalize Sp.kind r = k at h
  have e : ∀ j : Int, 1 ≤ j → j ≤ 6 → (k == j) = false := fun j h1 h2 => by simp; omega
  rw [e 1, e 2, e 3, e 4, e 5, e 6] <;> simp

theorem line_at {R : List (List PV)} {i : Nat} (hi : i < R.length) : okAt [Kd.str] (R.map fun r => PV.str (Sp.line r)) (i * 1) = true ∧ asS ((R.map fun r => PV.str (Sp.line r)).getD (i * 1) .nilp) = Sp.line R[i] := by
  have : (R.map fun r => PV.str (Sp.line r))[i * 1]? = some (.str (Sp.line R[i])) := by simp [hi]
  refine ⟨?_, ?_⟩
  · simp only [okAt, this, Kd.ok, Bool.and_self]
  · rw [List.getD_eq_getElem?_getD, this]; rfl

theorem l3_loop (N n : Nat) (R : List (List PV)) (hR : rowsOk KO R = true) (hl : R.length = n) (hn : n ≤ 20) (hs : ∀ r ∈ R, Sp.longR r = false) (b1 b2 b3 : Bool) : ∀ (c i m : Nat), i + c = n →
    L3 N (m + c + 1) R.flatten n (R.map fun r => .str (Sp.line r)) (Sp.sum Sp.put R) (Sp.sum Sp.drop R) b1 b2 b3 (Sp.sum Sp.put (R.take i)) (Sp.sum Sp.drop (R.take i)) (i : Int) = some (.bool true)
  | 0, i, m, h => by
    have hi : i = n := by omega
    subst hi
    rw [tL3, show decide (((i : Nat) : Int) < (i : Int)) = false from by simp, cond_false, List.take_of_length_le (by omega)]
    simp
  | c + 1, i, m, h => by
    have hi : i < R.length := by omega
    have e38 : (38 : Nat) = KO.length := rfl
    rw [show m + (c + 1) + 1 = (m + c + 1) + 1 from by omega, tL3, ass_of (inside' (by omega : i < n)), ass_of (inside' (by omega : i < n)), show decide (((i : Nat) : Int) < (n : Int)) = true from by simp; omega, cond_true]
    simp only [Int.toNat_natCast]
    rw [e38]
    simp only [(rows_at' hR hi).2]
    have hr := List.getElem_mem hi
    have ho := row_old hR hr
    obtain ⟨w1, w2⟩ := line_at hi
    rw [ass_of (rows_at' hR hi).1, ass_of w1, w2, ass_of (oldL_le (Nat.zero_le 1) _ (old_c 33 ho)), ass_of (oldL_le (Nat.zero_le 1) _ (old_c 34 ho)), ass_of (oldL_le (Nat.zero_le 1) _ (old_c 37 ho)), ass_of (old_c 33 ho), ass_of (old_c 34 ho), ass_of (old_c 37 ho),
      ass_of (by rw [(rowsOk_get hR hr).1, ho, hs _ hr]; rfl)]
    repeat rw [ass_of (rows_old hR)]
    repeat rw [ass_of (lines_old R)]
    repeat rw [ass_of (rows_old hR)]
    repeat rw [ass_of (lines_old R)]
    repeat rw [ass_of (rows_old hR)]
    repeat rw [ass_of (lines_old R)]
    repeat rw [ass_of (rows_old hR)]
    have ih := l3_loop N n R hR hl hn hs b1 b2 b3 c (i + 1) m (by omega)
    rw [sum_take _ hi, sum_take _ hi] at ih
    have p1 := sum_bound Sp.put put_01 (R.take i)
    have d1 := sum_bound Sp.drop drop_01 (R.take i)
    have hlt : (R.take i).length ≤ 20 := by rw [List.length_take]; omega
    have q1 := put_01 R[i]
    have q2 := drop_01 R[i]
    rw [show (!Sp.line R[i] == Sp.line R[i]) = false from by simp, cond_false, wrap_small (x := (i : Int) + 1) (by omega) (by omega)]
    by_cases hk : 1 ≤ Sp.kind R[i] ∧ Sp.kind R[i] ≤ 6
    · obtain ⟨k1, k2⟩ := kind_mod hk.1 hk.2
      rw [show decide (Sp.kind R[i] ≥ 1) = true from by simpa using hk.1, show decide (Sp.kind R[i] ≤ 6) = true from by simpa using hk.2, cond_true, cond_true, k2, k1, wrap_small (x := Sp.drop R[i]) (by omega) (by omega), wrap_small (by omega) (by omega), wrap_small (by omega) (by omega)]
      exact ih
    · obtain ⟨k1, k2⟩ := kind_none hk
      rw [k1, k2, Int.add_zero, Int.add_zero] at ih
      by_cases h1 : 1 ≤ Sp.kind R[i]
      · rw [show decide (Sp.kind R[i] ≥ 1) = true from by simpa using h1, show decide (Sp.kind R[i] ≤ 6) = false from by simp; omega, cond_true, cond_false]
        exact ih
      · rw [show decide (Sp.kind R[i] ≥ 1) = false from by simpa using h1, cond_false]
        exact ih

/-- The law at every row of ops. -/
theorem holds3 {N : Nat} (hN : 100 ≤ N) (R : List (List PV)) (hR : rowsOk KO R = true) : apartS EN TDl H0 N 5 3 [.sl R.flatten 38 R.length none] = some (.bool true) := by
  have hlen : R.flatten.length = R.length * 38 := rows_len hR
  have hch : chunks 38 R.length R.flatten = R := chunks_of R 38 fun r hr => wk_len (rowsOk_get hR hr).1
  have hC : rowsC KO R.length R.flatten = true := by
    unfold rowsC
    rw [show KO.length = 38 from rfl, hch, hR, hlen]; simp
  rw [tA3, ass_of (rows_old hR), hch, ass_of (by rw [hC]; rfl)]
  cases hb : (decide ((R.length : Int) > 20) || R.any Sp.longR) with
  | true => rfl
  | false =>
    simp only [Bool.or_eq_false_iff, decide_eq_false_iff_not] at hb
    have hs : ∀ r ∈ R, Sp.longR r = false := fun r hr => by simpa using List.any_eq_false.1 hb.2 r hr
    have hS : rowsS R.length R.flatten = true := by
      unfold rowsS
      rw [hC, hch, hb.2, show decide (R.length ≤ 20) = true from by simp; omega]; rfl
    rw [cond_false, ass_of (rows_old hR), ass_of hS, ass_of (rows_old hR), ass_of hS, show ((R.length : Int) != (R.length : Int)) = false from by simp, cond_false,
      show (!((R.length : Int) == 0) == ((R.length : Int) == 0)) = false from by cases ((R.length : Int) == 0) <;> rfl, cond_false, ass_of (rows_old hR), ass_of hS]
    have := l3_loop N R.length R hR rfl (by omega) hs false ((R.length : Int) == 0) false R.length 0 (N - R.length - 1) (by omega)
    rw [show N - R.length - 1 + R.length + 1 = N from by omega] at this
    simpa [Sp.sum] using this

def isTrue : Option PV → Bool
  | some (.bool b) => b
  | _ => false

theorem isTrue_eq : ∀ {x : Option PV}, isTrue x = true → x = some (.bool true)
  | some (.bool true), _ => rfl

theorem aliveD : apartA EN (runA EN 1000009 60) 4 [] = some (.bool true) := isTrue_eq (by kernel_rfl)

theorem pureN {f : FuncId} (h2 : Nat.beq f 138 = false) (xs : List PV) : EN.pure f xs = none := by
  show pureT f xs = none
  unfold pureT
  rw [h2]
  rfl

theorem TDl_ok : TOk EN TDl (runA EN 1000009 9000) := by
  have hTL := Tadd_ok2 (K := 0) (K' := 0) T0_ok T0_ok (pureN rfl) (fun xs v h => run50 (N := 1000009) (by decide) xs v h)
  have hTR := Tadd_ok2 (K' := 0) hTL T0_ok (pureN rfl) (fun xs v h => run51 (N := 1000009) (by decide) xs v h)
  have hTrim := Tadd_ok2 hTR hTR (pureN rfl) (fun xs v h => run31 (N := 1000009) (by decide) xs v h)
  have hLab := Tadd_ok2 hTrim hTrim (pureN rfl) (fun xs v h => run19 (N := 1000009) xs v h)
  have hRLab := Tadd_ok2 (K' := 0) hLab T0_ok (pureN rfl) (fun xs v h => run20 (N := 1000009) (by decide) xs v h)
  have hRLab' : TOk EN TRLab (runA EN 1000009 90) := hRLab.le (runA_le' _ (by decide))
  have hKey := Tadd_ok2 hRLab' hRLab' (pureN rfl) (fun xs v h => run21 (N := 1000009) xs v h)
  have hRKey := Tadd_ok2 hKey hRLab' (pureN rfl) (fun xs v h => run22 (N := 1000009) xs v h)
  have hRKey' : TOk EN TRKey (runA EN 1000009 400) := hRKey.le (runA_le' _ (by decide))
  have hFmt := Tadd_ok hRKey' (pureN rfl) (fun xs v h => runFmt (N := 1000009) xs v h)
  have hWord := Tadd_ok2 (K' := 0) hFmt T0_ok (pureN rfl) (fun xs v h => runWord (N := 1000009) xs v h)
  have hSvc := Tadd_ok2 (K' := 0) hWord T0_ok (pureN rfl) (fun xs v h => runSvc (N := 1000009) xs v h)
  have hSvc2 := Tadd_ok2 (K' := 0) hSvc T0_ok (pureN rfl) (fun xs v h => runSvcR (N := 1000009) xs v h)
  have hSvc2' : TOk EN TSvc2 (runA EN 1000009 900) := hSvc2.le (runA_le' _ (by decide))
  have hLine := Tadd_ok hSvc2' (pureN rfl) (fun xs v h => runLine (N := 1000009) xs v h)
  have hL22 := Tadd_ok2 (K' := 0) hLine T0_ok (pureN rfl) (fun xs v h => run12 (N := 1000009) (by decide) xs v h)
  have hL22' : TOk EN TL22 (runA EN 1000009 1200) := hL22.le (runA_le' _ (by decide))
  have hLong := Tadd_ok hL22' (pureN rfl) (fun xs v h => run5 (N := 1000009) (by decide) xs v h)
  have hLines := Tadd_ok2 hLong hSvc2' (pureN rfl) (fun xs v h => run6 (N := 1000009) (by decide) xs v h)
  have hCount := Tadd_ok2 (K' := 0) hLines T0_ok (pureN rfl) (fun xs v h => run7 (N := 1000009) (by decide) xs v h)
  have hOf := Tadd_ok2 (K' := 0) hCount T0_ok (pureN rfl) (fun xs v h => run9 (N := 1000009) (by decide) xs v h)
  have hOf' : TOk EN TOf (runA EN 1000009 9000) := hOf.le (runA_le' _ (by decide))
  refine Tadd_run hOf' fun xs v h => ?_
  unfold gYes at h
  split at h
  · cases h; exact apartA_le (runA_le' _ (by decide)) aliveD
  · cases h

theorem law_true (R : List (List PV)) (hR : rowsOk KO R = true) : apartA (EG rowG) (runA (EG rowG) 1000009 9006) 3 [.sl R.flatten 38 R.length none] = some (.bool true) :=
  apartS_ok (E := EN) (K := 9000) (d := 5) TDl_ok (pureN rfl _) (holds3 (by decide) R hR)

end Go.Proofs.YtcjcinipfdameaaGreatDoor.Am
