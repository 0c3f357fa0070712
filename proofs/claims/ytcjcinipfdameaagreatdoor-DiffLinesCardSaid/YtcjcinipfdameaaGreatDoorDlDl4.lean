/- DiffLines: the loops' laws; summaries. -/
import Derived.Test.YtcjcinipfdameaaGreatDoorDlDl3
set_option linter.unusedVariables false
set_option linter.unusedSimpArgs false
set_option maxRecDepth 100000
set_option maxHeartbeats 8000000
namespace Go.Proofs.YtcjcinipfdameaaGreatDoor.Am

theorem rows_at' {K : List Kd} {R : List (List PV)} (h : rowsOk K R = true) {j : Nat} (hj : j < R.length) : okAt K R.flatten (j * K.length) = true ∧ shapeAt K R.flatten (j * K.length) = R[j] := by
  have := rows_at h hj
  rwa [Nat.zero_add] at this

theorem inside' {i n : Nat} (h : i < n) : (decide (0 ≤ ((i : Nat) : Int)) && decide (((i : Nat) : Int) < (n : Int))) = true := by
  simp only [Bool.and_eq_true, decide_eq_true_eq]; omega

/-- Rows: what is asked of them, taken apart. -/
theorem rowsS_ok {n : Nat} {cells : List PV} (h : rowsS n cells = true) : ∃ R : List (List PV), rowsOk KO R = true ∧ R.length = n ∧ cells = R.flatten ∧ chunks 38 n cells = R ∧ n ≤ 20 ∧ ∀ r ∈ R, Sp.longR r = false := by
  unfold rowsS rowsC at h
  simp only [Bool.and_eq_true, decide_eq_true_eq, Bool.not_eq_true', List.any_eq_false] at h
  obtain ⟨h1, ⟨h2, h3⟩, h4⟩ := h
  refine ⟨chunks 38 n cells, h3, chunks_len 38 n cells, (chunks_flat 38 n cells h2).symm, rfl, h1, fun r hr => ?_⟩
  have := h4 r hr
  simpa using this

theorem old_c {r : List PV} (i : Nat) (h : oldL 0 r = true) : oldL 0 (slCells (Sp.c r i)) = true := old_get r i h

theorem drop_at {α : Type} {R : List α} {i : Nat} (h : i < R.length) : R.drop i = R[i] :: R.drop (i + 1) := List.drop_eq_getElem_cons h
theorem take_at {α : Type} {R : List α} {i : Nat} (h : i < R.length) : R.take (i + 1) = R.take i ++ [R[i]] := List.take_succ_eq_append_getElem h

theorem wrap_small {x : Int} (h1 : -1000 ≤ x) (h2 : x ≤ 1000) : IntKind.i64.wrap x = x := by
  simp [IntKind.wrap, IntKind.bits, IntKind.signed]; omega

theorem row_old {R : List (List PV)} (h : rowsOk KO R = true) {r : List PV} (hr : r ∈ R) : oldL 0 r = true := (rowsOk_get h hr).2

/-- A line, as the code puts it together. -/
theorem line_eq (r : List PV) : (bif Sp.keyText (Sp.svA r) (Sp.svB r) == [] then (PV.str (((Sp.word (Sp.kind r)).append [32]).append [45])) else (PV.str (((Sp.word (Sp.kind r)).append [32]).append (Sp.keyText (Sp.svA r) (Sp.svB r))))) = PV.str (Sp.line r) := by
  unfold Sp.line
  cases Sp.keyText (Sp.svA r) (Sp.svB r) == [] <;> simp

theorem key_len {a b : List UInt8} (ha : a.length ≤ 100) (hb : b.length ≤ 100) : (Sp.keyText a b).length ≤ 201 := by
  unfold Sp.keyText
  cases Sp.label a && Sp.label b
  · simp
  · simp; omega

theorem lines_old (R : List (List PV)) : oldL 0 (R.map fun r => PV.str (Sp.line r)) = true := by
  induction R with
  | nil => rfl
  | cons r R ih => simp only [List.map_cons, oldL, oldV, ih, Bool.and_self]

theorem lines_calm (R : List (List PV)) : (R.map fun r => PV.str (Sp.line r)).all PV.calm = true := by
  rw [List.all_eq_true]
  intro x hx
  obtain ⟨r, _, rfl⟩ := List.mem_map.1 hx
  rfl

theorem l6_loop (N n : Nat) (R : List (List PV)) (hR : rowsOk KO R = true) (hl : R.length = n) (hn : n ≤ 20) (hs : ∀ r ∈ R, Sp.longR r = false) : ∀ (c i m : Nat), i + c = n →
    L6 N (m + c + 1) R.flatten n ((R.take i).map fun r => .str (Sp.line r)) i (i : Int) = some (.sl (R.map fun r => .str (Sp.line r)) 1 n none)
  | 0, i, m, h => by
    have hi : i = n := by omega
    subst hi
    rw [tL6, show decide (((i : Nat) : Int) < (i : Int)) = false from by simp, cond_false]
    have e : R.take i = R := List.take_of_length_le (by omega)
    rw [e]
    have hlen : (R.map fun r => PV.str (Sp.line r)).length = i := by simp [hl]
    have e2 : List.take (i * 1) (List.drop 0 (R.map fun r => PV.str (Sp.line r))) = R.map fun r => PV.str (Sp.line r) := by
      rw [List.drop_zero]; exact List.take_of_length_le (by omega)
    rw [e2, ass_of (by rw [lines_calm, hlen]; simp), ass_of (lines_old R)]
  | c + 1, i, m, h => by
    have hi : i < R.length := by omega
    have e38 : (38 : Nat) = KO.length := rfl
    rw [show m + (c + 1) + 1 = (m + c + 1) + 1 from by omega, tL6, ass_of (inside' (by omega : i < n)), show decide (((i : Nat) : Int) < (n : Int)) = true from by simp; omega, cond_true]
    simp only [Int.toNat_natCast]
    rw [e38]
    simp only [(rows_at' hR hi).2]
    rw [ass_of (rows_at' hR hi).1]
    have hr := List.getElem_mem hi
    have ho := row_old hR hr
    obtain ⟨la, lb⟩ := sv_len (hs _ hr)
    have lw := word_len (Sp.kind R[i])
    have lk := key_len la lb
    have hlen : ((R.take i).map fun r => PV.str (Sp.line r)).length = i := by simp; omega
    have e2 : List.take (i * 1) ((R.take i).map fun r => PV.str (Sp.line r)) = (R.take i).map fun r => PV.str (Sp.line r) := List.take_of_length_le (by omega)
    rw [ass_of (old_c 33 ho), ass_of (old_c 34 ho), ass_of (old_c 37 ho), ass_of (by simp; omega)]
    have a1 : decide ((Sp.word (Sp.kind R[i])).length + 1 ≤ 4611686018427387904) = true := by simp; omega
    have a2 : (i == i && (decide (i ≤ 1048576) && (decide (1 ≤ 1048576) && decide (0 + i * 1 ≤ ((R.take i).map fun r => PV.str (Sp.line r)).length)))) = true := by rw [hlen]; simp; omega
    have a3 : (!decide (0 + i + 1 ≤ i)) = true := by simp
    have ih := l6_loop N n R hR hl hn hs c (i + 1) m (by omega)
    rw [take_at hi, List.map_append, List.map_singleton] at ih
    have hold : oldL 0 (((R.take i).map fun r => PV.str (Sp.line r)) ++ [PV.str (Sp.line R[i])]) = true := by
      have := lines_old (R.take (i + 1))
      rwa [take_at hi, List.map_append, List.map_singleton] at this
    rw [e2]
    have he := line_eq R[i]
    cases hk : Sp.keyText (Sp.svA R[i]) (Sp.svB R[i]) == [] with
    | true =>
      rw [hk, cond_true] at he
      rw [he, cond_true, ass_of a1, ass_of (by simp; omega), ass_of a2, ass_of a3, ass_of (rows_old hR), ass_of (rows_old hR)]
      simp only [List.append_eq]
      rw [ass_of hold, wrap_small (by omega) (by omega)]
      exact ih
    | false =>
      rw [hk, cond_false] at he
      rw [he, cond_false, ass_of a1, ass_of (by simp; omega), ass_of a2, ass_of a3, ass_of (rows_old hR), ass_of (rows_old hR)]
      simp only [List.append_eq]
      rw [ass_of hold, wrap_small (by omega) (by omega)]
      exact ih

theorem run6 {N : Nat} (hN : 100 ≤ N) (xs : List PV) (v : PV) (h : gLines xs = some (true, v)) : ∃ H, apartS EN TSvc2 H N 5 6 xs = some v := by
  unfold gLines at h
  split at h
  · rename_i cells n
    simp only [Option.some.injEq, Prod.mk.injEq] at h
    obtain ⟨hk, rfl⟩ := h
    obtain ⟨R, hR, hl, rfl, hch, hn, hs⟩ := rowsS_ok hk
    rw [hch]
    refine ⟨HDl, ?_⟩
    obtain ⟨N, rfl⟩ : ∃ k, N = k + 1 := ⟨N - 1, by omega⟩
    rw [tA6]
    cases n with
    | zero =>
      have : R = [] := List.eq_nil_of_length_eq_zero hl
      subst this
      rfl
    | succ k =>
      have hi : 0 < R.length := by omega
      have e38 : (0 : Nat) = 0 * KO.length := rfl
      have hrow := rows_at' hR hi
      rw [Nat.zero_mul] at hrow
      simp only [hrow.2]
      have hr := List.getElem_mem hi
      have ho := row_old hR hr
      obtain ⟨la, lb⟩ := sv_len (hs _ hr)
      have lw := word_len (Sp.kind R[0])
      have lk := key_len la lb
      rw [show decide ((0 : Int) < ((k + 1 : Nat) : Int)) = true from by simp, cond_true, ass_of (by simp), ass_of hrow.1, ass_of (old_c 33 ho), ass_of (old_c 34 ho), ass_of (old_c 37 ho), ass_of (by simp; omega)]
      have a1 : decide ((Sp.word (Sp.kind R[0])).length + 1 ≤ 4611686018427387904) = true := by simp; omega
      have fin : L6 (N + 1) N R.flatten (k + 1) [PV.str (Sp.line R[0])] 1 (IntKind.i64.wrap (0 + 1)) = some (.sl (R.map fun r => .str (Sp.line r)) 1 (k + 1) none) := by
        have := l6_loop (N + 1) (k + 1) R hR hl hn hs k 1 (N - k - 1) (by omega)
        rw [show N - k - 1 + k + 1 = N from by omega, take_at hi] at this
        rw [show IntKind.i64.wrap (0 + 1) = ((1 : Nat) : Int) from by decide]
        simpa using this
      have he := line_eq R[0]
      cases hk : Sp.keyText (Sp.svA R[0]) (Sp.svB R[0]) == [] with
      | true =>
        rw [hk, cond_true] at he
        rw [he, cond_true, ass_of a1, ass_of (by simp; omega), ass_of (rows_old hR), ass_of (rows_old hR)]
        exact fin
      | false =>
        rw [hk, cond_false] at he
        rw [he, cond_false, ass_of a1, ass_of (by simp; omega), ass_of (rows_old hR), ass_of (rows_old hR)]
        exact fin
  · cases h

theorem sum_bound (f : List PV → Int) (h : ∀ r, 0 ≤ f r ∧ f r ≤ 1) : ∀ R : List (List PV), 0 ≤ Sp.sum f R ∧ Sp.sum f R ≤ R.length
  | [] => by simp [Sp.sum]
  | r :: R => by
    have := sum_bound f h R
    have := h r
    simp only [Sp.sum, List.length_cons]
    omega

theorem put_01 (r : List PV) : 0 ≤ Sp.put r ∧ Sp.put r ≤ 1 := by unfold Sp.put; cases (Sp.kind r == 1 || (Sp.kind r == 3 || Sp.kind r == 5)) <;> simp
theorem drop_01 (r : List PV) : 0 ≤ Sp.drop r ∧ Sp.drop r ≤ 1 := by unfold Sp.drop; cases (Sp.kind r == 2 || (Sp.kind r == 4 || Sp.kind r == 6)) <;> simp

/-- A round that counts, by the kind. -/
theorem count_of {A : Type} (k : Int) (f : Int → Int → A) (p d : Int) (hp : -900 ≤ p ∧ p ≤ 900) (hd : -900 ≤ d ∧ d ≤ 900) :
    (bif k == 5 then f (IntKind.i64.wrap (p + 1)) d else bif k == 1 then f (IntKind.i64.wrap (p + 1)) d else bif k == 3 then f (IntKind.i64.wrap (p + 1)) d else bif k == 6 then f p (IntKind.i64.wrap (d + 1)) else bif k == 2 then f p (IntKind.i64.wrap (d + 1)) else bif k == 4 then f p (IntKind.i64.wrap (d + 1)) else f p d) =
    f (p + bif k == 1 || (k == 3 || k == 5) then 1 else 0) (d + bif k == 2 || (k == 4 || k == 6) then 1 else 0) := by
  rw [wrap_small (by omega) (by omega), wrap_small (by omega) (by omega)]
  by_cases h1 : k = 1
  · subst h1; simp
  by_cases h2 : k = 2
  · subst h2; simp
  by_cases h3 : k = 3
  · subst h3; simp
  by_cases h4 : k = 4
  · subst h4; simp
  by_cases h5 : k = 5
  · subst h5; simp
  by_cases h6 : k = 6
  · subst h6; simp
  have e : ∀ j : Int, k ≠ j → (k == j) = false := fun j hj => by simpa using hj
  rw [e 1 h1, e 2 h2, e 3 h3, e 4 h4, e 5 h5, e 6 h6]
  simp

theorem l7_loop (N n : Nat) (R : List (List PV)) (hR : rowsOk KO R = true) (hl : R.length = n) (hn : n ≤ 20) : ∀ (c i m : Nat) (p d : Int), i + c = n → 0 ≤ p → p ≤ i → 0 ≤ d → d ≤ i →
    L7 N (m + c + 1) R.flatten n p d (i : Int) = some (.tup [.int .i64 (p + Sp.sum Sp.put (R.drop i)), .int .i64 (d + Sp.sum Sp.drop (R.drop i))])
  | 0, i, m, p, d, h, _, _, _, _ => by
    have hi : i = n := by omega
    subst hi
    rw [tL7, show decide (((i : Nat) : Int) < (i : Int)) = false from by simp, cond_false, List.drop_of_length_le (by omega)]
    simp [Sp.sum]
  | c + 1, i, m, p, d, h, p0, p1, d0, d1 => by
    have hi : i < R.length := by omega
    have e38 : (38 : Nat) = KO.length := rfl
    rw [show m + (c + 1) + 1 = (m + c + 1) + 1 from by omega, tL7, ass_of (inside' (by omega : i < n)), show decide (((i : Nat) : Int) < (n : Int)) = true from by simp; omega, cond_true]
    simp only [Int.toNat_natCast]
    rw [e38]
    simp only [(rows_at' hR hi).2]
    rw [ass_of (rows_at' hR hi).1]
    repeat rw [ass_of (rows_old hR)]
    rw [wrap_small (x := (i : Int) + 1) (by omega) (by omega)]
    have hcc := count_of (Sp.kind R[i]) (fun p d => L7 N (m + c + 1) R.flatten n p d ((i : Int) + 1)) p d (by omega) (by omega)
    rw [hcc]
    have ih := l7_loop N n R hR hl hn c (i + 1) m (p + Sp.put R[i]) (d + Sp.drop R[i]) (by omega) (by have := put_01 R[i]; omega) (by have := put_01 R[i]; omega) (by have := drop_01 R[i]; omega) (by have := drop_01 R[i]; omega)
    rw [drop_at hi]
    simp only [Sp.sum]
    rw [show p + (Sp.put R[i] + Sp.sum Sp.put (R.drop (i + 1))) = p + Sp.put R[i] + Sp.sum Sp.put (R.drop (i + 1)) from by omega, show d + (Sp.drop R[i] + Sp.sum Sp.drop (R.drop (i + 1))) = d + Sp.drop R[i] + Sp.sum Sp.drop (R.drop (i + 1)) from by omega]
    exact ih

theorem run7 {N : Nat} (hN : 100 ≤ N) (xs : List PV) (v : PV) (h : gCount xs = some (true, v)) : ∃ H, apartS EN T0 H N 5 7 xs = some v := by
  unfold gCount at h
  split at h
  · rename_i cells n
    simp only [Option.some.injEq, Prod.mk.injEq] at h
    obtain ⟨hk, rfl⟩ := h
    obtain ⟨R, hR, hl, rfl, hch, hn, hs⟩ := rowsS_ok hk
    rw [hch]
    refine ⟨H0, ?_⟩
    rw [tA7]
    have := l7_loop N n R hR hl hn n 0 (N - n - 1) 0 0 (by omega) (by omega) (by omega) (by omega) (by omega)
    rw [show N - n - 1 + n + 1 = N from by omega] at this
    simpa using this
  · cases h

end Go.Proofs.YtcjcinipfdameaaGreatDoor.Am
