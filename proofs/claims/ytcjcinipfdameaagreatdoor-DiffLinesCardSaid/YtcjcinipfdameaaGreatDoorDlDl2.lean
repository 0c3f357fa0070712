/- DiffLines: ops one by one: whose row, the kind's name, the line. -/
import Derived.Test.YtcjcinipfdameaaGreatDoorDlDl1
set_option linter.unusedVariables false
set_option linter.unusedSimpArgs false
set_option maxRecDepth 100000
set_option maxHeartbeats 4000000
namespace Go.Proofs.YtcjcinipfdameaaGreatDoor.Am

def W6 : List PV := [PV.str [112, 117, 116, 45, 102, 114, 111, 110, 116], PV.str [100, 114, 111, 112, 45, 102, 114, 111, 110, 116], PV.str [112, 117, 116, 45, 103, 114, 111, 117, 112], PV.str [100, 114, 111, 112, 45, 103, 114, 111, 117, 112], PV.str [112, 117, 116, 45, 102, 105, 108, 116, 101, 114], PV.str [100, 114, 111, 112, 45, 102, 105, 108, 116, 101, 114]]
def W7 : List PV := [PV.str [], PV.str [112, 117, 116, 45, 102, 114, 111, 110, 116], PV.str [100, 114, 111, 112, 45, 102, 114, 111, 110, 116], PV.str [112, 117, 116, 45, 103, 114, 111, 117, 112], PV.str [100, 114, 111, 112, 45, 103, 114, 111, 117, 112], PV.str [112, 117, 116, 45, 102, 105, 108, 116, 101, 114], PV.str [100, 114, 111, 112, 45, 102, 105, 108, 116, 101, 114]]

theorem tSvc (cells : List PV) (N : Nat) : apartS EN T0 H0 N 5 14 [PV.agg (shapeAt KO cells 0)] =
  (bif asI (cells.getD 0 PV.nilp) == 1 then
    (some (PV.agg [PV.str (asS (cells.getD 20 PV.nilp)), PV.str (asS (cells.getD 21 PV.nilp))]))
  else
    (bif asI (cells.getD 0 PV.nilp) == 2 then
      (some (PV.agg [PV.str (asS (cells.getD 20 PV.nilp)), PV.str (asS (cells.getD 21 PV.nilp))]))
    else
      (bif asI (cells.getD 0 PV.nilp) == 3 then
        (some (PV.agg [PV.str (asS (cells.getD 27 PV.nilp)), PV.str (asS (cells.getD 28 PV.nilp))]))
      else
        (bif asI (cells.getD 0 PV.nilp) == 4 then
          (some (PV.agg [PV.str (asS (cells.getD 27 PV.nilp)), PV.str (asS (cells.getD 28 PV.nilp))]))
        else
          (bif asI (cells.getD 0 PV.nilp) == 5 then
            (some (PV.agg [PV.str (asS (cells.getD 35 PV.nilp)), PV.str (asS (cells.getD 36 PV.nilp))]))
          else
            (bif asI (cells.getD 0 PV.nilp) == 6 then
              (some (PV.agg [PV.str (asS (cells.getD 35 PV.nilp)), PV.str (asS (cells.getD 36 PV.nilp))]))
            else
              (some (PV.agg [PV.str [], PV.str []])))))))) := by kernel_rfl

theorem tSvcR (cells : List PV) (N : Nat) : apartS EN T0 H0 N 5 17 [PV.agg (shapeAt KO cells 0)] =
  (bif asI (cells.getD 0 PV.nilp) == 1 then
    (some (PV.agg [PV.str (asS (cells.getD 20 PV.nilp)), PV.str (asS (cells.getD 21 PV.nilp))]))
  else
    (bif asI (cells.getD 0 PV.nilp) == 2 then
      (some (PV.agg [PV.str (asS (cells.getD 20 PV.nilp)), PV.str (asS (cells.getD 21 PV.nilp))]))
    else
      (bif asI (cells.getD 0 PV.nilp) == 3 then
        (some (PV.agg [PV.str (asS (cells.getD 27 PV.nilp)), PV.str (asS (cells.getD 28 PV.nilp))]))
      else
        (bif asI (cells.getD 0 PV.nilp) == 4 then
          (some (PV.agg [PV.str (asS (cells.getD 27 PV.nilp)), PV.str (asS (cells.getD 28 PV.nilp))]))
        else
          (bif asI (cells.getD 0 PV.nilp) == 5 then
            (some (PV.agg [PV.str (asS (cells.getD 35 PV.nilp)), PV.str (asS (cells.getD 36 PV.nilp))]))
          else
            (bif asI (cells.getD 0 PV.nilp) == 6 then
              (some (PV.agg [PV.str (asS (cells.getD 35 PV.nilp)), PV.str (asS (cells.getD 36 PV.nilp))]))
            else
              (some (PV.agg [PV.str [], PV.str []])))))))) := by kernel_rfl

theorem tWord (k : Int) (N : Nat) : apartS EN T0 H0 N 5 15 [PV.int IntKind.i64 k] =
  (bif decide (k ≥ 1) then
    (bif !decide (k ≤ 6) then
      (some (PV.str []))
    else
      (ass (decide (0 ≤ k) && decide (k < (↑7 : Int))) <|
      ass (okAt [Kd.str] W7 (0 + k.toNat * 1)) <|
        some (PV.str (asS (W7.getD (0 + k.toNat * 1) PV.nilp)))))
  else
    (some (PV.str []))) := by kernel_rfl

theorem tFmt (a : List UInt8) (b : List UInt8) (N : Nat) : apartS EN TRKey H0 N 5 13 [PV.agg [PV.str a, PV.str b]] =
  (ass (decide (a.length ≤ 1000000) && decide (b.length ≤ 1000000)) <|
  bif !(Sp.label a && Sp.label b) then
      (some (PV.str []))
    else
      (ass (decide (a.length + 1 ≤ 4611686018427387904)) <|
      ass (decide ((a.append [47]).length + b.length ≤ 4611686018427387904)) <|
        some (PV.str ((a.append [47]).append b)))) := by kernel_rfl

theorem tLine (cells : List PV) (N : Nat) : apartS EN TSvc2 H0 N 5 10 [PV.agg (shapeAt KO cells 0)] =
  (bif decide (asI (cells.getD 0 PV.nilp) ≥ 1) then
    (bif decide (asI (cells.getD 0 PV.nilp) ≤ 6) then
      (ass (decide (0 ≤ IntKind.i64.wrap (asI (cells.getD 0 PV.nilp) - 1)) && decide (IntKind.i64.wrap (asI (cells.getD 0 PV.nilp) - 1) < (↑6 : Int))) <|
      ass (okAt [Kd.str] W6 ((IntKind.i64.wrap (asI (cells.getD 0 PV.nilp) - 1)).toNat * 1)) <|
        ass (oldL 0 (slCells (cells.getD 33 PV.nilp))) <|
          ass (oldL 0 (slCells (cells.getD 34 PV.nilp))) <|
            ass (oldL 0 (slCells (cells.getD 37 PV.nilp))) <|
              ass (decide ((Sp.svA (shapeAt KO cells 0)).length ≤ 1000000) && decide ((Sp.svB (shapeAt KO cells 0)).length ≤ 1000000)) <|
                bif !(Sp.label (Sp.svA (shapeAt KO cells 0)) && Sp.label (Sp.svB (shapeAt KO cells 0))) then
                    (ass (decide ((asS (W6.getD ((IntKind.i64.wrap (asI (cells.getD 0 PV.nilp) - 1)).toNat * 1) PV.nilp)).length + 2 ≤ 4611686018427387904)) <|
                    some (PV.str ((asS (W6.getD ((IntKind.i64.wrap (asI (cells.getD 0 PV.nilp) - 1)).toNat * 1) PV.nilp)).append [32, 45])))
                  else
                    (ass (decide ((asS (W6.getD ((IntKind.i64.wrap (asI (cells.getD 0 PV.nilp) - 1)).toNat * 1) PV.nilp)).length + 1 ≤ 4611686018427387904)) <|
                    ass (decide (((asS (W6.getD ((IntKind.i64.wrap (asI (cells.getD 0 PV.nilp) - 1)).toNat * 1) PV.nilp)).append [32]).length + (Sp.svA (shapeAt KO cells 0)).length ≤ 4611686018427387904)) <|
                      ass (decide ((((asS (W6.getD ((IntKind.i64.wrap (asI (cells.getD 0 PV.nilp) - 1)).toNat * 1) PV.nilp)).append [32]).append (Sp.svA (shapeAt KO cells 0))).length + 1 ≤ 4611686018427387904)) <|
                        ass (decide (((((asS (W6.getD ((IntKind.i64.wrap (asI (cells.getD 0 PV.nilp) - 1)).toNat * 1) PV.nilp)).append [32]).append (Sp.svA (shapeAt KO cells 0))).append [47]).length + (Sp.svB (shapeAt KO cells 0)).length ≤ 4611686018427387904)) <|
                          some (PV.str (((((asS (W6.getD ((IntKind.i64.wrap (asI (cells.getD 0 PV.nilp) - 1)).toNat * 1) PV.nilp)).append [32]).append (Sp.svA (shapeAt KO cells 0))).append [47]).append (Sp.svB (shapeAt KO cells 0))))))
    else
      (ass (oldL 0 (slCells (cells.getD 33 PV.nilp))) <|
      ass (oldL 0 (slCells (cells.getD 34 PV.nilp))) <|
        ass (oldL 0 (slCells (cells.getD 37 PV.nilp))) <|
          ass (decide ((Sp.svA (shapeAt KO cells 0)).length ≤ 1000000) && decide ((Sp.svB (shapeAt KO cells 0)).length ≤ 1000000)) <|
            bif !(Sp.label (Sp.svA (shapeAt KO cells 0)) && Sp.label (Sp.svB (shapeAt KO cells 0))) then
                (some (PV.str [32, 45]))
              else
                (ass (decide (1 + (Sp.svA (shapeAt KO cells 0)).length ≤ 4611686018427387904)) <|
                ass (decide ((32 :: Sp.svA (shapeAt KO cells 0)).length + 1 ≤ 4611686018427387904)) <|
                  ass (decide ((32 :: (Sp.svA (shapeAt KO cells 0)).append [47]).length + (Sp.svB (shapeAt KO cells 0)).length ≤ 4611686018427387904)) <|
                    some (PV.str (32 :: ((Sp.svA (shapeAt KO cells 0)).append [47]).append (Sp.svB (shapeAt KO cells 0)))))))
  else
    (ass (oldL 0 (slCells (cells.getD 33 PV.nilp))) <|
    ass (oldL 0 (slCells (cells.getD 34 PV.nilp))) <|
      ass (oldL 0 (slCells (cells.getD 37 PV.nilp))) <|
        ass (decide ((Sp.svA (shapeAt KO cells 0)).length ≤ 1000000) && decide ((Sp.svB (shapeAt KO cells 0)).length ≤ 1000000)) <|
          bif !(Sp.label (Sp.svA (shapeAt KO cells 0)) && Sp.label (Sp.svB (shapeAt KO cells 0))) then
              (some (PV.str [32, 45]))
            else
              (ass (decide (1 + (Sp.svA (shapeAt KO cells 0)).length ≤ 4611686018427387904)) <|
              ass (decide ((32 :: Sp.svA (shapeAt KO cells 0)).length + 1 ≤ 4611686018427387904)) <|
                ass (decide ((32 :: (Sp.svA (shapeAt KO cells 0)).append [47]).length + (Sp.svB (shapeAt KO cells 0)).length ≤ 4611686018427387904)) <|
                  some (PV.str (32 :: ((Sp.svA (shapeAt KO cells 0)).append [47]).append (Sp.svB (shapeAt KO cells 0))))))) := by kernel_rfl

theorem wk_shape {K : List Kd} {r : List PV} (h : wk K r = true) : shapeAt K r 0 = r := by
  have := (wk_at [] [] h).2
  simpa using this

theorem old_get : ∀ (r : List PV) (i : Nat), oldL 0 r = true → oldL 0 (slCells (r.getD i .nilp)) = true
  | [], i, _ => by simp [slCells, oldL]
  | x :: r, 0, h => by
    simp only [oldL, Bool.and_eq_true] at h
    simp only [List.getD_cons_zero]
    cases x <;> first | rfl | (simp only [oldV] at h; exact h.1)
  | x :: r, i + 1, h => by
    simp only [oldL, Bool.and_eq_true] at h
    simp only [List.getD_cons_succ]
    exact old_get r i h.2

theorem svc_of {k : Int} {a b c d e f : List UInt8} {x y : List UInt8} (hx : x = bif k == 1 || k == 2 then a else bif k == 3 || k == 4 then c else bif k == 5 || k == 6 then e else []) (hy : y = bif k == 1 || k == 2 then b else bif k == 3 || k == 4 then d else bif k == 5 || k == 6 then f else []) :
    (bif k == 1 then some (PV.agg [.str a, .str b]) else bif k == 2 then some (PV.agg [.str a, .str b]) else bif k == 3 then some (PV.agg [.str c, .str d]) else bif k == 4 then some (PV.agg [.str c, .str d]) else bif k == 5 then some (PV.agg [.str e, .str f]) else bif k == 6 then some (PV.agg [.str e, .str f]) else some (PV.agg [.str [], .str []])) = some (PV.agg [.str x, .str y]) := by
  subst hx hy
  cases k == 1 <;> cases k == 2 <;> cases k == 3 <;> cases k == 4 <;> cases k == 5 <;> cases k == 6 <;> rfl

theorem runSvc {N : Nat} (xs : List PV) (v : PV) (h : gSvc xs = some (true, v)) : ∃ H, apartS EN T0 H N 5 14 xs = some v := by
  unfold gSvc at h
  split at h
  · rename_i r
    simp only [Option.some.injEq, Prod.mk.injEq] at h
    obtain ⟨hk, rfl⟩ := h
    refine ⟨H0, ?_⟩
    have := tSvc r N
    rw [wk_shape hk] at this
    rw [this]
    exact svc_of rfl rfl
  · cases h

theorem runSvcR {N : Nat} (xs : List PV) (v : PV) (h : gSvc xs = some (true, v)) : ∃ H, apartS EN T0 H N 5 17 xs = some v := by
  unfold gSvc at h
  split at h
  · rename_i r
    simp only [Option.some.injEq, Prod.mk.injEq] at h
    obtain ⟨hk, rfl⟩ := h
    refine ⟨H0, ?_⟩
    have := tSvcR r N
    rw [wk_shape hk] at this
    rw [this]
    exact svc_of rfl rfl
  · cases h

theorem words7 {k : Int} (h1 : 1 ≤ k) (h2 : k ≤ 6) : okAt [Kd.str] W7 (0 + k.toNat * 1) = true ∧ asS (W7.getD (0 + k.toNat * 1) .nilp) = Sp.word k := by
  have : k = 1 ∨ k = 2 ∨ k = 3 ∨ k = 4 ∨ k = 5 ∨ k = 6 := by omega
  rcases this with rfl | rfl | rfl | rfl | rfl | rfl <;> exact ⟨rfl, rfl⟩

theorem words6 {k : Int} (h1 : 1 ≤ k) (h2 : k ≤ 6) : okAt [Kd.str] W6 ((IntKind.i64.wrap (k - 1)).toNat * 1) = true ∧ asS (W6.getD ((IntKind.i64.wrap (k - 1)).toNat * 1) .nilp) = Sp.word k ∧ (decide (0 ≤ IntKind.i64.wrap (k - 1)) && decide (IntKind.i64.wrap (k - 1) < (6 : Int))) = true := by
  have : k = 1 ∨ k = 2 ∨ k = 3 ∨ k = 4 ∨ k = 5 ∨ k = 6 := by omega
  rcases this with rfl | rfl | rfl | rfl | rfl | rfl <;> exact ⟨rfl, rfl, rfl⟩

theorem word_len (k : Int) : (Sp.word k).length ≤ 20 := by
  unfold Sp.word
  cases h : (decide (1 ≤ k) && decide (k ≤ 6)) with
  | false => simp
  | true =>
    simp only [Bool.and_eq_true, decide_eq_true_eq] at h
    have : k = 1 ∨ k = 2 ∨ k = 3 ∨ k = 4 ∨ k = 5 ∨ k = 6 := by omega
    rcases this with rfl | rfl | rfl | rfl | rfl | rfl <;> decide

theorem runWord {N : Nat} (xs : List PV) (v : PV) (h : gWord xs = some (true, v)) : ∃ H, apartS EN T0 H N 5 15 xs = some v := by
  unfold gWord at h
  split at h
  · rename_i k
    cases h
    refine ⟨H0, ?_⟩
    rw [tWord]
    by_cases h1 : 1 ≤ k
    · by_cases h2 : k ≤ 6
      · obtain ⟨w1, w2⟩ := words7 h1 h2
        rw [w1, w2, show decide (k ≥ 1) = true from by simpa using h1, show decide (k ≤ 6) = true from by simpa using h2, ass_of (by simp; omega)]
        rfl
      · rw [show decide (k ≥ 1) = true from by simpa using h1, show decide (k ≤ 6) = false from by simpa using h2]
        have : Sp.word k = [] := by unfold Sp.word; rw [show decide (k ≤ 6) = false from by simpa using h2]; simp
        rw [this]; rfl
    · rw [show decide (k ≥ 1) = false from by simpa using h1]
      have : Sp.word k = [] := by unfold Sp.word; rw [show decide (1 ≤ k) = false from by simpa using h1]; simp
      rw [this]; rfl
  · cases h

theorem runFmt {N : Nat} (xs : List PV) (v : PV) (h : gFmt xs = some (true, v)) : ∃ H, apartS EN TRKey H N 5 13 xs = some v := by
  unfold gFmt at h
  split at h
  · rename_i a b
    simp only [Option.some.injEq, Prod.mk.injEq] at h
    obtain ⟨hk, rfl⟩ := h
    refine ⟨H0, ?_⟩
    rw [tFmt, ass_of hk]
    simp only [Bool.and_eq_true, decide_eq_true_eq] at hk
    have e : (a.append [47]).length = a.length + 1 := by show (a ++ [47]).length = _; simp
    unfold Sp.keyText
    cases hc : Sp.label a && Sp.label b with
    | false => rfl
    | true =>
      simp only [Bool.not_true, cond_false, cond_true]
      rw [ass_of (by simp; omega), ass_of (by rw [e]; simp; omega)]
      show some (PV.str ((a ++ [47]) ++ b)) = _
      simp
  · cases h

theorem sv_len {r : List PV} (h : Sp.longR r = false) : (Sp.svA r).length ≤ 100 ∧ (Sp.svB r).length ≤ 100 := by
  unfold Sp.longR Sp.lF Sp.lG Sp.lH at h
  simp only [Bool.or_eq_false_iff, decide_eq_false_iff_not, Nat.reduceAdd] at h
  unfold Sp.svA Sp.svB
  constructor
  · cases Sp.kind r == 1 || Sp.kind r == 2 <;> cases Sp.kind r == 3 || Sp.kind r == 4 <;> cases Sp.kind r == 5 || Sp.kind r == 6 <;> simp only [cond_true, cond_false, List.length_nil] <;> omega
  · cases Sp.kind r == 1 || Sp.kind r == 2 <;> cases Sp.kind r == 3 || Sp.kind r == 4 <;> cases Sp.kind r == 5 || Sp.kind r == 6 <;> simp only [cond_true, cond_false, List.length_nil] <;> omega

theorem runLine {N : Nat} (xs : List PV) (v : PV) (h : gLine xs = some (true, v)) : ∃ H, apartS EN TSvc2 H N 5 10 xs = some v := by
  unfold gLine at h
  split at h
  · rename_i r
    simp only [Option.some.injEq, Prod.mk.injEq, Bool.and_eq_true, Bool.not_eq_true'] at h
    obtain ⟨⟨hk, ho, hl⟩, rfl⟩ := h
    refine ⟨H0, ?_⟩
    have ht := tLine r N
    rw [wk_shape hk] at ht
    rw [ht]
    obtain ⟨la, lb⟩ := sv_len hl
    have lw := word_len (Sp.kind r)
    have o1 := old_get r 33 ho
    have o2 := old_get r 34 ho
    have o3 := old_get r 37 ho
    repeat rw [ass_of o1]
    repeat rw [ass_of o2]
    repeat rw [ass_of o3]
    have hab : (decide ((Sp.svA r).length ≤ 1000000) && decide ((Sp.svB r).length ≤ 1000000)) = true := by simp; omega
    repeat rw [ass_of hab]
    show (bif decide (Sp.kind r ≥ 1) then (bif decide (Sp.kind r ≤ 6) then _ else _) else _) = _
    unfold Sp.line Sp.keyText
    have hne : (Sp.svA r ++ 47 :: Sp.svB r == ([] : List UInt8)) = false := by cases Sp.svA r <;> rfl
    by_cases h1 : 1 ≤ Sp.kind r
    · by_cases h2 : Sp.kind r ≤ 6
      · obtain ⟨w1, w2, w3⟩ := words6 h1 h2
        rw [show decide (Sp.kind r ≥ 1) = true from by simpa using h1, show decide (Sp.kind r ≤ 6) = true from by simpa using h2]
        simp only [cond_true]
        have e0 : asI (r.getD 0 PV.nilp) = Sp.kind r := rfl
        rw [e0, w1, w2, ass_of (by exact w3), ass_of rfl]
        cases hc : Sp.label (Sp.svA r) && Sp.label (Sp.svB r) with
        | false =>
          simp only [Bool.not_false, cond_true, cond_false]
          rw [ass_of (by simp; omega)]
          rfl
        | true =>
          simp only [Bool.not_true, cond_true, cond_false]
          simp only [List.append_eq]
          rw [ass_of (by simp; omega), ass_of (by simp; omega), ass_of (by simp; omega), ass_of (by simp; omega)]
          rw [hne]; simp
      · rw [show decide (Sp.kind r ≥ 1) = true from by simpa using h1, show decide (Sp.kind r ≤ 6) = false from by simpa using h2]
        have hw : Sp.word (Sp.kind r) = [] := by unfold Sp.word; rw [show decide (Sp.kind r ≤ 6) = false from by simpa using h2]; simp
        rw [hw]
        cases hc : Sp.label (Sp.svA r) && Sp.label (Sp.svB r) with
        | false => rfl
        | true =>
          simp only [Bool.not_true, cond_true, cond_false]
          simp only [List.append_eq]
          rw [ass_of (by simp; omega), ass_of (by simp; omega), ass_of (by simp; omega)]
          rw [hne]; simp
    · rw [show decide (Sp.kind r ≥ 1) = false from by simpa using h1]
      have hw : Sp.word (Sp.kind r) = [] := by unfold Sp.word; rw [show decide (1 ≤ Sp.kind r) = false from by simpa using h1]; simp
      rw [hw]
      cases hc : Sp.label (Sp.svA r) && Sp.label (Sp.svB r) with
      | false => rfl
      | true =>
        simp only [Bool.not_true, cond_true, cond_false]
        simp only [List.append_eq]
        rw [ass_of (by simp; omega), ass_of (by simp; omega), ass_of (by simp; omega)]
        rw [hne]; simp
  · cases h

end Go.Proofs.YtcjcinipfdameaaGreatDoor.Am
