/- Scripts as bytes: the loop of the document's Encode. -/
import Derived.Test.YtbnfofcbajaiiaaDoorSe5
set_option linter.unusedVariables false
set_option linter.unusedSimpArgs false
set_option maxRecDepth 100000
set_option maxHeartbeats 8000000
namespace Go.Proofs.YtbnfofcbajaiiaaDoor.Am

theorem takeB {l : List UInt8} {n : Nat} (h : n = l.length) : List.take n (l.map bpv) = l.map bpv := List.take_of_length_le (by simp [h])
theorem snoc1 (l : List UInt8) (x : UInt8) : l.map bpv ++ [bpv x] = (l ++ [x]).map bpv := by simp
theorem snoc2 (l : List UInt8) (x y : UInt8) : l.map bpv ++ [bpv x, bpv y] = (l ++ [x, y]).map bpv := by simp
theorem app2 (l r : List UInt8) : l.map bpv ++ r.map bpv = (l ++ r).map bpv := by simp

/-- What the document answers from a place on. -/
def refR (acc : List UInt8) (r : List Act) : PV := if Sp.encE r = 0 then .tup [.sl ((acc ++ Sp.encL r).map bpv) 1 (acc ++ Sp.encL r).length none, .int .i64 0] else .tup [.sl [] 1 0 none, .int .i64 (Sp.encE r : Int)]

theorem refR_cons (acc : List UInt8) (a : Act) (r : List Act) : refR acc (a :: r) = if Sp.entE a.kind a.n a.bytes.length = 0 then refR (acc ++ Sp.entB a.kind a.n a.bytes) r else .tup [.sl [] 1 0 none, .int .i64 (Sp.entE a.kind a.n a.bytes.length : Int)] := by
  unfold refR
  rw [encE_cons, encL_cons]
  by_cases h : Sp.entE a.kind a.n a.bytes.length = 0
  · simp only [h, if_true, List.append_assoc]
  · simp only [h, if_false]

theorem div256 (n : Nat) (h : n ≤ 100000) : PV.int .u8 (IntKind.u8.wrap (IntKind.i64.wrap ((n : Int).tdiv 256))) = bpv (UInt8.ofNat (n / 256)) := by
  refine wrap8_of ?_
  have : ((n : Int)).tdiv 256 = ((n / 256 : Nat) : Int) := rfl
  rw [this, wrap_in] <;> omega

theorem rem256 (n : Nat) : PV.int .u8 (IntKind.u8.wrap ((n : Int).tmod 256)) = bpv (UInt8.ofNat (n % 256)) := wrap8_of rfl

theorem round9 (N m : Nat) (l : List Act) (hl : l.length ≤ 30) (i : Nat) (hi : i < l.length) (hb : l[i].bytes.length ≤ 1300) (acc : List UInt8) (hacc : acc.length ≤ 100000) :
    L9b H9 N (m + 1) (l.flatMap Act.enc) l.length (i : Int) (acc.map bpv) acc.length =
      if Sp.entE l[i].kind l[i].n l[i].bytes.length = 0 then L9b H9 N m (l.flatMap Act.enc) l.length ((i + 1 : Nat) : Int) ((acc ++ Sp.entB l[i].kind l[i].n l[i].bytes).map bpv) (acc ++ Sp.entB l[i].kind l[i].n l[i].bytes).length
      else some (.tup [.sl [] 1 0 none, .int .i64 (Sp.entE l[i].kind l[i].n l[i].bytes.length : Int)]) := by
  obtain ⟨h1, h2, h3⟩ := act_cells hi
  have e3 : IntKind.i64.wrap ((i : Int) + 1) = ((i + 1 : Nat) : Int) := wrap_succ (by omega)
  have c1 : ((i : Int) < (l.length : Int)) := by omega
  have tree := t9b N m (l.flatMap Act.enc) l.length i (acc.map bpv) acc.length
  simp only [h1, h2, h3, asI, slCells, slLen, c1, app_eq, oldL_flat (Act.old 0), okAt_act hi, Int.natCast_nonneg, decide_true, Bool.and_true, cond_true, e3] at tree
  rw [tree]
  clear tree
  have hbB : l[i].bytes.length ≤ 1300 := hb
  generalize l[i].kind = k
  generalize l[i].n = q
  generalize hbs : l[i].bytes = bs at hbB ⊢
  have o1 : ∀ z, oldL z (bs.map bpv) = true := fun z => oldL_bytes z bs
  have d1 := div256 bs.length (by omega)
  have d2 := rem256 bs.length
  have hlong : decide ((bs.length : Int) > 65535) = false := by simp; omega
  have ht : ∀ (x : List UInt8) (n : Nat), n = x.length → List.take n (x.map bpv) = x.map bpv := fun x n h => takeB h
  by_cases hlo : k < 1
  · have : Sp.entE k q bs.length = 7 := by unfold Sp.entE; rw [if_neg (by omega), if_neg (by omega), if_neg (by omega), if_neg (by omega)]
    simp [hlo, this]
  by_cases hhi : k > 6
  · have : Sp.entE k q bs.length = 7 := by unfold Sp.entE; rw [if_neg (by omega), if_neg (by omega), if_neg (by omega), if_neg (by omega)]
    simp [hlo, hhi, this]
  have hk : k = 1 ∨ k = 2 ∨ k = 3 ∨ k = 4 ∨ k = 5 ∨ k = 6 := by omega
  rcases hk with rfl | rfl | rfl | rfl | rfl | rfl
  · have wk : PV.int .u8 (IntKind.u8.wrap 1) = bpv 1 := rfl
    simp only [Int.reduceLT, Int.reduceGT, Int.reduceBEq, Int.reduceLE, Int.reduceGE, decide_false, decide_true, cond_true, cond_false, Int.reduceNe, Bool.false_eq_true, if_false, hlong, wk, d1, d2, Nat.mul_one, takeB, snoc1, snoc2, List.length_append, List.length_cons, List.length_nil]
    by_cases h0 : bs.length = 0
    · have hz : bs = [] := List.length_eq_zero_iff.1 h0
      subst hz
      simp only [List.length_nil, List.map_nil, decide_true, cond_true, List.append_nil, Nat.add_zero]
      repeat (refine Eq.trans (ass_of (by first
        | (simp only [eq_self]; done)
        | (simp only [oldL]; done)
        | (simp only [o1, oldL_bytes, List.length_append, List.length_map, List.length_cons, List.length_nil, beq_self_eq_true, Bool.and_eq_true, decide_eq_true_eq, Bool.not_eq_true', decide_eq_false_iff_not, Bool.true_and, Bool.and_true] <;> omega))) ?_)
      rw [if_pos (by simp [Sp.entE] <;> omega)]
      refine congr (congrArg (L9b H9 N m (l.flatMap Act.enc) l.length ((i + 1 : Nat) : Int)) ?_) ?_
      · simp [Sp.entB]
      · simp [Sp.entB] <;> omega
    · simp only [h0, decide_false, cond_false, takeB, app2, List.length_append, List.length_cons, List.length_nil]
      repeat (refine Eq.trans (ass_of (by first
        | (simp only [eq_self]; done)
        | (simp only [oldL]; done)
        | (simp only [o1, oldL_bytes, List.length_append, List.length_map, List.length_cons, List.length_nil, beq_self_eq_true, Bool.and_eq_true, decide_eq_true_eq, Bool.not_eq_true', decide_eq_false_iff_not, Bool.true_and, Bool.and_true] <;> omega))) ?_)
      rw [if_pos (by simp [Sp.entE] <;> omega)]
      refine congr (congrArg (L9b H9 N m (l.flatMap Act.enc) l.length ((i + 1 : Nat) : Int)) ?_) ?_
      · simp [Sp.entB]
      · simp [Sp.entB] <;> omega
  · have wk : PV.int .u8 (IntKind.u8.wrap 2) = bpv 2 := rfl
    simp only [Int.reduceLT, Int.reduceGT, Int.reduceBEq, Int.reduceLE, Int.reduceGE, decide_false, decide_true, cond_true, cond_false, Int.reduceNe, Bool.false_eq_true, if_false, hlong, wk, Nat.mul_one, takeB, snoc1, snoc2, List.length_append, List.length_cons, List.length_nil]
    by_cases q1 : q ≥ 0
    · by_cases q2 : q < 255
      · have e4 : PV.int .u8 (IntKind.u8.wrap q) = bpv (UInt8.ofNat q.toNat) := wrap8_of (by omega)
        have q3 : ¬ (q < 0 ∨ q ≥ 255) := by omega
        simp only [q1, q2, decide_true, cond_true, e4, takeB, snoc1, List.length_append, List.length_cons, List.length_nil]
        repeat (refine Eq.trans (ass_of (by first
          | (simp only [eq_self]; done)
          | (simp only [oldL]; done)
          | (simp only [o1, oldL_bytes, List.length_append, List.length_map, List.length_cons, List.length_nil, beq_self_eq_true, Bool.and_eq_true, decide_eq_true_eq, Bool.not_eq_true', decide_eq_false_iff_not, Bool.true_and, Bool.and_true] <;> omega))) ?_)
        rw [if_pos (by simp [Sp.entE] <;> omega)]
        refine congr (congrArg (L9b H9 N m (l.flatMap Act.enc) l.length ((i + 1 : Nat) : Int)) ?_) ?_
        · simp [Sp.entB, q3]
        · simp [Sp.entB, q3] <;> omega
      · have q3 : (q < 0 ∨ q ≥ 255) := by omega
        have e4 : PV.int .u8 255 = bpv 255 := rfl
        simp only [q1, q2, decide_true, decide_false, cond_true, cond_false, e4, takeB, snoc1, List.length_append, List.length_cons, List.length_nil]
        repeat (refine Eq.trans (ass_of (by first
          | (simp only [eq_self]; done)
          | (simp only [oldL]; done)
          | (simp only [o1, oldL_bytes, List.length_append, List.length_map, List.length_cons, List.length_nil, beq_self_eq_true, Bool.and_eq_true, decide_eq_true_eq, Bool.not_eq_true', decide_eq_false_iff_not, Bool.true_and, Bool.and_true] <;> omega))) ?_)
        rw [if_pos (by simp [Sp.entE] <;> omega)]
        refine congr (congrArg (L9b H9 N m (l.flatMap Act.enc) l.length ((i + 1 : Nat) : Int)) ?_) ?_
        · simp [Sp.entB, q3]
        · simp [Sp.entB, q3] <;> omega
    · have q3 : (q < 0 ∨ q ≥ 255) := by omega
      have e4 : PV.int .u8 255 = bpv 255 := rfl
      simp only [q1, decide_true, decide_false, cond_true, cond_false, e4, takeB, snoc1, List.length_append, List.length_cons, List.length_nil]
      repeat (refine Eq.trans (ass_of (by first
        | (simp only [eq_self]; done)
        | (simp only [oldL]; done)
        | (simp only [o1, oldL_bytes, List.length_append, List.length_map, List.length_cons, List.length_nil, beq_self_eq_true, Bool.and_eq_true, decide_eq_true_eq, Bool.not_eq_true', decide_eq_false_iff_not, Bool.true_and, Bool.and_true] <;> omega))) ?_)
      rw [if_pos (by simp [Sp.entE] <;> omega)]
      refine congr (congrArg (L9b H9 N m (l.flatMap Act.enc) l.length ((i + 1 : Nat) : Int)) ?_) ?_
      · simp [Sp.entB, q3]
      · simp [Sp.entB, q3] <;> omega
  · have wk : PV.int .u8 (IntKind.u8.wrap 3) = bpv 3 := rfl
    simp only [Int.reduceLT, Int.reduceGT, Int.reduceBEq, Int.reduceLE, Int.reduceGE, decide_false, decide_true, cond_true, cond_false, Int.reduceNe, Bool.false_eq_true, if_false, hlong, wk, d1, d2, Nat.mul_one, takeB, snoc1, snoc2, List.length_append, List.length_cons, List.length_nil]
    by_cases h0 : bs.length = 0
    · have hz : bs = [] := List.length_eq_zero_iff.1 h0
      subst hz
      simp only [List.length_nil, List.map_nil, decide_true, cond_true, List.append_nil, Nat.add_zero]
      repeat (refine Eq.trans (ass_of (by first
        | (simp only [eq_self]; done)
        | (simp only [oldL]; done)
        | (simp only [o1, oldL_bytes, List.length_append, List.length_map, List.length_cons, List.length_nil, beq_self_eq_true, Bool.and_eq_true, decide_eq_true_eq, Bool.not_eq_true', decide_eq_false_iff_not, Bool.true_and, Bool.and_true] <;> omega))) ?_)
      rw [if_pos (by simp [Sp.entE] <;> omega)]
      refine congr (congrArg (L9b H9 N m (l.flatMap Act.enc) l.length ((i + 1 : Nat) : Int)) ?_) ?_
      · simp [Sp.entB]
      · simp [Sp.entB] <;> omega
    · simp only [h0, decide_false, cond_false, takeB, app2, List.length_append, List.length_cons, List.length_nil]
      repeat (refine Eq.trans (ass_of (by first
        | (simp only [eq_self]; done)
        | (simp only [oldL]; done)
        | (simp only [o1, oldL_bytes, List.length_append, List.length_map, List.length_cons, List.length_nil, beq_self_eq_true, Bool.and_eq_true, decide_eq_true_eq, Bool.not_eq_true', decide_eq_false_iff_not, Bool.true_and, Bool.and_true] <;> omega))) ?_)
      rw [if_pos (by simp [Sp.entE] <;> omega)]
      refine congr (congrArg (L9b H9 N m (l.flatMap Act.enc) l.length ((i + 1 : Nat) : Int)) ?_) ?_
      · simp [Sp.entB]
      · simp [Sp.entB] <;> omega
  · have wk : PV.int .u8 (IntKind.u8.wrap 4) = bpv 4 := rfl
    simp only [Int.reduceLT, Int.reduceGT, Int.reduceBEq, Int.reduceLE, Int.reduceGE, decide_false, decide_true, cond_true, cond_false, Int.reduceNe, Bool.false_eq_true, if_false, hlong, wk, Nat.mul_one, takeB, snoc1, snoc2, List.length_append, List.length_cons, List.length_nil]
    by_cases q1 : q < 0
    · simp only [q1, decide_true, cond_true]
      repeat (refine Eq.trans (ass_of (by first
        | (simp only [eq_self]; done)
        | (simp only [oldL]; done)
        | (simp only [o1, oldL_bytes, List.length_append, List.length_map, List.length_cons, List.length_nil, beq_self_eq_true, Bool.and_eq_true, decide_eq_true_eq, Bool.not_eq_true', decide_eq_false_iff_not, Bool.true_and, Bool.and_true] <;> omega))) ?_)
      have : Sp.entE 4 q bs.length = 1 := by simp [Sp.entE, q1]
      simp [this]
    by_cases q2 : q > 65535
    · simp only [q1, q2, decide_true, decide_false, cond_true, cond_false]
      repeat (refine Eq.trans (ass_of (by first
        | (simp only [eq_self]; done)
        | (simp only [oldL]; done)
        | (simp only [o1, oldL_bytes, List.length_append, List.length_map, List.length_cons, List.length_nil, beq_self_eq_true, Bool.and_eq_true, decide_eq_true_eq, Bool.not_eq_true', decide_eq_false_iff_not, Bool.true_and, Bool.and_true] <;> omega))) ?_)
      have : Sp.entE 4 q bs.length = 1 := by simp [Sp.entE, q2]
      simp [this]
    obtain ⟨q, rfl⟩ : ∃ z : Nat, q = (z : Int) := ⟨q.toNat, by omega⟩
    have e4 := div256 q (by omega)
    have e5 := rem256 q
    have q3 : ¬ ((q : Int) < 0 ∨ (q : Int) > 65535) := by omega
    simp only [q1, q2, decide_false, cond_false, e4, e5, takeB, snoc2, List.length_append, List.length_cons, List.length_nil]
    repeat (refine Eq.trans (ass_of (by first
      | (simp only [eq_self]; done)
      | (simp only [oldL]; done)
      | (simp only [o1, oldL_bytes, List.length_append, List.length_map, List.length_cons, List.length_nil, beq_self_eq_true, Bool.and_eq_true, decide_eq_true_eq, Bool.not_eq_true', decide_eq_false_iff_not, Bool.true_and, Bool.and_true] <;> omega))) ?_)
    rw [if_pos (by simp [Sp.entE] <;> omega)]
    refine congr (congrArg (L9b H9 N m (l.flatMap Act.enc) l.length ((i + 1 : Nat) : Int)) ?_) ?_
    · simp [Sp.entB, q3]
    · simp [Sp.entB, q3] <;> omega
  · have wk : PV.int .u8 (IntKind.u8.wrap 5) = bpv 5 := rfl
    simp only [Int.reduceLT, Int.reduceGT, Int.reduceBEq, Int.reduceLE, Int.reduceGE, decide_false, decide_true, cond_true, cond_false, Int.reduceNe, Bool.false_eq_true, if_false, hlong, wk, Nat.mul_one, takeB, snoc1, snoc2, List.length_append, List.length_cons, List.length_nil]
    repeat (refine Eq.trans (ass_of (by first
      | (simp only [eq_self]; done)
      | (simp only [oldL]; done)
      | (simp only [o1, oldL_bytes, List.length_append, List.length_map, List.length_cons, List.length_nil, beq_self_eq_true, Bool.and_eq_true, decide_eq_true_eq, Bool.not_eq_true', decide_eq_false_iff_not, Bool.true_and, Bool.and_true] <;> omega))) ?_)
    rw [if_pos (by simp [Sp.entE] <;> omega)]
    refine congr (congrArg (L9b H9 N m (l.flatMap Act.enc) l.length ((i + 1 : Nat) : Int)) ?_) ?_
    · simp [Sp.entB]
    · simp [Sp.entB] <;> omega
  · have wk : PV.int .u8 (IntKind.u8.wrap 6) = bpv 6 := rfl
    simp only [Int.reduceLT, Int.reduceGT, Int.reduceBEq, Int.reduceLE, Int.reduceGE, decide_false, decide_true, cond_true, cond_false, Int.reduceNe, Bool.false_eq_true, if_false, hlong, wk, Nat.mul_one, takeB, snoc1, snoc2, List.length_append, List.length_cons, List.length_nil]
    repeat (refine Eq.trans (ass_of (by first
      | (simp only [eq_self]; done)
      | (simp only [oldL]; done)
      | (simp only [o1, oldL_bytes, List.length_append, List.length_map, List.length_cons, List.length_nil, beq_self_eq_true, Bool.and_eq_true, decide_eq_true_eq, Bool.not_eq_true', decide_eq_false_iff_not, Bool.true_and, Bool.and_true] <;> omega))) ?_)
    rw [if_pos (by simp [Sp.entE] <;> omega)]
    refine congr (congrArg (L9b H9 N m (l.flatMap Act.enc) l.length ((i + 1 : Nat) : Int)) ?_) ?_
    · simp [Sp.entB]
    · simp [Sp.entB] <;> omega

theorem round9a (N m : Nat) (l : List Act) (hl : l.length ≤ 30) (i : Nat) (hi : i < l.length) (hb : l[i].bytes.length ≤ 1300) :
    L9a H9 N (m + 1) (l.flatMap Act.enc) l.length (i : Int) =
      if Sp.entE l[i].kind l[i].n l[i].bytes.length = 0 then L9b H9 N m (l.flatMap Act.enc) l.length ((i + 1 : Nat) : Int) ((Sp.entB l[i].kind l[i].n l[i].bytes).map bpv) (Sp.entB l[i].kind l[i].n l[i].bytes).length
      else some (.tup [.sl [] 1 0 none, .int .i64 (Sp.entE l[i].kind l[i].n l[i].bytes.length : Int)]) := by
  obtain ⟨h1, h2, h3⟩ := act_cells hi
  have e3 : IntKind.i64.wrap ((i : Int) + 1) = ((i + 1 : Nat) : Int) := wrap_succ (by omega)
  have c1 : ((i : Int) < (l.length : Int)) := by omega
  have tree := t9a N m (l.flatMap Act.enc) l.length i
  simp only [h1, h2, h3, asI, slCells, slLen, c1, app_eq, oldL_flat (Act.old 0), okAt_act hi, Int.natCast_nonneg, decide_true, Bool.and_true, cond_true, e3] at tree
  rw [tree]
  clear tree
  have hbB : l[i].bytes.length ≤ 1300 := hb
  generalize l[i].kind = k
  generalize l[i].n = q
  generalize hbs : l[i].bytes = bs at hbB ⊢
  have o1 : ∀ z, oldL z (bs.map bpv) = true := fun z => oldL_bytes z bs
  have d1 := div256 bs.length (by omega)
  have d2 := rem256 bs.length
  have hlong : decide ((bs.length : Int) > 65535) = false := by simp; omega
  have ht : ∀ (x : List UInt8) (n : Nat), n = x.length → List.take n (x.map bpv) = x.map bpv := fun x n h => takeB h
  by_cases hlo : k < 1
  · have : Sp.entE k q bs.length = 7 := by unfold Sp.entE; rw [if_neg (by omega), if_neg (by omega), if_neg (by omega), if_neg (by omega)]
    simp [hlo, this]
  by_cases hhi : k > 6
  · have : Sp.entE k q bs.length = 7 := by unfold Sp.entE; rw [if_neg (by omega), if_neg (by omega), if_neg (by omega), if_neg (by omega)]
    simp [hlo, hhi, this]
  have hk : k = 1 ∨ k = 2 ∨ k = 3 ∨ k = 4 ∨ k = 5 ∨ k = 6 := by omega
  rcases hk with rfl | rfl | rfl | rfl | rfl | rfl
  · have wk : PV.int .u8 (IntKind.u8.wrap 1) = bpv 1 := rfl
    simp only [Int.reduceLT, Int.reduceGT, Int.reduceBEq, Int.reduceLE, Int.reduceGE, decide_false, decide_true, cond_true, cond_false, Int.reduceNe, Bool.false_eq_true, if_false, hlong, wk, d1, d2, Nat.mul_one, takeB, snoc1, snoc2, List.length_append, List.length_cons, List.length_nil]
    by_cases h0 : bs.length = 0
    · have hz : bs = [] := List.length_eq_zero_iff.1 h0
      subst hz
      simp only [List.length_nil, List.map_nil, decide_true, cond_true, List.append_nil, Nat.add_zero]
      repeat (refine Eq.trans (ass_of (by first
        | (simp only [eq_self]; done)
        | (simp only [oldL]; done)
        | (simp only [bpv3, oldL_bytes]; done)
        | (simp only [o1, oldL_bytes, List.length_append, List.length_map, List.length_cons, List.length_nil, beq_self_eq_true, Bool.and_eq_true, decide_eq_true_eq, Bool.not_eq_true', decide_eq_false_iff_not, Bool.true_and, Bool.and_true] <;> omega))) ?_)
      rw [if_pos (by simp [Sp.entE] <;> omega)]
      refine congr (congrArg (L9b H9 N m (l.flatMap Act.enc) l.length ((i + 1 : Nat) : Int)) ?_) ?_
      · simp [Sp.entB]
      · simp [Sp.entB] <;> omega
    · simp only [h0, decide_false, cond_false, takeB, app2, List.length_append, List.length_cons, List.length_nil]
      repeat (refine Eq.trans (ass_of (by first
        | (simp only [eq_self]; done)
        | (simp only [oldL]; done)
        | (simp only [bpv3, oldL_bytes]; done)
        | (simp only [o1, oldL_bytes, List.length_append, List.length_map, List.length_cons, List.length_nil, beq_self_eq_true, Bool.and_eq_true, decide_eq_true_eq, Bool.not_eq_true', decide_eq_false_iff_not, Bool.true_and, Bool.and_true] <;> omega))) ?_)
      rw [if_pos (by simp [Sp.entE] <;> omega)]
      refine congr (congrArg (L9b H9 N m (l.flatMap Act.enc) l.length ((i + 1 : Nat) : Int)) ?_) ?_
      · simp [Sp.entB]
      · simp [Sp.entB] <;> omega
  · have wk : PV.int .u8 (IntKind.u8.wrap 2) = bpv 2 := rfl
    simp only [Int.reduceLT, Int.reduceGT, Int.reduceBEq, Int.reduceLE, Int.reduceGE, decide_false, decide_true, cond_true, cond_false, Int.reduceNe, Bool.false_eq_true, if_false, hlong, wk, Nat.mul_one, takeB, snoc1, snoc2, List.length_append, List.length_cons, List.length_nil]
    by_cases q1 : q ≥ 0
    · by_cases q2 : q < 255
      · have e4 : PV.int .u8 (IntKind.u8.wrap q) = bpv (UInt8.ofNat q.toNat) := wrap8_of (by omega)
        have q3 : ¬ (q < 0 ∨ q ≥ 255) := by omega
        simp only [q1, q2, decide_true, cond_true, e4, takeB, snoc1, List.length_append, List.length_cons, List.length_nil]
        repeat (refine Eq.trans (ass_of (by first
          | (simp only [eq_self]; done)
          | (simp only [oldL]; done)
          | (simp only [bpv3, oldL_bytes]; done)
          | (simp only [o1, oldL_bytes, List.length_append, List.length_map, List.length_cons, List.length_nil, beq_self_eq_true, Bool.and_eq_true, decide_eq_true_eq, Bool.not_eq_true', decide_eq_false_iff_not, Bool.true_and, Bool.and_true] <;> omega))) ?_)
        rw [if_pos (by simp [Sp.entE] <;> omega)]
        refine congr (congrArg (L9b H9 N m (l.flatMap Act.enc) l.length ((i + 1 : Nat) : Int)) ?_) ?_
        · simp [Sp.entB, q3]
        · simp [Sp.entB, q3] <;> omega
      · have q3 : (q < 0 ∨ q ≥ 255) := by omega
        have e4 : PV.int .u8 255 = bpv 255 := rfl
        simp only [q1, q2, decide_true, decide_false, cond_true, cond_false, e4, takeB, snoc1, List.length_append, List.length_cons, List.length_nil]
        repeat (refine Eq.trans (ass_of (by first
          | (simp only [eq_self]; done)
          | (simp only [oldL]; done)
          | (simp only [bpv3, oldL_bytes]; done)
          | (simp only [o1, oldL_bytes, List.length_append, List.length_map, List.length_cons, List.length_nil, beq_self_eq_true, Bool.and_eq_true, decide_eq_true_eq, Bool.not_eq_true', decide_eq_false_iff_not, Bool.true_and, Bool.and_true] <;> omega))) ?_)
        rw [if_pos (by simp [Sp.entE] <;> omega)]
        refine congr (congrArg (L9b H9 N m (l.flatMap Act.enc) l.length ((i + 1 : Nat) : Int)) ?_) ?_
        · simp [Sp.entB, q3]
        · simp [Sp.entB, q3] <;> omega
    · have q3 : (q < 0 ∨ q ≥ 255) := by omega
      have e4 : PV.int .u8 255 = bpv 255 := rfl
      simp only [q1, decide_true, decide_false, cond_true, cond_false, e4, takeB, snoc1, List.length_append, List.length_cons, List.length_nil]
      repeat (refine Eq.trans (ass_of (by first
        | (simp only [eq_self]; done)
        | (simp only [oldL]; done)
        | (simp only [bpv3, oldL_bytes]; done)
        | (simp only [o1, oldL_bytes, List.length_append, List.length_map, List.length_cons, List.length_nil, beq_self_eq_true, Bool.and_eq_true, decide_eq_true_eq, Bool.not_eq_true', decide_eq_false_iff_not, Bool.true_and, Bool.and_true] <;> omega))) ?_)
      rw [if_pos (by simp [Sp.entE] <;> omega)]
      refine congr (congrArg (L9b H9 N m (l.flatMap Act.enc) l.length ((i + 1 : Nat) : Int)) ?_) ?_
      · simp [Sp.entB, q3]
      · simp [Sp.entB, q3] <;> omega
  · have wk : PV.int .u8 (IntKind.u8.wrap 3) = bpv 3 := rfl
    simp only [Int.reduceLT, Int.reduceGT, Int.reduceBEq, Int.reduceLE, Int.reduceGE, decide_false, decide_true, cond_true, cond_false, Int.reduceNe, Bool.false_eq_true, if_false, hlong, wk, d1, d2, Nat.mul_one, takeB, snoc1, snoc2, List.length_append, List.length_cons, List.length_nil]
    by_cases h0 : bs.length = 0
    · have hz : bs = [] := List.length_eq_zero_iff.1 h0
      subst hz
      simp only [List.length_nil, List.map_nil, decide_true, cond_true, List.append_nil, Nat.add_zero]
      repeat (refine Eq.trans (ass_of (by first
        | (simp only [eq_self]; done)
        | (simp only [oldL]; done)
        | (simp only [bpv3, oldL_bytes]; done)
        | (simp only [o1, oldL_bytes, List.length_append, List.length_map, List.length_cons, List.length_nil, beq_self_eq_true, Bool.and_eq_true, decide_eq_true_eq, Bool.not_eq_true', decide_eq_false_iff_not, Bool.true_and, Bool.and_true] <;> omega))) ?_)
      rw [if_pos (by simp [Sp.entE] <;> omega)]
      refine congr (congrArg (L9b H9 N m (l.flatMap Act.enc) l.length ((i + 1 : Nat) : Int)) ?_) ?_
      · simp [Sp.entB]
      · simp [Sp.entB] <;> omega
    · simp only [h0, decide_false, cond_false, takeB, app2, List.length_append, List.length_cons, List.length_nil]
      repeat (refine Eq.trans (ass_of (by first
        | (simp only [eq_self]; done)
        | (simp only [oldL]; done)
        | (simp only [bpv3, oldL_bytes]; done)
        | (simp only [o1, oldL_bytes, List.length_append, List.length_map, List.length_cons, List.length_nil, beq_self_eq_true, Bool.and_eq_true, decide_eq_true_eq, Bool.not_eq_true', decide_eq_false_iff_not, Bool.true_and, Bool.and_true] <;> omega))) ?_)
      rw [if_pos (by simp [Sp.entE] <;> omega)]
      refine congr (congrArg (L9b H9 N m (l.flatMap Act.enc) l.length ((i + 1 : Nat) : Int)) ?_) ?_
      · simp [Sp.entB]
      · simp [Sp.entB] <;> omega
  · have wk : PV.int .u8 (IntKind.u8.wrap 4) = bpv 4 := rfl
    simp only [Int.reduceLT, Int.reduceGT, Int.reduceBEq, Int.reduceLE, Int.reduceGE, decide_false, decide_true, cond_true, cond_false, Int.reduceNe, Bool.false_eq_true, if_false, hlong, wk, Nat.mul_one, takeB, snoc1, snoc2, List.length_append, List.length_cons, List.length_nil]
    by_cases q1 : q < 0
    · simp only [q1, decide_true, cond_true]
      repeat (refine Eq.trans (ass_of (by first
        | (simp only [eq_self]; done)
        | (simp only [oldL]; done)
        | (simp only [bpv3, oldL_bytes]; done)
        | (simp only [o1, oldL_bytes, List.length_append, List.length_map, List.length_cons, List.length_nil, beq_self_eq_true, Bool.and_eq_true, decide_eq_true_eq, Bool.not_eq_true', decide_eq_false_iff_not, Bool.true_and, Bool.and_true] <;> omega))) ?_)
      have : Sp.entE 4 q bs.length = 1 := by simp [Sp.entE, q1]
      simp [this]
    by_cases q2 : q > 65535
    · simp only [q1, q2, decide_true, decide_false, cond_true, cond_false]
      repeat (refine Eq.trans (ass_of (by first
        | (simp only [eq_self]; done)
        | (simp only [oldL]; done)
        | (simp only [bpv3, oldL_bytes]; done)
        | (simp only [o1, oldL_bytes, List.length_append, List.length_map, List.length_cons, List.length_nil, beq_self_eq_true, Bool.and_eq_true, decide_eq_true_eq, Bool.not_eq_true', decide_eq_false_iff_not, Bool.true_and, Bool.and_true] <;> omega))) ?_)
      have : Sp.entE 4 q bs.length = 1 := by simp [Sp.entE, q2]
      simp [this]
    obtain ⟨q, rfl⟩ : ∃ z : Nat, q = (z : Int) := ⟨q.toNat, by omega⟩
    have e4 := div256 q (by omega)
    have e5 := rem256 q
    have q3 : ¬ ((q : Int) < 0 ∨ (q : Int) > 65535) := by omega
    simp only [q1, q2, decide_false, cond_false, e4, e5, takeB, snoc2, List.length_append, List.length_cons, List.length_nil]
    repeat (refine Eq.trans (ass_of (by first
      | (simp only [eq_self]; done)
      | (simp only [oldL]; done)
      | (simp only [bpv3, oldL_bytes]; done)
      | (simp only [o1, oldL_bytes, List.length_append, List.length_map, List.length_cons, List.length_nil, beq_self_eq_true, Bool.and_eq_true, decide_eq_true_eq, Bool.not_eq_true', decide_eq_false_iff_not, Bool.true_and, Bool.and_true] <;> omega))) ?_)
    rw [if_pos (by simp [Sp.entE] <;> omega)]
    refine congr (congrArg (L9b H9 N m (l.flatMap Act.enc) l.length ((i + 1 : Nat) : Int)) ?_) ?_
    · simp [Sp.entB, q3]
    · simp [Sp.entB, q3] <;> omega
  · have wk : PV.int .u8 (IntKind.u8.wrap 5) = bpv 5 := rfl
    simp only [Int.reduceLT, Int.reduceGT, Int.reduceBEq, Int.reduceLE, Int.reduceGE, decide_false, decide_true, cond_true, cond_false, Int.reduceNe, Bool.false_eq_true, if_false, hlong, wk, Nat.mul_one, takeB, snoc1, snoc2, List.length_append, List.length_cons, List.length_nil]
    repeat (refine Eq.trans (ass_of (by first
      | (simp only [eq_self]; done)
      | (simp only [oldL]; done)
      | (simp only [bpv3, oldL_bytes]; done)
      | (simp only [o1, oldL_bytes, List.length_append, List.length_map, List.length_cons, List.length_nil, beq_self_eq_true, Bool.and_eq_true, decide_eq_true_eq, Bool.not_eq_true', decide_eq_false_iff_not, Bool.true_and, Bool.and_true] <;> omega))) ?_)
    rw [if_pos (by simp [Sp.entE] <;> omega)]
    refine congr (congrArg (L9b H9 N m (l.flatMap Act.enc) l.length ((i + 1 : Nat) : Int)) ?_) ?_
    · simp [Sp.entB]
    · simp [Sp.entB] <;> omega
  · have wk : PV.int .u8 (IntKind.u8.wrap 6) = bpv 6 := rfl
    simp only [Int.reduceLT, Int.reduceGT, Int.reduceBEq, Int.reduceLE, Int.reduceGE, decide_false, decide_true, cond_true, cond_false, Int.reduceNe, Bool.false_eq_true, if_false, hlong, wk, Nat.mul_one, takeB, snoc1, snoc2, List.length_append, List.length_cons, List.length_nil]
    repeat (refine Eq.trans (ass_of (by first
      | (simp only [eq_self]; done)
      | (simp only [oldL]; done)
      | (simp only [bpv3, oldL_bytes]; done)
      | (simp only [o1, oldL_bytes, List.length_append, List.length_map, List.length_cons, List.length_nil, beq_self_eq_true, Bool.and_eq_true, decide_eq_true_eq, Bool.not_eq_true', decide_eq_false_iff_not, Bool.true_and, Bool.and_true] <;> omega))) ?_)
    rw [if_pos (by simp [Sp.entE] <;> omega)]
    refine congr (congrArg (L9b H9 N m (l.flatMap Act.enc) l.length ((i + 1 : Nat) : Int)) ?_) ?_
    · simp [Sp.entB]
    · simp [Sp.entB] <;> omega

theorem stop9a (N m : Nat) (c : List PV) (n i : Nat) (h : n ≤ i) : L9a H9 N (m + 1) c n (i : Int) = some (.tup [.sl [] 1 0 none, .int .i64 0]) := by
  rw [t9a]
  have : ¬ ((i : Int) < (n : Int)) := by omega
  simp only [this, decide_false, cond_false]

theorem stop9 (N m : Nat) (l : List Act) (acc : List UInt8) : L9b H9 N (m + 1) (l.flatMap Act.enc) l.length (l.length : Int) (acc.map bpv) acc.length = some (.tup [.sl (acc.map bpv) 1 acc.length none, .int .i64 0]) := by
  rw [t9b]
  have ht : List.take acc.length (acc.map bpv) = acc.map bpv := List.take_of_length_le (by simp)
  simp only [Int.lt_irrefl, decide_false, cond_false, Nat.mul_one, List.drop_zero, ht, calm_bytes, oldL_bytes, List.length_map, beq_self_eq_true, Bool.and_true, Bool.true_and, Nat.zero_add, Nat.le_refl, decide_true, Nat.lt_irrefl]
  rfl

theorem loop9 (N : Nat) (l : List Act) (hl : l.length ≤ 30) (hb : ∀ a ∈ l, a.bytes.length ≤ 1300) : ∀ (k i m : Nat) (acc : List UInt8), i + k = l.length → k < m → acc.length + 1303 * k ≤ 100000 →
    L9b H9 N m (l.flatMap Act.enc) l.length (i : Int) (acc.map bpv) acc.length = some (refR acc (l.drop i))
  | 0, i, m, acc, h, hm, ha => by
    obtain ⟨m, rfl⟩ : ∃ q, m = q + 1 := ⟨m - 1, by omega⟩
    have hi : i = l.length := by omega
    subst hi
    rw [stop9, List.drop_length]
    simp [refR, Sp.encE, Sp.encL]
  | k + 1, i, m, acc, h, hm, ha => by
    obtain ⟨m, rfl⟩ : ∃ q, m = q + 1 := ⟨m - 1, by omega⟩
    have hi : i < l.length := by omega
    have hbi := hb l[i] (List.getElem_mem hi)
    have hol := entB_len l[i].kind l[i].n l[i].bytes
    rw [round9 N m l hl i hi hbi acc (by omega), List.drop_eq_getElem_cons hi, refR_cons]
    by_cases he : Sp.entE l[i].kind l[i].n l[i].bytes.length = 0
    · rw [if_pos he, if_pos he]
      exact loop9 N l hl hb k (i + 1) m _ (by omega) (by omega) (by rw [List.length_append]; omega)
    · rw [if_neg he, if_neg he]

/-- linkboyref34.Encode -/
theorem run9 {N : Nat} (hN : 40 ≤ N) (xs : List PV) (t : Tr) (v : PV) (h : gRef xs = some t) (hv : t.val = some v) : ∃ H, apartS EN T0 H N 5 9 xs = some v := by
  unfold gRef at h
  split at h
  · rename_i c n
    cases h
    obtain ⟨hs, rfl⟩ := br_leaf hv
    obtain ⟨l, rfl, rfl, hl, hb⟩ := short_of hs
    refine ⟨H9, (t9 N _ _).trans ?_⟩
    obtain ⟨m, rfl⟩ : ∃ q, N = q + 1 := ⟨N - 1, by omega⟩
    have first : L9a H9 (m + 1) (m + 1) (l.flatMap Act.enc) l.length 0 = some (refR [] l) := by
      cases l with
      | nil => exact stop9a (m + 1) m _ _ 0 (Nat.le_refl _)
      | cons a l =>
        have hi : 0 < (a :: l).length := by simp
        have h1 := round9a (m + 1) m (a :: l) hl 0 hi (hb _ (List.getElem_mem hi))
        have hol := entB_len a.kind a.n a.bytes
        have hba := hb a (by simp)
        simp only [Int.ofNat_zero, List.getElem_cons_zero] at h1
        rw [refR_cons]
        refine h1.trans ?_
        by_cases he : Sp.entE a.kind a.n a.bytes.length = 0
        · rw [if_pos he, if_pos he]
          exact loop9 (m + 1) (a :: l) hl hb l.length 1 m _ (by simp; omega) (by simp at hl; omega) (by simp at hl; omega)
        · rw [if_neg he, if_neg he]
    refine first.trans ?_
    unfold refR
    simp only [Sp.errOf, Sp.encC, Sp.encN, acts_flat, beq0, List.nil_append]
    by_cases he : Sp.encE l = 0
    · simp only [he, decide_true, cond_true, if_true]
    · simp only [he, decide_false, cond_false, if_false]
  · cases h

end Go.Proofs.YtbnfofcbajaiiaaDoor.Am
