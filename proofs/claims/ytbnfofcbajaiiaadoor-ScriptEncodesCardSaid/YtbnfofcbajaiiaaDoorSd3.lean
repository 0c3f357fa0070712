/- Scripts at the Door seat: what Of and Decode answer. -/
import Derived.Test.YtbnfofcbajaiiaaDoorSd2
set_option linter.unusedVariables false
set_option linter.unusedSimpArgs false
namespace Go.Proofs.YtbnfofcbajaiiaaDoor.Am

theorem Act.len (a : Act) : a.enc.length = 3 := rfl
theorem Act.okAt (a : Act) : okAt [Kd.int .i64, Kd.int .i64, Kd.sl 1] a.enc 0 = true := rfl
theorem Act.old (n : Nat) (a : Act) : oldL n a.enc = true := by simp [Act.enc, oldL, oldV, oldL_bytes]
theorem Act.calm (a : Act) : a.enc.all PV.calm = true := rfl
theorem Act.inj (a b : Act) (h : a.enc = b.enc) : a = b := by
  cases a; cases b
  simp only [Act.enc, List.cons.injEq, PV.int.injEq, PV.sl.injEq, true_and, and_true] at h
  obtain ⟨h1, h2, h3, h4⟩ := h
  have := bpv_inj h3
  subst h1 h2 this
  rfl

theorem okActs_flat {l : List Act} {n : Nat} (h : l.length = n) : Sp.okActs n (l.flatMap Act.enc) = true := isRows_flat h
theorem acts_flat (l : List Act) : Sp.acts (l.flatMap Act.enc) = l := rowsOf_flat Act.len (by decide) Act.inj l

theorem act_cells {l : List Act} {i : Nat} (hi : i < l.length) : (l.flatMap Act.enc).getD (i * 3) .nilp = .int .i64 l[i].kind ∧ (l.flatMap Act.enc).getD (i * 3 + 1) .nilp = .int .i64 l[i].n ∧
    (l.flatMap Act.enc).getD (i * 3 + 1 + 1) .nilp = .sl (l[i].bytes.map bpv) 1 l[i].bytes.length none :=
  ⟨flat_getD (j := 0) Act.len hi (by decide) _, flat_getD (j := 1) Act.len hi (by decide) _, flat_getD (j := 2) Act.len hi (by decide) _⟩

theorem okAt_act {l : List Act} {i : Nat} (hi : i < l.length) : okAt [Kd.int .i64, Kd.int .i64, Kd.sl 1] (l.flatMap Act.enc) (i * 3) = true := okAt_flat Act.len Act.okAt hi

theorem byte_cell {l : List UInt8} {i : Nat} (hi : i < l.length) : (l.map bpv)[i]? = some (bpv l[i]) := by simp [hi]
theorem byte_getD {l : List UInt8} {i : Nat} (hi : i < l.length) : (l.map bpv).getD i .nilp = .int .u8 (l.getD i 0).toNat := by
  rw [List.getD_eq_getElem?_getD, byte_cell hi, List.getD_eq_getElem?_getD, List.getElem?_eq_getElem hi]
  rfl
theorem byte_okAt {l : List UInt8} {i : Nat} (hi : i < l.length) : Am.okAt [Kd.int .u8] (l.map bpv) i = true := by
  simp [Am.okAt, byte_cell hi, bpv, Kd.ok]
theorem byte_lt (x : UInt8) : ((x.toNat : Nat) : Int) < 256 := by have := x.toNat_lt; omega

theorem getB_lt (l : List UInt8) (i : Nat) : 0 ≤ Sp.getB l i ∧ Sp.getB l i < 256 := ⟨by unfold Sp.getB; omega, byte_lt _⟩

theorem app_eq {α : Type} (a b : List α) : List.append a b = a ++ b := rfl

theorem take_succ' {l : List Act} {i : Nat} (hi : i < l.length) : (l.take i).flatMap Act.enc ++ Act.enc l[i] = (l.take (i + 1)).flatMap Act.enc := by
  rw [List.take_succ_eq_append_getElem hi, List.flatMap_append]
  simp

theorem row_eq {l : List Act} {i : Nat} (hi : i < l.length) :
    [PV.int .i64 (asI ((l.flatMap Act.enc).getD (i * 3) .nilp)), PV.int .i64 (asI ((l.flatMap Act.enc).getD (i * 3 + 1) .nilp)), PV.sl (slCells ((l.flatMap Act.enc).getD (i * 3 + 1 + 1) .nilp)) 1 (slLen ((l.flatMap Act.enc).getD (i * 3 + 1 + 1) .nilp)) none] = Act.enc l[i] := by
  obtain ⟨h1, h2, h3⟩ := act_cells hi
  rw [h1, h2, h3]
  rfl

theorem loop10 (N : Nat) (l : List Act) (hl : l.length ≤ 1000000) : ∀ (k i m : Nat), i + k = l.length → k < m → L10b H10 N m (l.flatMap Act.enc) l.length (i : Int) ((l.take i).flatMap Act.enc) i = some (.sl (l.flatMap Act.enc) 3 l.length none)
  | 0, i, m, h, hm => by
    obtain ⟨m, rfl⟩ : ∃ q, m = q + 1 := ⟨m - 1, by omega⟩
    have hi : i = l.length := by omega
    subst hi
    rw [t10b]
    have e1 : (l.flatMap Act.enc).length = l.length * 3 := flat_length Act.len l
    have e2 : List.take (l.length * 3) (l.flatMap Act.enc) = l.flatMap Act.enc := List.take_of_length_le (by omega)
    simp only [List.take_length, List.drop_zero, e2]
    simp [e1, calm_flat Act.calm l, oldL_flat (Act.old 0) l, ass]
  | k + 1, i, m, h, hm => by
    obtain ⟨m, rfl⟩ : ∃ q, m = q + 1 := ⟨m - 1, by omega⟩
    have hi : i < l.length := by omega
    rw [t10b]
    have e1 : ((l.take i).flatMap Act.enc).length = i * 3 := by rw [flat_length Act.len, List.length_take]; congr 1; omega
    have e2 : List.take (i * 3) ((l.take i).flatMap Act.enc) = (l.take i).flatMap Act.enc := List.take_of_length_le (by omega)
    have e3 : IntKind.i64.wrap ((i : Int) + 1) = ((i + 1 : Nat) : Int) := wrap_succ (by omega)
    rw [row_eq hi]
    simp only [e2, app_eq, take_succ' hi, e3]
    have ih := loop10 N l hl k (i + 1) m (by omega) (by omega)
    have c1 : ((i : Int) < (l.length : Int)) := by omega
    have c2 : i ≤ 1048576 := by omega
    have c3 : ¬ (i + 1 ≤ i) := by omega
    simp only [c1, c2, c3, e1, okAt_act hi, oldL_flat (Act.old 0), ih, decide_true, decide_false, Bool.not_false, Bool.and_true, Bool.true_and, beq_self_eq_true, Nat.zero_add, Nat.le_refl, Int.natCast_nonneg, ass_true, cond_true]
    rfl

/-- linkboylaw34.Of -/
theorem run10 {N : Nat} (hN : 1000001 ≤ N) (xs : List PV) (v : PV) (h : g10 xs = some (true, v)) : ∃ H, apartS EN T0 H N 0 10 xs = some v := by
  unfold g10 at h
  split at h
  · rename_i c n
    simp only [Option.some.injEq, Prod.mk.injEq, Bool.and_eq_true, decide_eq_true_eq] at h
    obtain ⟨⟨hb, hi⟩, rfl⟩ := h
    obtain ⟨l, rfl, rfl⟩ := isRows_of hb
    refine ⟨H10, (t10 _ _ N).trans ?_⟩
    obtain ⟨m, rfl⟩ : ∃ q, N = q + 1 := ⟨N - 1, by omega⟩
    have ha := t10a (l.flatMap Act.enc) l.length 0 (m + 1) m
    simp only [Int.ofNat_zero, Nat.zero_mul, Nat.zero_add] at ha
    rw [ha]
    cases l with
    | nil => rfl
    | cons a l =>
      have hrow := row_eq (l := a :: l) (i := 0) (by simp)
      simp only [Nat.zero_mul, Nat.zero_add] at hrow
      rw [hrow]
      have h1 := okAt_act (l := a :: l) (i := 0) (by simp)
      rw [Nat.zero_mul] at h1
      have h2 := loop10 (m + 1) (a :: l) hi l.length 1 m (by simp; omega) (by simp at hi; omega)
      have e3 : IntKind.i64.wrap ((0 : Int) + 1) = ((1 : Nat) : Int) := rfl
      have e4 : (List.take 1 (a :: l)).flatMap Act.enc = Act.enc (a :: l)[0] := by simp
      rw [e4] at h2
      rw [e3, h2]
      have e5 : oldL 0 (Act.enc (a :: l)[0]) = true := Act.old 0 _
      have c1 : (0 : Int) < ((a :: l).length : Int) := by simp only [List.length_cons]; omega
      simp only [h1, oldL_flat (Act.old 0), e5, ass, cond_true, c1, decide_true, Bool.and_true, Int.le_refl]
  · cases h

theorem drop_min {α : Type} (l : List α) (a : Nat) : l.drop (min a l.length) = l.drop a := by
  by_cases h : a ≤ l.length
  · rw [Nat.min_eq_left h]
  · rw [Nat.min_eq_right (by omega), List.drop_of_length_le (Nat.le_refl _), List.drop_of_length_le (by omega)]

theorem take_cut {α : Type} (xs : List α) (a b : Nat) (h : min a xs.length = min b xs.length) : xs.take a = xs.take b := by
  have : ∀ c, xs.take c = xs.take (min c xs.length) := fun c => by
    by_cases hc : c ≤ xs.length
    · rw [Nat.min_eq_left hc]
    · rw [Nat.min_eq_right (by omega), List.take_length, List.take_of_length_le (by omega)]
  rw [this a, this b, h]

/-- The next act, and where it ends. -/
def nxt (x : UInt8) (r : List UInt8) : Act × Nat :=
  if x.toNat = 1 ∨ x.toNat = 3 then (⟨x.toNat, 0, (r.drop 2).take ((r.getD 0 0).toNat * 256 + (r.getD 1 0).toNat)⟩, 2 + ((r.getD 0 0).toNat * 256 + (r.getD 1 0).toNat))
  else if x.toNat = 2 then (⟨2, if 0 < r.length ∧ (r.getD 0 0).toNat ≠ 255 then ((r.getD 0 0).toNat : Int) else -1, []⟩, 1)
  else if x.toNat = 4 then (⟨4, (((r.getD 0 0).toNat * 256 + (r.getD 1 0).toNat : Nat) : Int), []⟩, 2)
  else (⟨x.toNat, 0, []⟩, 0)

theorem decF_nxt (f : Nat) (x : UInt8) (r : List UInt8) : Sp.decF (f + 1) (x :: r) = (nxt x r).1 :: Sp.decF f (r.drop (nxt x r).2) := by
  unfold nxt
  simp only [Sp.decF]
  split
  · simp [List.drop_drop]
  · split
    · rfl
    · split <;> rfl

theorem getB_drop (l : List UInt8) (i j : Nat) : Sp.getB l (i + j) = (((l.drop i).getD j 0).toNat : Int) := by
  simp [Sp.getB, List.getD_eq_getElem?_getD, List.getElem?_drop]

theorem bytes_cut (l : List UInt8) (i V : Nat) :
    ((l.map bpv).drop (min (i + 3) l.length)).take (min (min (i + 3) l.length + V) l.length - min (i + 3) l.length) = (((l.drop (i + 1)).drop 2).take V).map bpv := by
  rw [← List.map_drop, ← List.map_take, drop_min, List.drop_drop, show i + 1 + 2 = i + 3 by omega]
  congr 1
  apply take_cut
  simp only [List.length_drop]
  omega

theorem bytes_len (l : List UInt8) (i V : Nat) : min (min (i + 3) l.length + V) l.length - min (i + 3) l.length = (((l.drop (i + 1)).drop 2).take V).length := by
  simp only [List.length_take, List.length_drop]
  omega

theorem flat_snoc (acc : List Act) (a : Act) : acc.flatMap Act.enc ++ Act.enc a = (acc ++ [a]).flatMap Act.enc := by simp

theorem mnI_nat (a b : Nat) : mnI (a : Int) (b : Int) = ((min a b : Nat) : Int) := by
  unfold mnI
  split <;> omega

theorem two_getD (r : List UInt8) : (List.append (List.take (min 2 r.length) (r.map bpv)) [PV.int .u8 0, PV.int .u8 0]).getD 0 .nilp = .int .u8 ((r.getD 0 0).toNat : Int) ∧
    (List.append (List.take (min 2 r.length) (r.map bpv)) [PV.int .u8 0, PV.int .u8 0]).getD 1 .nilp = .int .u8 ((r.getD 1 0).toNat : Int) := by
  match r with
  | [] => exact ⟨rfl, rfl⟩
  | [a] => exact ⟨rfl, rfl⟩
  | a :: b :: r =>
    have : min 2 (a :: b :: r).length = 2 := Nat.min_eq_left (by simp)
    rw [this]
    exact ⟨rfl, rfl⟩

theorem two_okAt (r : List UInt8) : okAt [Kd.int .u8] (List.append (List.take (min 2 r.length) (r.map bpv)) [PV.int .u8 0, PV.int .u8 0]) 0 = true ∧
    okAt [Kd.int .u8] (List.append (List.take (min 2 r.length) (r.map bpv)) [PV.int .u8 0, PV.int .u8 0]) 1 = true := by
  match r with
  | [] => exact ⟨rfl, rfl⟩
  | [a] => exact ⟨rfl, rfl⟩
  | a :: b :: r =>
    have : min 2 (a :: b :: r).length = 2 := Nat.min_eq_left (by simp)
    rw [this]
    exact ⟨rfl, rfl⟩

theorem or_bytes (y z : Nat) (hy : y < 256) (hz : z < 256) : (y * 256 ||| z) = y * 256 + z := by
  have := Nat.two_pow_add_eq_or_of_lt (i := 8) hz y
  rw [Nat.mul_comm]
  exact this.symm

theorem num_eq (y z : UInt8) : IntKind.i64.wrap (((BitVec.ofInt 64 (IntKind.i64.wrap (IntKind.i64.wrap (y.toNat : Int) * 2 ^ 8)) ||| BitVec.ofInt 64 (IntKind.i64.wrap (z.toNat : Int))).toNat : Nat) : Int) = ((y.toNat * 256 + z.toNat : Nat) : Int) := by
  have hy := y.toNat_lt
  have hz := z.toNat_lt
  have e1 : IntKind.i64.wrap (y.toNat : Int) = (y.toNat : Int) := wrap_in (by omega) (by omega)
  have e2 : IntKind.i64.wrap (z.toNat : Int) = (z.toNat : Int) := wrap_in (by omega) (by omega)
  have e3 : IntKind.i64.wrap ((y.toNat : Int) * 2 ^ 8) = ((y.toNat * 256 : Nat) : Int) := by rw [wrap_in] <;> omega
  rw [e1, e2, e3]
  have e4 : (BitVec.ofInt 64 ((y.toNat * 256 : Nat) : Int) ||| BitVec.ofInt 64 (z.toNat : Int)).toNat = y.toNat * 256 ||| z.toNat := by
    rw [BitVec.toNat_or]
    simp only [BitVec.toNat_ofInt]
    congr 1 <;> omega
  rw [e4, or_bytes _ _ hy hz]
  exact wrap_nat (by omega)

theorem one_bytes (l : List UInt8) : (l.map bpv).all PV.oneCell = true := by
  rw [List.all_eq_true]
  intro x hx
  obtain ⟨b, _, rfl⟩ := List.mem_map.1 hx
  rfl

/-- A round's end. -/
theorem end11 (N m : Nat) (b0 : List PV) (n0 : Nat) (B : List PV) (n : Nat) (acc : List Act) (c : List PV) (a : Act) (r' : List UInt8) (k : Nat) (hc : c = Act.enc a) (hB : B = r'.map bpv) (hn : n = r'.length) :
    ass (oldL 1 B) (ass (oldL 0 ((acc.flatMap Act.enc).append c)) (L11b H11 N m b0 n0 B n ((acc.flatMap Act.enc).append c) k)) = L11b H11 N m b0 n0 (r'.map bpv) r'.length ((acc ++ [a]).flatMap Act.enc) k := by
  subst hc hB hn
  rw [app_eq, flat_snoc, oldL_flat (Act.old 0), oldL_bytes]
  rfl

theorem end11' (N m : Nat) (b0 : List PV) (n0 : Nat) (B : List PV) (n : Nat) (acc : List Act) (c : List PV) (a : Act) (r' : List UInt8) (k : Nat) (hc : c = Act.enc a) (hB : B = r'.map bpv) (hn : n = r'.length) :
    ass (oldL 0 ((acc.flatMap Act.enc).append c)) (L11b H11 N m b0 n0 B n ((acc.flatMap Act.enc).append c) k) = L11b H11 N m b0 n0 (r'.map bpv) r'.length ((acc ++ [a]).flatMap Act.enc) k := by
  subst hc hB hn
  rw [app_eq, flat_snoc, oldL_flat (Act.old 0)]
  rfl

theorem rest_eq (r : List UInt8) (V : Nat) : List.take (r.length - min 2 r.length - min V (r.length - min 2 r.length)) (List.drop (min V (r.length - min 2 r.length)) (List.drop (min 2 r.length) (r.map bpv))) = (r.drop (2 + V)).map bpv := by
  rw [← List.map_drop, drop_min, ← List.map_drop, ← List.map_take]
  congr 1
  have e : r.length - min 2 r.length = (r.drop 2).length := by rw [List.length_drop]; omega
  rw [e, drop_min, List.drop_drop]
  apply List.take_of_length_le
  simp only [List.length_drop]
  omega

theorem part_eq (r : List UInt8) (V : Nat) : List.take (min V (r.length - min 2 r.length)) (List.drop (min 2 r.length) (r.map bpv)) = ((r.drop 2).take V).map bpv := by
  rw [← List.map_drop, drop_min, ← List.map_take]
  congr 1
  apply take_cut
  simp only [List.length_drop]
  omega

theorem part_len (r : List UInt8) (V : Nat) : min V (r.length - min 2 r.length) = ((r.drop 2).take V).length := by
  simp only [List.length_take, List.length_drop]
  omega

set_option maxHeartbeats 4000000 in
/-- One round where bytes are left behind the kind. -/
theorem round11 (N m : Nat) (b0 : List PV) (n0 : Nat) (hb0 : oldL 1 b0 = true) (x : UInt8) (r : List UInt8) (hr : 0 < r.length) (hl : r.length ≤ 500000) (acc : List Act) (hacc : acc.length ≤ 1000000) :
    L11b H11 N (m + 1) b0 n0 (bpv x :: r.map bpv) (r.length + 1) (acc.flatMap Act.enc) acc.length =
      L11b H11 N m b0 n0 ((r.drop (nxt x r).2).map bpv) (r.drop (nxt x r).2).length ((acc ++ [(nxt x r).1]).flatMap Act.enc) (acc.length + 1) := by
  have e0 : (acc.flatMap Act.enc).length = acc.length * 3 := flat_length Act.len acc
  have e1 : List.take (acc.length * 3) (acc.flatMap Act.enc) = acc.flatMap Act.enc := List.take_of_length_le (by omega)
  have m1 : mnI 1 ((r.length + 1 : Nat) : Int) = ((1 : Nat) : Int) := by rw [show (1 : Int) = ((1 : Nat) : Int) from rfl, mnI_nat, Nat.min_eq_left (by omega)]
  have m2 : mnI 2 (r.length : Int) = ((min 2 r.length : Nat) : Int) := mnI_nat 2 r.length
  have m3 : mnI 1 (r.length : Int) = ((1 : Nat) : Int) := by rw [show (1 : Int) = ((1 : Nat) : Int) from rfl, mnI_nat, Nat.min_eq_left (by omega)]
  have hxb := byte_lt x
  have wx : IntKind.i64.wrap ((x.toNat : Nat) : Int) = x.toNat := wrap_in (by omega) (by omega)
  have c0 : ((r.length + 1 : Nat) : Int) > 0 := by omega
  have tk : List.take r.length (r.map bpv) = r.map bpv := List.take_of_length_le (by simp)
  have c9 : decide ((1 : Nat) ≤ 1048576) = true := rfl
  have c2 : acc.length ≤ 1048576 := by omega
  have d1 : ((1 : Nat) : Int) ≤ ((r.length + 1 : Nat) : Int) := by omega
  have d2 : (0 : Int) < ((1 : Nat) : Int) := by omega
  have d3 : ((1 : Nat) : Int) ≤ (r.length : Int) := by omega
  have k0 : okAt [Kd.int .u8] [bpv x] 0 = true := rfl
  have k1 : asI ([bpv x].getD 0 .nilp) = (x.toNat : Int) := rfl
  have p0 : ¬ (min 2 r.length = 0) := by omega
  have p1 : ((min 2 r.length : Nat) : Int) ≤ (r.length : Int) := by omega
  have p2 : min 2 r.length ≤ 1048576 := by omega
  have p3 : ¬ (min 2 r.length + 2 ≤ min 2 r.length) := by omega
  have p4 : (0 : Int) < ((min 2 r.length + 2 : Nat) : Int) := by omega
  have p5 : (1 : Int) < ((min 2 r.length + 2 : Nat) : Int) := by omega
  have p6 : (List.take (min 2 r.length) (r.map bpv)).length = min 2 r.length := by rw [List.length_take, List.length_map]; omega
  have a3 : ¬ (acc.length + 1 ≤ acc.length) := by omega
  have o1 : ∀ k (l : List UInt8), (List.take k (l.map bpv)).all PV.oneCell = true := fun k l => by rw [← List.map_take]; exact one_bytes _
  have tkd : ∀ q, List.take (r.length - q) (List.drop q (r.map bpv)) = List.drop q (r.map bpv) := fun q => List.take_of_length_le (by simp)
  have o2 : ∀ q, oldL 1 (List.drop q (r.map bpv)) = true := fun q => by rw [← List.map_drop]; exact oldL_bytes 1 _
  obtain ⟨g0, g1⟩ := two_getD r
  obtain ⟨q0, q1⟩ := two_okAt r
  have u0 : ∀ y : UInt8, asI (.int .u8 (y.toNat : Int)) = (y.toNat : Int) := fun _ => rfl
  have tree := t11b3 b0 n0 (bpv x :: r.map bpv) (r.length + 1) (acc.flatMap Act.enc) acc.length N m
  simp only [m1, Int.toNat_natCast, Nat.sub_zero, Nat.mul_one, List.drop_zero, List.take_succ_cons, List.take_zero, Nat.add_sub_cancel, List.drop_succ_cons, tk, m2, m3, c0, c9, c2, e0, e1, decide_true, Bool.and_true, Bool.true_and, ass_true, cond_true, hb0,
    d1, d2, d3, k0, k1, p0, p1, p2, p3, p4, p5, p6, a3, o1, o2, tkd, g0, g1, q0, q1, u0, wx, num_eq, mnI_nat, Int.natCast_nonneg, Int.le_refl, decide_false, cond_false, Bool.not_false, Nat.zero_add, List.take_take, Nat.min_self, beq_self_eq_true, Nat.le_refl, Nat.reduceLeDiff] at tree
  rw [tree]
  clear tree
  unfold nxt
  have hb1 : ((x.toNat : Int) == 1) = decide (x.toNat = 1) := by rw [Bool.eq_iff_iff]; simp; omega
  have hb3 : ((x.toNat : Int) == 3) = decide (x.toNat = 3) := by rw [Bool.eq_iff_iff]; simp; omega
  have hb2 : ((x.toNat : Int) == 2) = decide (x.toNat = 2) := by rw [Bool.eq_iff_iff]; simp; omega
  have hb4 : ((x.toNat : Int) == 4) = decide (x.toNat = 4) := by rw [Bool.eq_iff_iff]; simp; omega
  rw [hb1, hb3, hb2, hb4]
  by_cases h1 : x.toNat = 1
  · simp only [h1, decide_true, cond_true, true_or, if_true]
    generalize hV : (r.getD 0 0).toNat * 256 + (r.getD 1 0).toNat = V
    have v1 : ((min V (r.length - min 2 r.length) : Nat) : Int) ≤ ((r.length - min 2 r.length : Nat) : Int) := by omega
    have v2 : min V (r.length - min 2 r.length) ≤ 1048576 := by omega
    have v3 : min V (r.length - min 2 r.length) ≤ (((r.drop 2).take V).map bpv).length := by rw [List.length_map, ← part_len]; exact Nat.le_refl _
    simp only [v1, v2, v3, part_eq, rest_eq, one_bytes, calm_bytes, decide_true, Bool.and_true, ass_true, Nat.zero_lt_one]
    have hrest : r.length - min 2 r.length - min V (r.length - min 2 r.length) = (r.drop (2 + V)).length := by rw [List.length_drop]; omega
    by_cases hM : min V (r.length - min 2 r.length) = 0
    · simp only [hM, decide_true, cond_true]
      rw [hM] at hrest
      have hz : (r.drop 2).take V = [] := List.eq_nil_of_length_eq_zero (by rw [← part_len]; exact hM)
      exact end11 N m b0 n0 _ _ acc _ _ _ _ (by rw [hz]; rfl) rfl hrest
    · simp only [hM, decide_false, cond_false]
      exact end11 N m b0 n0 _ _ acc _ _ _ _ (by rw [part_len]; rfl) rfl hrest
  · by_cases h3 : x.toNat = 3
    · simp only [h3, h1, decide_true, decide_false, cond_true, cond_false, or_true, false_or, if_true]
      generalize hV : (r.getD 0 0).toNat * 256 + (r.getD 1 0).toNat = V
      have v1 : ((min V (r.length - min 2 r.length) : Nat) : Int) ≤ ((r.length - min 2 r.length : Nat) : Int) := by omega
      have v2 : min V (r.length - min 2 r.length) ≤ 1048576 := by omega
      have v3 : min V (r.length - min 2 r.length) ≤ (((r.drop 2).take V).map bpv).length := by rw [List.length_map, ← part_len]; exact Nat.le_refl _
      simp only [v1, v2, v3, part_eq, rest_eq, one_bytes, calm_bytes, decide_true, Bool.and_true, ass_true, Nat.zero_lt_one]
      have hrest : r.length - min 2 r.length - min V (r.length - min 2 r.length) = (r.drop (2 + V)).length := by rw [List.length_drop]; omega
      by_cases hM : min V (r.length - min 2 r.length) = 0
      · simp only [hM, decide_true, cond_true]
        rw [hM] at hrest
        have hz : (r.drop 2).take V = [] := List.eq_nil_of_length_eq_zero (by rw [← part_len]; exact hM)
        exact end11 N m b0 n0 _ _ acc _ _ _ _ (by rw [hz]; rfl) rfl hrest
      · simp only [hM, decide_false, cond_false]
        exact end11 N m b0 n0 _ _ acc _ _ _ _ (by rw [part_len]; rfl) rfl hrest
    · by_cases h2 : x.toNat = 2
      · simp only [h1, h3, h2, decide_true, decide_false, cond_true, cond_false, or_self, if_false, if_true, Nat.reduceEqDiff]
        obtain ⟨y, r', rfl⟩ : ∃ y r', r = y :: r' := by
          cases r with
          | nil => exact absurd hr (Nat.lt_irrefl 0)
          | cons y r' => exact ⟨y, r', rfl⟩
        have f1 : List.take 1 (List.map bpv (y :: r')) = [bpv y] := rfl
        have f2 : List.append [bpv y] [PV.int .u8 255] = [bpv y, PV.int .u8 255] := rfl
        have f3 : okAt [Kd.int .u8] [bpv y, PV.int .u8 255] 0 = true := rfl
        have f4 : asI ([bpv y, PV.int .u8 255].getD 0 .nilp) = (y.toNat : Int) := rfl
        have f5 : decide (1 ≤ [bpv y].length) = true := rfl
        have f6 : decide ((0 : Int) < ((1 + 1 : Nat) : Int)) = true := rfl
        have f7 : (y :: r').getD 0 0 = y := rfl
        have f8 : List.drop 1 (List.map bpv (y :: r')) = r'.map bpv := rfl
        have f9 : (y :: r').length - 1 = r'.length := rfl
        have f10 : List.drop 1 (y :: r') = r' := rfl
        have hyb := byte_lt y
        have wy : IntKind.i64.wrap (y.toNat : Int) = (y.toNat : Int) := wrap_in (by omega) (by omega)
        have hy : ((y.toNat : Int) == 255) = decide (y.toNat = 255) := by rw [Bool.eq_iff_iff]; simp; omega
        simp only [f1, f2, f3, f4, f5, f6, f7, f8, f9, f10, wy, hy, ass_true, hr, true_and]
        by_cases h255 : y.toNat = 255
        · simp only [h255, decide_true, cond_true, ne_eq, not_true, if_false]
          exact end11' N m b0 n0 _ _ acc _ _ _ _ (by rfl) rfl rfl
        · simp only [h255, decide_false, cond_false, ne_eq, not_false_iff, if_true]
          exact end11' N m b0 n0 _ _ acc _ _ _ _ (by rfl) rfl rfl
      · by_cases h4 : x.toNat = 4
        · have hw : IntKind.i64.wrap (((r.getD 0 0).toNat * 256 + (r.getD 1 0).toNat : Nat) : Int) = (((r.getD 0 0).toNat * 256 + (r.getD 1 0).toNat : Nat) : Int) := wrap_nat (by have := (r.getD 0 0).toNat_lt; have := (r.getD 1 0).toNat_lt; omega)
          have f8 : List.drop (min 2 r.length) (List.map bpv r) = (r.drop 2).map bpv := by rw [← List.map_drop, drop_min]
          have f9 : r.length - min 2 r.length = (r.drop 2).length := by rw [List.length_drop]; omega
          simp only [h1, h3, h2, h4, decide_true, decide_false, cond_true, cond_false, or_self, if_false, if_true, Nat.reduceEqDiff, f8]
          exact end11' N m b0 n0 _ _ acc _ _ _ _ (by rfl) rfl f9
        · simp only [h1, h3, h2, h4, decide_false, cond_false, or_self, if_false]
          exact end11 N m b0 n0 _ _ acc _ _ _ _ (by rfl) rfl rfl

/-- One round at the last byte. -/
theorem round11z (N m : Nat) (b0 : List PV) (n0 : Nat) (hb0 : oldL 1 b0 = true) (x : UInt8) (acc : List Act) (hacc : acc.length ≤ 1000000) :
    L11b H11 N (m + 1) b0 n0 [bpv x] 1 (acc.flatMap Act.enc) acc.length =
      L11b H11 N m b0 n0 [] 0 ((acc ++ [(nxt x []).1]).flatMap Act.enc) (acc.length + 1) := by
  have e0 : (acc.flatMap Act.enc).length = acc.length * 3 := flat_length Act.len acc
  have e1 : List.take (acc.length * 3) (acc.flatMap Act.enc) = acc.flatMap Act.enc := List.take_of_length_le (by omega)
  have hxb := byte_lt x
  have wx : IntKind.i64.wrap ((x.toNat : Nat) : Int) = x.toNat := wrap_in (by omega) (by omega)
  have c2 : acc.length ≤ 1048576 := by omega
  have a3 : ¬ (acc.length + 1 ≤ acc.length) := by omega
  have c9 : decide ((1 : Nat) ≤ 1048576) = true := rfl
  have w0 : IntKind.i64.wrap ((0 : Nat) : Int) = 0 := rfl
  have hb1 : ((x.toNat : Int) == 1) = decide (x.toNat = 1) := by rw [Bool.eq_iff_iff]; simp; omega
  have hb3 : ((x.toNat : Int) == 3) = decide (x.toNat = 3) := by rw [Bool.eq_iff_iff]; simp; omega
  have hb2 : ((x.toNat : Int) == 2) = decide (x.toNat = 2) := by rw [Bool.eq_iff_iff]; simp; omega
  have hb4 : ((x.toNat : Int) == 4) = decide (x.toNat = 4) := by rw [Bool.eq_iff_iff]; simp; omega
  have tree := t11b1 b0 n0 (x.toNat : Int) (acc.flatMap Act.enc) acc.length N m
  simp only [asI, wx, w0, e0, e1, c2, a3, c9, hb0, hb1, hb3, hb2, hb4, decide_true, decide_false, Bool.not_false, Bool.and_true, ass_true, Nat.zero_add, Nat.le_refl, beq_self_eq_true] at tree
  refine Eq.trans tree ?_
  clear tree
  unfold nxt
  by_cases h1 : x.toNat = 1
  · simp only [h1, decide_true, cond_true, true_or, if_true]
    exact end11' N m b0 n0 _ _ acc _ _ [] _ (by rfl) rfl rfl
  · by_cases h3 : x.toNat = 3
    · simp only [h3, h1, decide_true, decide_false, cond_true, cond_false, or_true, false_or, if_true]
      exact end11' N m b0 n0 _ _ acc _ _ [] _ (by rfl) rfl rfl
    · by_cases h2 : x.toNat = 2
      · simp only [h1, h3, h2, decide_true, decide_false, cond_true, cond_false, or_self, if_false, if_true, Nat.reduceEqDiff]
        exact end11' N m b0 n0 _ _ acc _ _ [] _ (by rfl) rfl rfl
      · by_cases h4 : x.toNat = 4
        · simp only [h1, h3, h2, h4, decide_true, decide_false, cond_true, cond_false, or_self, if_false, if_true, Nat.reduceEqDiff]
          exact end11' N m b0 n0 _ _ acc _ _ [] _ (by rfl) rfl rfl
        · simp only [h1, h3, h2, h4, decide_false, cond_false, or_self, if_false]
          exact end11' N m b0 n0 _ _ acc _ _ [] _ (by rfl) rfl rfl

theorem stop11 (N m : Nat) (b0 : List PV) (n0 : Nat) (acc : List Act) : L11b H11 N (m + 1) b0 n0 [] 0 (acc.flatMap Act.enc) acc.length = some (.sl (acc.flatMap Act.enc) 3 acc.length none) := by
  rw [t11b0]
  have e0 : (acc.flatMap Act.enc).length = acc.length * 3 := flat_length Act.len acc
  have e1 : List.take (acc.length * 3) (acc.flatMap Act.enc) = acc.flatMap Act.enc := List.take_of_length_le (by omega)
  simp only [List.drop_zero, e1, e0, calm_flat Act.calm acc, oldL_flat (Act.old 0) acc, beq_self_eq_true, Nat.zero_add, Nat.le_refl, decide_true, Bool.and_true, ass_true]
  rfl

theorem loop11 (N : Nat) (b0 : List PV) (n0 : Nat) (hb0 : oldL 1 b0 = true) : ∀ (f m : Nat) (l : List UInt8) (acc : List Act), l.length ≤ f → l.length ≤ 500000 → f < m → acc.length + f ≤ 1000000 →
    L11b H11 N m b0 n0 (l.map bpv) l.length (acc.flatMap Act.enc) acc.length = some (.sl ((acc ++ Sp.decF f l).flatMap Act.enc) 3 (acc ++ Sp.decF f l).length none) := by
  intro f
  induction f with
  | zero =>
    intro m l acc h1 h0 h2 h3
    obtain ⟨m, rfl⟩ : ∃ q, m = q + 1 := ⟨m - 1, by omega⟩
    have : l = [] := List.eq_nil_of_length_eq_zero (by omega)
    subst this
    refine (stop11 N m b0 n0 acc).trans ?_
    simp [Sp.decF]
  | succ f ih =>
    intro m l acc h1 h0 h2 h3
    obtain ⟨m, rfl⟩ : ∃ q, m = q + 1 := ⟨m - 1, by omega⟩
    cases l with
    | nil =>
      refine (stop11 N m b0 n0 acc).trans ?_
      simp [Sp.decF]
    | cons x r =>
      rw [decF_nxt]
      simp only [List.length_cons] at h1 h0
      cases r with
      | nil =>
        refine (round11z N m b0 n0 hb0 x acc (by omega)).trans ?_
        have := ih m [] (acc ++ [(nxt x []).1]) (by simp) (by simp) (by omega) (by simp; omega)
        rw [List.length_append, List.length_singleton] at this
        simp only [List.map_nil, List.length_nil] at this
        rw [this]
        simp
      | cons y r =>
        refine (round11 N m b0 n0 hb0 x (y :: r) (by simp) (by omega) acc (by omega)).trans ?_
        have := ih m ((y :: r).drop (nxt x (y :: r)).2) (acc ++ [(nxt x (y :: r)).1]) (by simp only [List.length_drop]; omega) (by simp only [List.length_drop]; omega) (by omega) (by simp; omega)
        rw [List.length_append, List.length_singleton] at this
        rw [this]
        simp

set_option maxHeartbeats 4000000 in
theorem ab11 (N m : Nat) (b0 : List PV) (n0 : Nat) (b : List PV) (n : Nat) : L11a H11 N (m + 1) b0 n0 b n = L11b H11 N (m + 1) b0 n0 b n [] 0 := by
  rw [t11a3, t11b3]
  have c1 : decide (0 + 0 + 1 ≤ 0) = false := rfl
  have c2 : ((0 : Nat) == 0 && (decide (0 ≤ 1048576) && (decide (1 ≤ 1048576) && decide (0 + 0 * 3 ≤ ([] : List PV).length)))) = true := rfl
  simp only [c1, c2, Nat.zero_mul, List.take_nil, app_eq, List.nil_append, Bool.not_false, ass_true, Nat.zero_add]
  rfl

/-- script.Decode -/
theorem run11 {N : Nat} (hN : 500002 ≤ N) (xs : List PV) (v : PV) (h : g11 xs = some (true, v)) : ∃ H, apartS EN T0 H N 5 12 xs = some v := by
  unfold g11 at h
  split at h
  · rename_i b n
    simp only [Option.some.injEq, Prod.mk.injEq, Bool.and_eq_true, decide_eq_true_eq] at h
    obtain ⟨⟨hb, hi⟩, rfl⟩ := h
    obtain ⟨l, rfl, rfl⟩ := isBytes_of hb
    refine ⟨H11, (t11 _ _ N).trans ?_⟩
    obtain ⟨m, rfl⟩ : ∃ q, N = q + 1 := ⟨N - 1, by omega⟩
    rw [ab11]
    refine Eq.trans (loop11 (m + 1) (l.map bpv) l.length (oldL_bytes 1 l) l.length (m + 1) l [] (by omega) hi (by omega) (by simp; omega)) ?_
    rw [bytesL_map]
    rfl
  · cases h

theorem decF_len : ∀ (f : Nat) (l : List UInt8), (Sp.decF f l).length ≤ f
  | 0, _ => by simp [Sp.decF]
  | f + 1, [] => by simp [Sp.decF]
  | f + 1, x :: r => by
    rw [decF_nxt]
    have := decF_len f (r.drop (nxt x r).2)
    simp only [List.length_cons]
    omega

end Go.Proofs.YtbnfofcbajaiiaaDoor.Am
