/- Scripts as bytes: the loops of script.Encode and of Long; errors' numbers. -/
import Derived.Test.YtbnfofcbajaiiaaDoorSe4
import Derived.Test.YtbnfofcbajaiiaaDoorSe3
set_option linter.unusedVariables false
set_option linter.unusedSimpArgs false
set_option maxRecDepth 100000
set_option maxHeartbeats 4000000
namespace Go.Proofs.YtbnfofcbajaiiaaDoor.Am

theorem entB_len (k m : Int) (l : List UInt8) : 0 < (Sp.entB k m l).length ∧ (Sp.entB k m l).length ≤ l.length + 3 := by
  unfold Sp.entB
  split
  · simp
  · split
    · simp
    · split <;> simp

theorem encE_cons (a : Act) (r : List Act) : Sp.encE (a :: r) = if Sp.entE a.kind a.n a.bytes.length = 0 then Sp.encE r else Sp.entE a.kind a.n a.bytes.length := rfl
theorem encL_cons (a : Act) (r : List Act) : Sp.encL (a :: r) = Sp.entB a.kind a.n a.bytes ++ Sp.encL r := by simp [Sp.encL]

/-- What is answered from a place on. -/
def encR (acc : List UInt8) (r : List Act) : PV := if Sp.encE r = 0 then .tup [.sl ((acc ++ Sp.encL r).map bpv) 1 (acc ++ Sp.encL r).length none, .nilif] else .tup [.sl [] 1 0 none, errV (Sp.encE r - 1)]

theorem encR_cons (acc : List UInt8) (a : Act) (r : List Act) : encR acc (a :: r) = if Sp.entE a.kind a.n a.bytes.length = 0 then encR (acc ++ Sp.entB a.kind a.n a.bytes) r else .tup [.sl [] 1 0 none, errV (Sp.entE a.kind a.n a.bytes.length - 1)] := by
  unfold encR
  rw [encE_cons, encL_cons]
  by_cases h : Sp.entE a.kind a.n a.bytes.length = 0
  · simp only [h, if_true, List.append_assoc]
  · simp only [h, if_false]

theorem beq0 {n : Nat} : Nat.beq n 0 = decide (n = 0) := by
  cases n <;> rfl

theorem round8 (N m : Nat) (l : List Act) (hl : l.length ≤ 30) (i : Nat) (hi : i < l.length) (hb : l[i].bytes.length ≤ 1300) (acc : List UInt8) (hacc : acc.length ≤ 100000) :
    L8b H8 N (m + 1) (l.flatMap Act.enc) l.length (i : Int) (acc.map bpv) acc.length =
      if Sp.entE l[i].kind l[i].n l[i].bytes.length = 0 then L8b H8 N m (l.flatMap Act.enc) l.length ((i + 1 : Nat) : Int) ((acc ++ Sp.entB l[i].kind l[i].n l[i].bytes).map bpv) (acc ++ Sp.entB l[i].kind l[i].n l[i].bytes).length
      else some (.tup [.sl [] 1 0 none, errV (Sp.entE l[i].kind l[i].n l[i].bytes.length - 1)]) := by
  rw [t8b]
  obtain ⟨h1, h2, h3⟩ := act_cells hi
  have hbB : isBytes l[i].bytes.length (l[i].bytes.map bpv) = true := isBytes_map rfl
  have hol := entB_len l[i].kind l[i].n l[i].bytes
  have e3 : IntKind.i64.wrap ((i : Int) + 1) = ((i + 1 : Nat) : Int) := wrap_succ (by omega)
  have c1 : ((i : Int) < (l.length : Int)) := by omega
  have c2 : l[i].bytes.length ≤ 100000 := by omega
  have ht : List.take acc.length (acc.map bpv) = acc.map bpv := List.take_of_length_le (by simp)
  simp only [h1, h2, h3, asI, slCells, slLen, Sp.entC, Sp.entL, bytesL_map, hbB, e3, c1, c2, Nat.mul_one, ht, app_eq, ← List.map_append, oldL_bytes, oldL_flat (Act.old 0), okAt_act hi, List.length_map, beq_self_eq_true, decide_true, Bool.and_true, Bool.true_and, Int.natCast_nonneg, cond_true, beq0]
  by_cases he : Sp.entE l[i].kind l[i].n l[i].bytes.length = 0
  · simp only [he, decide_true, cond_true, if_true, List.length_append]
    repeat (refine Eq.trans (ass_of (by first
      | (simp only [eq_self]; done)
      | (simp only [Bool.and_eq_true, decide_eq_true_eq, Bool.not_eq_true', decide_eq_false_iff_not] <;> omega))) ?_)
    rfl
  · simp only [he, decide_false, cond_false, if_false]
    rfl

theorem stop8 (N m : Nat) (l : List Act) (acc : List UInt8) : L8b H8 N (m + 1) (l.flatMap Act.enc) l.length (l.length : Int) (acc.map bpv) acc.length = some (.tup [.sl (acc.map bpv) 1 acc.length none, .nilif]) := by
  rw [t8b]
  have ht : List.take acc.length (acc.map bpv) = acc.map bpv := List.take_of_length_le (by simp)
  simp only [Int.lt_irrefl, decide_false, cond_false, Nat.mul_one, List.drop_zero, ht, calm_bytes, oldL_bytes, List.length_map, beq_self_eq_true, Bool.and_true, Bool.true_and, Nat.zero_add, Nat.le_refl, decide_true, Nat.lt_irrefl]
  rfl

theorem loop8 (N : Nat) (l : List Act) (hl : l.length ≤ 30) (hb : ∀ a ∈ l, a.bytes.length ≤ 1300) : ∀ (k i m : Nat) (acc : List UInt8), i + k = l.length → k < m → acc.length + 1303 * k ≤ 100000 →
    L8b H8 N m (l.flatMap Act.enc) l.length (i : Int) (acc.map bpv) acc.length = some (encR acc (l.drop i))
  | 0, i, m, acc, h, hm, ha => by
    obtain ⟨m, rfl⟩ : ∃ q, m = q + 1 := ⟨m - 1, by omega⟩
    have hi : i = l.length := by omega
    subst hi
    rw [stop8, List.drop_length]
    simp [encR, Sp.encE, Sp.encL]
  | k + 1, i, m, acc, h, hm, ha => by
    obtain ⟨m, rfl⟩ : ∃ q, m = q + 1 := ⟨m - 1, by omega⟩
    have hi : i < l.length := by omega
    have hbi := hb l[i] (List.getElem_mem hi)
    have hol := entB_len l[i].kind l[i].n l[i].bytes
    rw [round8 N m l hl i hi hbi acc (by omega), List.drop_eq_getElem_cons hi, encR_cons]
    by_cases he : Sp.entE l[i].kind l[i].n l[i].bytes.length = 0
    · rw [if_pos he, if_pos he]
      exact loop8 N l hl hb k (i + 1) m _ (by omega) (by omega) (by rw [List.length_append]; omega)
    · rw [if_neg he, if_neg he]

theorem first8 (N m : Nat) (l : List Act) (hl : l.length ≤ 30) (hb : ∀ a ∈ l, a.bytes.length ≤ 1300) (hm : 40 ≤ m) : L8a H8 N m (l.flatMap Act.enc) l.length 0 = some (encR [] l) := by
  obtain ⟨m, rfl⟩ : ∃ q, m = q + 1 := ⟨m - 1, by omega⟩
  have t := t8a N m (l.flatMap Act.enc) l.length 0
  simp only [Int.ofNat_zero] at t
  refine t.trans ?_
  cases l with
  | nil => rfl
  | cons a l =>
    have hi : 0 < (a :: l).length := by simp
    obtain ⟨h1, h2, h3⟩ := act_cells hi
    have ho := okAt_act hi
    simp only [Nat.zero_mul, Nat.zero_add, List.getElem_cons_zero] at h1 h2 h3 ho
    have hba := hb a (by simp)
    have hbB : isBytes a.bytes.length (a.bytes.map bpv) = true := isBytes_map rfl
    have hol := entB_len a.kind a.n a.bytes
    have c1 : ((0 : Int) < ((a :: l).length : Int)) := by simp <;> omega
    have c2 : a.bytes.length ≤ 100000 := by omega
    have e3 : IntKind.i64.wrap ((0 : Int) + 1) = ((1 : Nat) : Int) := rfl
    simp only [Nat.zero_mul, Nat.zero_add, h1, h2, h3, ho, asI, slCells, slLen, Sp.entC, Sp.entL, bytesL_map, hbB, e3, c1, c2, Nat.mul_one, oldL_bytes, oldL_flat (Act.old 0), List.length_map, beq_self_eq_true, decide_true, Bool.and_true, Bool.true_and, Int.le_refl, cond_true, beq0]
    rw [encR_cons]
    by_cases he : Sp.entE a.kind a.n a.bytes.length = 0
    · simp only [he, decide_true, cond_true, if_true, List.nil_append]
      repeat (refine Eq.trans (ass_of (by first
        | (simp only [eq_self]; done)
        | (simp only [Bool.and_eq_true, decide_eq_true_eq, Bool.not_eq_true', decide_eq_false_iff_not] <;> omega))) ?_)
      exact loop8 N (a :: l) hl hb l.length 1 m _ (by simp; omega) (by simp at hl; omega) (by simp at hl; omega)
    · simp only [he, decide_false, cond_false, if_false]
      rfl

theorem short_of {n : Nat} {c : List PV} (h : Sp.short n c = true) : ∃ l : List Act, c = l.flatMap Act.enc ∧ l.length = n ∧ l.length ≤ 30 ∧ ∀ a ∈ l, a.bytes.length ≤ 1300 := by
  unfold Sp.short at h
  simp only [Bool.and_eq_true, decide_eq_true_eq] at h
  obtain ⟨l, rfl, rfl⟩ := isRows_of h.1
  rw [acts_flat] at h
  exact ⟨l, rfl, rfl, h.2.1, fun a ha => of_decide_eq_true (List.all_eq_true.1 h.2.2 a ha)⟩

theorem br_leaf {c x : Bool} {a b v : PV} (h : (Tr.br c (.leaf x a) (.leaf x b)).val = some v) : x = true ∧ v = bif c then a else b := by
  cases x with
  | true => cases c <;> (cases h; exact ⟨rfl, rfl⟩)
  | false => cases c <;> cases h

/-- script.Encode -/
theorem run8 {N : Nat} (hN : 40 ≤ N) (xs : List PV) (t : Tr) (v : PV) (h : gEnc xs = some t) (hv : t.val = some v) : ∃ H, apartS EN TEnt H N 5 8 xs = some v := by
  unfold gEnc at h
  split at h
  · rename_i c n
    cases h
    obtain ⟨hs, rfl⟩ := br_leaf hv
    obtain ⟨l, rfl, rfl, hl, hb⟩ := short_of hs
    refine ⟨H8, (t8 N _ _).trans ?_⟩
    refine (first8 N N l hl hb hN).trans ?_
    unfold encR
    simp only [Sp.errOf, Sp.encC, Sp.encN, acts_flat, beq0, List.nil_append]
    by_cases he : Sp.encE l = 0
    · simp only [he, decide_true, cond_true, if_true]
    · simp only [he, decide_false, cond_false, if_false]
  · cases h

/-- linkboynum.Num -/
theorem run13 {N : Nat} (xs : List PV) (v : PV) (h : gSame xs = some (true, v)) : ∃ H, apartS EN T0 H N 5 13 xs = some v := by
  unfold gSame at h
  split at h
  · rename_i k m b n k' m' b' n'
    simp only [Option.some.injEq, Prod.mk.injEq, Bool.and_eq_true] at h
    obtain ⟨⟨h1, h2⟩, rfl⟩ := h
    obtain ⟨l, rfl, rfl⟩ := isBytes_of h1
    obtain ⟨l', rfl, rfl⟩ := isBytes_of h2
    refine ⟨H0, (t13 N _ _ _ _ _ _ _ _).trans ?_⟩
    simp only [List.length_map, beq_self_eq_true, okByte_map, Bool.and_true, bytesL_map, Sp.sameA]
    cases hk : k == k' <;> cases hm : m == m' <;> rfl
  · cases h

theorem loop7 (N : Nat) (l : List Act) (hl : l.length ≤ 1000000) (k0 : Int) : ∀ (k i m : Nat), i + k = l.length → k < m → L7 H0 N m (l.flatMap Act.enc) l.length k0 (i : Int) = some (.bool ((l.drop i).any fun a => decide (a.bytes.length > 1300)))
  | 0, i, m, h, hm => by
    obtain ⟨m, rfl⟩ : ∃ q, m = q + 1 := ⟨m - 1, by omega⟩
    have hi : i = l.length := by omega
    subst hi
    rw [t7r]
    simp
  | k + 1, i, m, h, hm => by
    obtain ⟨m, rfl⟩ : ∃ q, m = q + 1 := ⟨m - 1, by omega⟩
    have hi : i < l.length := by omega
    have ih := loop7 N l hl k0 k (i + 1) m (by omega) (by omega)
    obtain ⟨h1, h2, h3⟩ := act_cells hi
    have e3 : IntKind.i64.wrap ((i : Int) + 1) = ((i + 1 : Nat) : Int) := wrap_succ (by omega)
    have c1 : ((i : Int) < (l.length : Int)) := by omega
    have hq : decide ((l[i].bytes.length : Int) > 1300) = decide (l[i].bytes.length > 1300) := by rw [Bool.eq_iff_iff]; simp; omega
    rw [t7r, List.drop_eq_getElem_cons hi, List.any_cons]
    simp only [h1, h2, h3, asI, slCells, slLen, e3, c1, hq, oldL_flat (Act.old 0), okAt_act hi, decide_true, Bool.and_true, Int.natCast_nonneg, cond_true, ih]
    cases decide (l[i].bytes.length > 1300) <;> rfl

/-- linkboylaw33.Long -/
theorem run7 {N : Nat} (hN : 1000001 ≤ N) (xs : List PV) (v : PV) (h : gLong xs = some (true, v)) : ∃ H, apartS EN T0 H N 5 7 xs = some v := by
  unfold gLong at h
  split at h
  · rename_i c n k
    simp only [Option.some.injEq, Prod.mk.injEq, Bool.and_eq_true, Bool.or_eq_true, decide_eq_true_eq] at h
    obtain ⟨⟨h1, h2⟩, rfl⟩ := h
    obtain ⟨l, rfl, rfl⟩ := isRows_of h1
    refine ⟨H0, (t7 N _ _ _).trans ?_⟩
    unfold Sp.long
    rw [acts_flat]
    by_cases hk : (l.length : Int) > k
    · simp [hk]
    · have h2 : l.length ≤ 1000000 := h2.resolve_left hk
      have := loop7 N l h2 k l.length 0 N (by omega) (by omega)
      simp only [Int.ofNat_zero, List.drop_zero] at this
      simp only [hk, decide_false, cond_false, Bool.false_or]
      exact this
  · cases h

end Go.Proofs.YtbnfofcbajaiiaaDoor.Am
