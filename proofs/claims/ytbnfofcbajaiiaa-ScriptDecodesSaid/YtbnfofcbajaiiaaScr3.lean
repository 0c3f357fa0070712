/- Scripts: what the small functions and the loops over acts answer. -/
import Derived.Test.YtbnfofcbajaiiaaScr2
set_option linter.unusedVariables false
set_option linter.unusedSimpArgs false
namespace Go.Proofs.Ytbnfofcbajaiiaa.Am

theorem Act.len (a : Act) : a.enc.length = 3 := rfl
theorem Act.okAt (a : Act) : okAt [Kd.int .i64, Kd.int .i64, Kd.sl 1] a.enc 0 = true := rfl
theorem Act.old (n : Nat) (a : Act) : oldL n a.enc = true := by simp [Act.enc, oldL, oldV, oldL_bytes]
theorem Act.calm (a : Act) : a.enc.all PV.calm = true := rfl
theorem Act.inj (a b : Act) (h : a.enc = b.enc) : a = b := by
  cases a; cases b
  simp only [Act.enc, List.cons.injEq, PV.int.injEq, PV.sl.injEq, true_and, and_true] at h
  obtain ⟨h1, h2, h3, h4⟩ := h
  have := bpv_inj h3
  subst h1 h2 this
  rfl

theorem okActs_flat {l : List Act} {n : Nat} (h : l.length = n) : Sp.okActs n (l.flatMap Act.enc) = true := isRows_flat h
theorem acts_flat (l : List Act) : Sp.acts (l.flatMap Act.enc) = l := rowsOf_flat Act.len (by decide) Act.inj l

theorem act_cells {l : List Act} {i : Nat} (hi : i < l.length) : (l.flatMap Act.enc).getD (i * 3) .nilp = .int .i64 l[i].kind ∧ (l.flatMap Act.enc).getD (i * 3 + 1) .nilp = .int .i64 l[i].n ∧
    (l.flatMap Act.enc).getD (i * 3 + 1 + 1) .nilp = .sl (l[i].bytes.map bpv) 1 l[i].bytes.length none :=
  ⟨flat_getD (j := 0) Act.len hi (by decide) _, flat_getD (j := 1) Act.len hi (by decide) _, flat_getD (j := 2) Act.len hi (by decide) _⟩

theorem okAt_act {l : List Act} {i : Nat} (hi : i < l.length) : okAt [Kd.int .i64, Kd.int .i64, Kd.sl 1] (l.flatMap Act.enc) (i * 3) = true := okAt_flat Act.len Act.okAt hi

theorem byte_cell {l : List UInt8} {i : Nat} (hi : i < l.length) : (l.map bpv)[i]? = some (bpv l[i]) := by simp [hi]
theorem byte_getD {l : List UInt8} {i : Nat} (hi : i < l.length) : (l.map bpv).getD i .nilp = .int .u8 (l.getD i 0).toNat := by
  rw [List.getD_eq_getElem?_getD, byte_cell hi, List.getD_eq_getElem?_getD, List.getElem?_eq_getElem hi]
  rfl
theorem byte_okAt {l : List UInt8} {i : Nat} (hi : i < l.length) : Am.okAt [Kd.int .u8] (l.map bpv) i = true := by
  simp [Am.okAt, byte_cell hi, bpv, Kd.ok]
theorem byte_lt (x : UInt8) : ((x.toNat : Nat) : Int) < 256 := by have := x.toNat_lt; omega

theorem getB_lt (l : List UInt8) (i : Nat) : 0 ≤ Sp.getB l i ∧ Sp.getB l i < 256 := ⟨by unfold Sp.getB; omega, byte_lt _⟩

/-- linkboyref34.get -/
theorem run38 {N : Nat} (xs : List PV) (v : PV) (h : g38 xs = some (true, v)) : ∃ H, apartS EN T0 H N 0 38 xs = some v := by
  unfold g38 at h
  split at h
  · rename_i b n i
    simp only [Option.some.injEq, Prod.mk.injEq, Bool.and_eq_true, decide_eq_true_eq] at h
    obtain ⟨⟨hb, hi⟩, rfl⟩ := h
    obtain ⟨l, rfl, rfl⟩ := isBytes_of hb
    refine ⟨H0, (t38 (l.map bpv) l.length N i).trans ?_⟩
    rw [bytesL_map]
    by_cases hlt : i < (l.length : Int)
    · have hn : i.toNat < l.length := by omega
      have hw : IntKind.i64.wrap ((l.getD i.toNat 0).toNat : Int) = (l.getD i.toNat 0).toNat := wrap_in (by omega) (by have := byte_lt (l.getD i.toNat 0); omega)
      simp only [hlt, hi, Nat.mul_one, byte_okAt hn, byte_getD hn, asI, hw, Sp.getB, decide_true, Bool.and_true, ass_true, cond_true]
    · have hn : l.length ≤ i.toNat := by omega
      simp [hlt, Sp.getB, List.getD_eq_getElem?_getD, List.getElem?_eq_none hn]
  · cases h

/-- linkboyref34.least -/
theorem run39 {N : Nat} (xs : List PV) (v : PV) (h : g39 xs = some (true, v)) : ∃ H, apartS EN T38 H N 0 39 xs = some v := by
  unfold g39 at h
  split at h
  · rename_i i j
    simp only [Option.some.injEq, Prod.mk.injEq, true_and] at h
    subst h
    refine ⟨H0, (t39 N i j).trans ?_⟩
    by_cases hlt : i < j
    · simp [hlt, Int.min_def]; omega
    · simp [hlt, Int.min_def]; omega
  · cases h

theorem app_eq {α : Type} (a b : List α) : List.append a b = a ++ b := rfl

theorem take_succ' {l : List Act} {i : Nat} (hi : i < l.length) : (l.take i).flatMap Act.enc ++ Act.enc l[i] = (l.take (i + 1)).flatMap Act.enc := by
  rw [List.take_succ_eq_append_getElem hi, List.flatMap_append]
  simp

theorem row_eq {l : List Act} {i : Nat} (hi : i < l.length) :
    [PV.int .i64 (asI ((l.flatMap Act.enc).getD (i * 3) .nilp)), PV.int .i64 (asI ((l.flatMap Act.enc).getD (i * 3 + 1) .nilp)), PV.sl (slCells ((l.flatMap Act.enc).getD (i * 3 + 1 + 1) .nilp)) 1 (slLen ((l.flatMap Act.enc).getD (i * 3 + 1 + 1) .nilp)) none] = Act.enc l[i] := by
  obtain ⟨h1, h2, h3⟩ := act_cells hi
  rw [h1, h2, h3]
  rfl

theorem loop10 (N : Nat) (l : List Act) (hl : l.length ≤ 1000000) : ∀ (k i m : Nat), i + k = l.length → k < m → L10b H10 N m (l.flatMap Act.enc) l.length (i : Int) ((l.take i).flatMap Act.enc) i = some (.sl (l.flatMap Act.enc) 3 l.length none)
  | 0, i, m, h, hm => by
    obtain ⟨m, rfl⟩ : ∃ q, m = q + 1 := ⟨m - 1, by omega⟩
    have hi : i = l.length := by omega
    subst hi
    rw [t10b]
    have e1 : (l.flatMap Act.enc).length = l.length * 3 := flat_length Act.len l
    have e2 : List.take (l.length * 3) (l.flatMap Act.enc) = l.flatMap Act.enc := List.take_of_length_le (by omega)
    simp only [List.take_length, List.drop_zero, e2]
    simp [e1, calm_flat Act.calm l, oldL_flat (Act.old 0) l, ass]
  | k + 1, i, m, h, hm => by
    obtain ⟨m, rfl⟩ : ∃ q, m = q + 1 := ⟨m - 1, by omega⟩
    have hi : i < l.length := by omega
    rw [t10b]
    have e1 : ((l.take i).flatMap Act.enc).length = i * 3 := by rw [flat_length Act.len, List.length_take]; congr 1; omega
    have e2 : List.take (i * 3) ((l.take i).flatMap Act.enc) = (l.take i).flatMap Act.enc := List.take_of_length_le (by omega)
    have e3 : IntKind.i64.wrap ((i : Int) + 1) = ((i + 1 : Nat) : Int) := wrap_succ (by omega)
    rw [row_eq hi]
    simp only [e2, app_eq, take_succ' hi, e3]
    have ih := loop10 N l hl k (i + 1) m (by omega) (by omega)
    have c1 : ((i : Int) < (l.length : Int)) := by omega
    have c2 : i ≤ 1048576 := by omega
    have c3 : ¬ (i + 1 ≤ i) := by omega
    simp only [c1, c2, c3, e1, okAt_act hi, oldL_flat (Act.old 0), ih, decide_true, decide_false, Bool.not_false, Bool.and_true, Bool.true_and, beq_self_eq_true, Nat.zero_add, Nat.le_refl, Int.natCast_nonneg, ass_true, cond_true]
    rfl

/-- linkboylaw34.Of -/
theorem run10 {N : Nat} (hN : 1000001 ≤ N) (xs : List PV) (v : PV) (h : g10 xs = some (true, v)) : ∃ H, apartS EN T0 H N 0 10 xs = some v := by
  unfold g10 at h
  split at h
  · rename_i c n
    simp only [Option.some.injEq, Prod.mk.injEq, Bool.and_eq_true, decide_eq_true_eq] at h
    obtain ⟨⟨hb, hi⟩, rfl⟩ := h
    obtain ⟨l, rfl, rfl⟩ := isRows_of hb
    refine ⟨H10, (t10 _ _ N).trans ?_⟩
    obtain ⟨m, rfl⟩ : ∃ q, N = q + 1 := ⟨N - 1, by omega⟩
    have ha := t10a (l.flatMap Act.enc) l.length 0 (m + 1) m
    simp only [Int.ofNat_zero, Nat.zero_mul, Nat.zero_add] at ha
    rw [ha]
    cases l with
    | nil => rfl
    | cons a l =>
      have hrow := row_eq (l := a :: l) (i := 0) (by simp)
      simp only [Nat.zero_mul, Nat.zero_add] at hrow
      rw [hrow]
      have h1 := okAt_act (l := a :: l) (i := 0) (by simp)
      rw [Nat.zero_mul] at h1
      have h2 := loop10 (m + 1) (a :: l) hi l.length 1 m (by simp; omega) (by simp at hi; omega)
      have e3 : IntKind.i64.wrap ((0 : Int) + 1) = ((1 : Nat) : Int) := rfl
      have e4 : (List.take 1 (a :: l)).flatMap Act.enc = Act.enc (a :: l)[0] := by simp
      rw [e4] at h2
      rw [e3, h2]
      have e5 : oldL 0 (Act.enc (a :: l)[0]) = true := Act.old 0 _
      have c1 : (0 : Int) < ((a :: l).length : Int) := by simp only [List.length_cons]; omega
      simp only [h1, oldL_flat (Act.old 0), e5, ass, cond_true, c1, decide_true, Bool.and_true, Int.le_refl]
  · cases h

end Go.Proofs.Ytbnfofcbajaiiaa.Am
