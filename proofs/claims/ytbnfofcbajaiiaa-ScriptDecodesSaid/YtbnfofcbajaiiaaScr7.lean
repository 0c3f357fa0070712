/- Scripts: two rows of acts held against each other. -/
import Derived.Test.YtbnfofcbajaiiaaScr6
set_option linter.unusedVariables false
set_option linter.unusedSimpArgs false
namespace Go.Proofs.Ytbnfofcbajaiiaa.Am

open Classical in
noncomputable def eqA' (a b : List Act) : Bool := decide (a = b)

theorem same_flat (a b : List Act) : Sp.same (a.flatMap Act.enc) (b.flatMap Act.enc) = eqA' a b := by
  unfold Sp.same eqA'
  rw [acts_flat, acts_flat]

theorem act1 {l : List Act} {i : Nat} (hi : i < l.length) : okAt [Kd.int .i64] (l.flatMap Act.enc) (i * 3 + 0) = true ∧ okAt [Kd.int .i64] (l.flatMap Act.enc) (i * 3 + 1) = true ∧ okAt [Kd.sl 1] (l.flatMap Act.enc) (i * 3 + 2) = true := by
  have h0 := flat_get? (enc := Act.enc) Act.len hi (j := 0) (by decide)
  have h1 := flat_get? (enc := Act.enc) Act.len hi (j := 1) (by decide)
  have h2 := flat_get? (enc := Act.enc) Act.len hi (j := 2) (by decide)
  simp only [okAt, h0, h1, h2]
  exact ⟨rfl, rfl, rfl⟩

theorem act2 {l : List Act} {i : Nat} (hi : i < l.length) : (l.flatMap Act.enc).getD (i * 3 + 0) .nilp = .int .i64 l[i].kind ∧ (l.flatMap Act.enc).getD (i * 3 + 1) .nilp = .int .i64 l[i].n ∧ (l.flatMap Act.enc).getD (i * 3 + 2) .nilp = .sl (l[i].bytes.map bpv) 1 l[i].bytes.length none := act_cells hi

theorem eq_cons (a b : Act) (x y : List Act) : eqA' (a :: x) (b :: y) = (decide (a.kind = b.kind) && (decide (a.n = b.n) && (decide (a.bytes = b.bytes) && eqA' x y))) := by
  unfold eqA'
  rw [Bool.eq_iff_iff]
  cases a; cases b
  simp [and_assoc]

theorem loop9 (N : Nat) (la lb : List Act) (hl : la.length = lb.length) (hb : la.length ≤ 1000000) : ∀ (k i m : Nat), i + k = la.length → k < m →
    L9 H0 N m (la.flatMap Act.enc) (lb.flatMap Act.enc) la.length (i : Int) = some (.bool (eqA' (la.drop i) (lb.drop i)))
  | 0, i, m, h, hm => by
    obtain ⟨m, rfl⟩ : ∃ q, m = q + 1 := ⟨m - 1, by omega⟩
    rw [t9r]
    have c : ¬ (i : Int) < (la.length : Int) := by omega
    simp only [c, decide_false, cond_false]
    rw [List.drop_of_length_le (by omega), List.drop_of_length_le (by omega)]
    simp [eqA']
  | k + 1, i, m, h, hm => by
    obtain ⟨m, rfl⟩ : ∃ q, m = q + 1 := ⟨m - 1, by omega⟩
    have hi : i < la.length := by omega
    have hj : i < lb.length := by omega
    have ih := loop9 N la lb hl hb k (i + 1) m (by omega) (by omega)
    rw [t9r, List.drop_eq_getElem_cons hi, List.drop_eq_getElem_cons hj, eq_cons]
    have c : (i : Int) < (la.length : Int) := by omega
    obtain ⟨a0, a1, a2⟩ := act1 hi
    obtain ⟨b0, b1, b2⟩ := act1 hj
    obtain ⟨p0, p1, p2⟩ := act2 hi
    obtain ⟨q0, q1, q2⟩ := act2 hj
    have w1 : IntKind.i64.wrap ((i : Int) + 1) = ((i + 1 : Nat) : Int) := wrap_succ (by omega)
    have len1 : ∀ l : List UInt8, ((l.map bpv).length == l.length) = true := fun l => by simp
    simp only [c, a0, a1, a2, b0, b1, b2, p0, p1, p2, q0, q1, q2, w1, asI, slCells, slLen, oldL_bytes, okByte_map, bytesL_map, len1, ih, oldL_flat (Act.old 0), Int.natCast_nonneg, decide_true, Bool.and_true, ass_true, cond_true]
    have n1 : (la[i].kind != lb[i].kind) = !decide (la[i].kind = lb[i].kind) := by rw [Bool.eq_iff_iff]; simp
    have n2 : (la[i].n != lb[i].n) = !decide (la[i].n = lb[i].n) := by rw [Bool.eq_iff_iff]; simp
    have n3 : (la[i].bytes == lb[i].bytes) = decide (la[i].bytes = lb[i].bytes) := by rw [Bool.eq_iff_iff]; simp
    rw [n1, n2, n3]
    by_cases e1 : la[i].kind = lb[i].kind
    · by_cases e2 : la[i].n = lb[i].n
      · by_cases e3 : la[i].bytes = lb[i].bytes
        · simp [e1, e2, e3]
        · simp [e1, e2, e3]
      · simp [e1, e2]
    · simp [e1]

/-- linkboyref34.Same -/
theorem run9 {N : Nat} (hN : 1000002 ≤ N) (xs : List PV) (v : PV) (h : g9 xs = some (true, v)) : ∃ H, apartS EN T0 H N 0 9 xs = some v := by
  unfold g9 at h
  split at h
  · rename_i a n b m
    simp only [Option.some.injEq, Prod.mk.injEq, Bool.and_eq_true, decide_eq_true_eq] at h
    obtain ⟨⟨⟨⟨ha, hb⟩, h1⟩, h2⟩, rfl⟩ := h
    obtain ⟨la, rfl, rfl⟩ := isRows_of ha
    obtain ⟨lb, rfl, rfl⟩ := isRows_of hb
    refine ⟨H0, ?_⟩
    rw [same_flat]
    by_cases e : la.length = lb.length
    · rw [← e]
      refine (t9 _ _ _ _ N).trans ?_
      have c : ((la.length : Int) != (la.length : Int)) = false := by simp
      rw [c, cond_false]
      refine Eq.trans (b := L9 H0 N N (la.flatMap Act.enc) (lb.flatMap Act.enc) la.length ((0 : Nat) : Int)) (by kernel_rfl) ?_
      exact loop9 N la lb e (by omega) la.length 0 N (by omega) (by omega)
    · refine (t9 _ _ _ _ N).trans ?_
      have c : ((la.length : Int) != (lb.length : Int)) = true := by simp; omega
      rw [c, cond_true]
      have : eqA' la lb = false := by
        unfold eqA'
        simp only [decide_eq_false_iff_not]
        exact fun h => e (by rw [h])
      rw [this]
  · cases h

end Go.Proofs.Ytbnfofcbajaiiaa.Am
