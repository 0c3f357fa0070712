/- Scripts: the document's reader of acts. -/
import Derived.Test.YtbnfofcbajaiiaaScr3
set_option linter.unusedVariables false
set_option linter.unusedSimpArgs false
namespace Go.Proofs.Ytbnfofcbajaiiaa.Am

theorem drop_min {α : Type} (l : List α) (a : Nat) : l.drop (min a l.length) = l.drop a := by
  by_cases h : a ≤ l.length
  · rw [Nat.min_eq_left h]
  · rw [Nat.min_eq_right (by omega), List.drop_of_length_le (Nat.le_refl _), List.drop_of_length_le (by omega)]

theorem take_cut {α : Type} (xs : List α) (a b : Nat) (h : min a xs.length = min b xs.length) : xs.take a = xs.take b := by
  have : ∀ c, xs.take c = xs.take (min c xs.length) := fun c => by
    by_cases hc : c ≤ xs.length
    · rw [Nat.min_eq_left hc]
    · rw [Nat.min_eq_right (by omega), List.take_length, List.take_of_length_le (by omega)]
  rw [this a, this b, h]

/-- The next act, and where it ends. -/
def nxt (x : UInt8) (r : List UInt8) : Act × Nat :=
  if x.toNat = 1 ∨ x.toNat = 3 then (⟨x.toNat, 0, (r.drop 2).take ((r.getD 0 0).toNat * 256 + (r.getD 1 0).toNat)⟩, 2 + ((r.getD 0 0).toNat * 256 + (r.getD 1 0).toNat))
  else if x.toNat = 2 then (⟨2, if 0 < r.length ∧ (r.getD 0 0).toNat ≠ 255 then ((r.getD 0 0).toNat : Int) else -1, []⟩, 1)
  else if x.toNat = 4 then (⟨4, (((r.getD 0 0).toNat * 256 + (r.getD 1 0).toNat : Nat) : Int), []⟩, 2)
  else (⟨x.toNat, 0, []⟩, 0)

theorem decF_nxt (f : Nat) (x : UInt8) (r : List UInt8) : Sp.decF (f + 1) (x :: r) = (nxt x r).1 :: Sp.decF f (r.drop (nxt x r).2) := by
  unfold nxt
  simp only [Sp.decF]
  split
  · simp [List.drop_drop]
  · split
    · rfl
    · split <;> rfl

theorem getB_drop (l : List UInt8) (i j : Nat) : Sp.getB l (i + j) = (((l.drop i).getD j 0).toNat : Int) := by
  simp [Sp.getB, List.getD_eq_getElem?_getD, List.getElem?_drop]

theorem bytes_cut (l : List UInt8) (i V : Nat) :
    ((l.map bpv).drop (min (i + 3) l.length)).take (min (min (i + 3) l.length + V) l.length - min (i + 3) l.length) = (((l.drop (i + 1)).drop 2).take V).map bpv := by
  rw [← List.map_drop, ← List.map_take, drop_min, List.drop_drop, show i + 1 + 2 = i + 3 by omega]
  congr 1
  apply take_cut
  simp only [List.length_drop]
  omega

theorem bytes_len (l : List UInt8) (i V : Nat) : min (min (i + 3) l.length + V) l.length - min (i + 3) l.length = (((l.drop (i + 1)).drop 2).take V).length := by
  simp only [List.length_take, List.length_drop]
  omega

theorem flat_snoc (acc : List Act) (a : Act) : acc.flatMap Act.enc ++ Act.enc a = (acc ++ [a]).flatMap Act.enc := by simp

/-- A round's end. -/
theorem end12 (N m : Nat) (l : List UInt8) (acc : List Act) (c : List PV) (a : Act) (i j : Nat) (hc : c = Act.enc a) (hj : i = j) (k : Nat) :
    ass (oldL 0 (acc.flatMap Act.enc ++ c)) (L12b H12 N m (l.map bpv) l.length (i : Int) (acc.flatMap Act.enc ++ c) k) = L12b H12 N m (l.map bpv) l.length (j : Int) ((acc ++ [a]).flatMap Act.enc) k := by
  subst hc hj
  rw [flat_snoc, oldL_flat (Act.old 0)]
  rfl

theorem end12b (N m : Nat) (l : List UInt8) (acc : List Act) (i : Nat) (hi : l.length ≤ i) : L12b H12 N (m + 1) (l.map bpv) l.length (i : Int) (acc.flatMap Act.enc) acc.length = some (.sl (acc.flatMap Act.enc) 3 acc.length none) := by
  rw [t12b]
  have c1 : ¬ (i : Int) < (l.length : Int) := by omega
  have e0 : (acc.flatMap Act.enc).length = acc.length * 3 := flat_length Act.len acc
  have e1 : List.take (acc.length * 3) (acc.flatMap Act.enc) = acc.flatMap Act.enc := List.take_of_length_le (by omega)
  simp only [c1, decide_false, cond_false, List.drop_zero, e1, e0, calm_flat Act.calm acc, oldL_flat (Act.old 0) acc, beq_self_eq_true, Nat.zero_add, Nat.le_refl, decide_true, Bool.and_true, ass_true]
  rfl

/-- One round: an act more, the place moved on. -/
theorem round12 (N m : Nat) (l : List UInt8) (hl : l.length ≤ 3000) (i : Nat) (hi : i < l.length) (acc : List Act) (hacc : acc.length ≤ 1000000) :
    ∃ j : Nat, l.drop j = (l.drop (i + 1)).drop (nxt l[i] (l.drop (i + 1))).2 ∧ i < j ∧
      L12b H12 N (m + 1) (l.map bpv) l.length (i : Int) (acc.flatMap Act.enc) acc.length = L12b H12 N m (l.map bpv) l.length (j : Int) ((acc ++ [(nxt l[i] (l.drop (i + 1))).1]).flatMap Act.enc) (acc.length + 1) := by
  have e0 : (acc.flatMap Act.enc).length = acc.length * 3 := flat_length Act.len acc
  have e1 : List.take (acc.length * 3) (acc.flatMap Act.enc) = acc.flatMap Act.enc := List.take_of_length_le (by omega)
  have w1 : IntKind.i64.wrap ((i : Int) + 1) = ((i + 1 : Nat) : Int) := wrap_succ (by omega)
  have w2 : IntKind.i64.wrap (((i + 1 : Nat) : Int) + 1) = ((i + 2 : Nat) : Int) := wrap_succ (by omega)
  have w3 : IntKind.i64.wrap (((i + 1 : Nat) : Int) + 2) = ((i + 3 : Nat) : Int) := by rw [wrap_in] <;> omega
  have hx := byte_getD hi
  have hxl : l.getD i 0 = l[i] := by rw [List.getD_eq_getElem?_getD, List.getElem?_eq_getElem hi]; rfl
  rw [hxl] at hx
  have hxb := byte_lt l[i]
  have wx : IntKind.i64.wrap ((l[i].toNat : Nat) : Int) = l[i].toNat := wrap_in (by omega) (by omega)
  have g1 := getB_lt l (i + 1)
  have g2 := getB_lt l (i + 2)
  have k1 : Sp.getB l (i + 1) = (((l.drop (i + 1)).getD 0 0).toNat : Int) := getB_drop l (i + 1) 0
  have k2 : Sp.getB l (i + 2) = (((l.drop (i + 1)).getD 1 0).toNat : Int) := getB_drop l (i + 1) 1
  have wg1 : IntKind.i64.wrap (Sp.getB l (i + 1) * 256) = Sp.getB l (i + 1) * 256 := wrap_in (by omega) (by omega)
  have wg2 : IntKind.i64.wrap (Sp.getB l (i + 1) * 256 + Sp.getB l (i + 2)) = Sp.getB l (i + 1) * 256 + Sp.getB l (i + 2) := wrap_in (by omega) (by omega)
  have hb : isBytes l.length (l.map bpv) = true := isBytes_map rfl
  have c1 : ((i : Int) < (l.length : Int)) := by omega
  have c2 : acc.length ≤ 1048576 := by omega
  have c9 : decide ((1 : Nat) ≤ 1048576) = true := rfl
  have tree := t12b (l.map bpv) l.length i (acc.flatMap Act.enc) acc.length N m
  simp only [Nat.mul_one, hx, asI, wx, bytesL_map, w1, w2, w3, Int.toNat_natCast, wg1, wg2, hb, byte_okAt hi, c1, c2, c9, decide_true, Bool.and_true, Bool.true_and, ass_true, cond_true, e1, app_eq, Nat.zero_add, e0, oldL_bytes, beq_self_eq_true, Int.natCast_nonneg, Nat.le_refl, Nat.not_succ_le_self, decide_false, Bool.not_false] at tree
  rw [tree]
  clear tree
  unfold nxt
  have hb1 : ((l[i].toNat : Int) == 1) = decide (l[i].toNat = 1) := by rw [Bool.eq_iff_iff]; simp; omega
  have hb3 : ((l[i].toNat : Int) == 3) = decide (l[i].toNat = 3) := by rw [Bool.eq_iff_iff]; simp; omega
  have hb2 : ((l[i].toNat : Int) == 2) = decide (l[i].toNat = 2) := by rw [Bool.eq_iff_iff]; simp; omega
  have hb4 : ((l[i].toNat : Int) == 4) = decide (l[i].toNat = 4) := by rw [Bool.eq_iff_iff]; simp; omega
  rw [hb1, hb3, hb2, hb4]
  by_cases h1 : l[i].toNat = 1
  · simp only [h1, decide_true, cond_true, true_or, if_true]
    obtain ⟨V, hV⟩ : ∃ V : Nat, V = ((l.drop (i + 1)).getD 0 0).toNat * 256 + ((l.drop (i + 1)).getD 1 0).toNat := ⟨_, rfl⟩
    have hVi : Sp.getB l (i + 1) * 256 + Sp.getB l (i + 2) = (V : Int) := by rw [k1, k2]; omega
    have hS : min ((i + 3 : Nat) : Int) (l.length : Int) = ((min (i + 3) l.length : Nat) : Int) := by omega
    have hw : IntKind.i64.wrap (((min (i + 3) l.length : Nat) : Int) + (V : Int)) = ((min (i + 3) l.length + V : Nat) : Int) := by rw [wrap_in] <;> omega
    have hE : min ((min (i + 3) l.length + V : Nat) : Int) (l.length : Int) = ((min (min (i + 3) l.length + V) l.length : Nat) : Int) := by omega
    have d1 : ((min (min (i + 3) l.length + V) l.length : Nat) : Int) ≤ (l.length : Int) := by omega
    have d2 : ((min (i + 3) l.length : Nat) : Int) ≤ ((min (min (i + 3) l.length + V) l.length : Nat) : Int) := by omega
    simp only [hVi, hS, hw, hE, ← hV, Int.natCast_nonneg, Int.toNat_natCast, d1, d2, decide_true, Bool.and_true, ass_true, bytes_cut]
    refine ⟨min (min (i + 3) l.length + V) l.length, ?_, by omega, ?_⟩
    · rw [drop_min, List.drop_drop]
      by_cases hh : i + 3 ≤ l.length
      · rw [Nat.min_eq_left hh]; congr 1; omega
      · rw [Nat.min_eq_right (by omega), List.drop_of_length_le (by omega), List.drop_of_length_le (by omega)]
    · exact end12 N m l acc _ _ _ _ (by rw [bytes_len]; rfl) rfl _
  · by_cases h3 : l[i].toNat = 3
    · simp only [h3, h1, decide_true, decide_false, cond_true, cond_false, or_true, false_or, if_true]
      obtain ⟨V, hV⟩ : ∃ V : Nat, V = ((l.drop (i + 1)).getD 0 0).toNat * 256 + ((l.drop (i + 1)).getD 1 0).toNat := ⟨_, rfl⟩
      have hVi : Sp.getB l (i + 1) * 256 + Sp.getB l (i + 2) = (V : Int) := by rw [k1, k2]; omega
      have hS : min ((i + 3 : Nat) : Int) (l.length : Int) = ((min (i + 3) l.length : Nat) : Int) := by omega
      have hw : IntKind.i64.wrap (((min (i + 3) l.length : Nat) : Int) + (V : Int)) = ((min (i + 3) l.length + V : Nat) : Int) := by rw [wrap_in] <;> omega
      have hE : min ((min (i + 3) l.length + V : Nat) : Int) (l.length : Int) = ((min (min (i + 3) l.length + V) l.length : Nat) : Int) := by omega
      have d1 : ((min (min (i + 3) l.length + V) l.length : Nat) : Int) ≤ (l.length : Int) := by omega
      have d2 : ((min (i + 3) l.length : Nat) : Int) ≤ ((min (min (i + 3) l.length + V) l.length : Nat) : Int) := by omega
      simp only [hVi, hS, hw, hE, ← hV, Int.natCast_nonneg, Int.toNat_natCast, d1, d2, decide_true, Bool.and_true, ass_true, bytes_cut]
      refine ⟨min (min (i + 3) l.length + V) l.length, ?_, by omega, ?_⟩
      · rw [drop_min, List.drop_drop]
        by_cases hh : i + 3 ≤ l.length
        · rw [Nat.min_eq_left hh]; congr 1; omega
        · rw [Nat.min_eq_right (by omega), List.drop_of_length_le (by omega), List.drop_of_length_le (by omega)]
      · exact end12 N m l acc _ _ _ _ (by rw [bytes_len]; rfl) rfl _
    · have n13 : ¬ (l[i].toNat = 1 ∨ l[i].toNat = 3) := by omega
      have hd0 : (l.drop (i + 1)).getD 0 0 = l.getD (i + 1) 0 := by simp [List.getD_eq_getElem?_getD, List.getElem?_drop]
      have hdd : ∀ q, (l.drop (i + 1)).drop q = l.drop (i + 1 + q) := fun q => by rw [List.drop_drop]
      by_cases h2 : l[i].toNat = 2
      · simp only [h1, h3, h2, decide_true, decide_false, cond_true, cond_false, or_self, if_false, if_true, Nat.reduceEqDiff]
        by_cases hr : i + 1 < l.length
        · have d1 : ((i + 1 : Nat) : Int) < (l.length : Int) := by omega
          have wy : IntKind.i64.wrap ((l.getD (i + 1) 0).toNat : Int) = (l.getD (i + 1) 0).toNat := wrap_in (by omega) (by have := byte_lt (l.getD (i + 1) 0); omega)
          have hlen : 0 < (l.drop (i + 1)).length := by simp; omega
          have hy : (((l.getD (i + 1) 0).toNat : Int) != 255) = decide ((l.getD (i + 1) 0).toNat ≠ 255) := by rw [Bool.eq_iff_iff]; simp; omega
          simp only [d1, byte_okAt hr, byte_getD hr, hy, wy, hd0, hlen, true_and, Int.natCast_nonneg, decide_true, Bool.and_true, ass_true, cond_true]
          by_cases h255 : (l.getD (i + 1) 0).toNat = 255
          · simp only [h255, ne_eq, not_true, decide_false, cond_false, if_false]
            exact ⟨i + 2, by rw [hdd], by omega, end12 N m l acc _ _ _ _ (by rfl) (by rfl) _⟩
          · simp only [h255, ne_eq, not_false_iff, decide_true, cond_true, if_true]
            exact ⟨i + 2, by rw [hdd], by omega, end12 N m l acc _ _ _ _ (by rfl) (by rfl) _⟩
        · have d1 : ¬ ((i + 1 : Nat) : Int) < (l.length : Int) := by omega
          have hlen : ¬ 0 < (l.drop (i + 1)).length := by simp; omega
          simp only [d1, hlen, false_and, decide_false, decide_true, ass_true, cond_false, if_false]
          exact ⟨i + 2, by rw [hdd], by omega, end12 N m l acc _ _ _ _ (by rfl) (by rfl) _⟩
      · by_cases h4 : l[i].toNat = 4
        · simp only [h1, h3, h2, h4, decide_true, decide_false, cond_true, cond_false, or_self, if_false, if_true, Nat.reduceEqDiff, ass_true, Int.natCast_nonneg]
          refine ⟨i + 3, by rw [hdd], by omega, end12 N m l acc _ _ _ _ ?_ rfl _⟩
          rw [k1, k2]
          simp [Act.enc]
        · simp only [h1, h3, h2, h4, decide_true, decide_false, cond_false, or_self, if_false, ass_true]
          exact ⟨i + 1, by rw [hdd], by omega, end12 N m l acc _ _ _ _ (by rfl) (by rfl) _⟩

/-- From any place to the end. -/
theorem loop12 (N : Nat) (l : List UInt8) (hl : l.length ≤ 3000) : ∀ (f i m : Nat) (acc : List Act), l.length - i ≤ f → f < m → acc.length + f ≤ 1000000 →
    L12b H12 N m (l.map bpv) l.length (i : Int) (acc.flatMap Act.enc) acc.length = some (.sl ((acc ++ Sp.decF f (l.drop i)).flatMap Act.enc) 3 (acc ++ Sp.decF f (l.drop i)).length none) := by
  intro f
  induction f with
  | zero =>
    intro i m acc h1 h2 h3
    obtain ⟨m, rfl⟩ : ∃ q, m = q + 1 := ⟨m - 1, by omega⟩
    have hend := end12b N m l acc i (by omega)
    rw [hend]
    simp [Sp.decF]
  | succ f ih =>
    intro i m acc h1 h2 h3
    obtain ⟨m, rfl⟩ : ∃ q, m = q + 1 := ⟨m - 1, by omega⟩
    by_cases hi : i < l.length
    · obtain ⟨j, e1, e2, e3⟩ := round12 N m l hl i hi acc (by omega)
      rw [e3]
      have := ih j m (acc ++ [(nxt l[i] (l.drop (i + 1))).1]) (by omega) (by omega) (by simp; omega)
      rw [List.length_append, List.length_singleton] at this
      rw [this, e1, List.drop_eq_getElem_cons hi, decF_nxt]
      simp
    · rw [end12b N m l acc i (by omega), List.drop_of_length_le (by omega)]
      simp [Sp.decF]

theorem ab12 (N m : Nat) (b : List PV) (n i : Nat) : L12a H12 N (m + 1) b n (i : Int) = L12b H12 N (m + 1) b n (i : Int) [] 0 := by
  rw [t12a, t12b]
  have c1 : decide (0 + 0 + 1 ≤ 0) = false := rfl
  have c2 : ((0 : Nat) == 0 && (decide (0 ≤ 1048576) && (decide (1 ≤ 1048576) && decide (0 + 0 * 3 ≤ ([] : List PV).length)))) = true := rfl
  simp only [c1, c2, Nat.zero_mul, List.take_nil, List.drop_nil, app_eq, List.nil_append, Bool.not_false, ass_true, Nat.zero_add]
  rfl

/-- linkboyref34.Decode -/
theorem run12 {N : Nat} (hN : 3002 ≤ N) (xs : List PV) (v : PV) (h : g11 xs = some (true, v)) : ∃ H, apartS EN T39 H N 0 12 xs = some v := by
  unfold g11 at h
  split at h
  · rename_i b n
    simp only [Option.some.injEq, Prod.mk.injEq, Bool.and_eq_true, decide_eq_true_eq] at h
    obtain ⟨⟨hb, hi⟩, rfl⟩ := h
    obtain ⟨l, rfl, rfl⟩ := isBytes_of hb
    refine ⟨H12, (t12 _ _ N).trans ?_⟩
    obtain ⟨m, rfl⟩ : ∃ q, N = q + 1 := ⟨N - 1, by omega⟩
    have h1 := ab12 (m + 1) m (l.map bpv) l.length 0
    have h2 := loop12 (m + 1) l hi l.length 0 (m + 1) [] (by omega) (by omega) (by simp; omega)
    simp only [Int.ofNat_zero] at h1 h2
    rw [h1]
    refine Eq.trans h2 ?_
    rw [bytesL_map]
    rfl
  · cases h

end Go.Proofs.Ytbnfofcbajaiiaa.Am
