/- Scripts as bytes: what the small functions and the loops answer. -/
import Derived.Test.YtbnfofcbajaiiaaDoorSe2
import Derived.Test.YtbnfofcbajaiiaaDoorSd3
set_option linter.unusedVariables false
set_option linter.unusedSimpArgs false
set_option maxRecDepth 100000
set_option maxHeartbeats 4000000
namespace Go.Proofs.YtbnfofcbajaiiaaDoor.Am

theorem ass_intro {R : Type} {c : Bool} {x : Option R} {v : R} (h : c = true) (k : x = some v) : ass c x = some v := by subst h; exact k

theorem repCells_len (x : PV) : ∀ n, (repCells [x] n).length = n
  | 0 => rfl
  | n + 1 => by
    have := repCells_len x n
    simp only [repCells, List.length_append, List.length_singleton, this]
    omega

theorem wrap8_nat (n : Nat) : PV.int .u8 (IntKind.u8.wrap (n : Int)) = bpv (UInt8.ofNat n) := by
  have h : (UInt8.ofNat n).toNat = n % 256 := by rw [UInt8.toNat_ofNat']
  unfold bpv
  rw [h]
  congr 1

theorem okByte_bpv (b : UInt8) : okByte (bpv b) = true := rfl

theorem oldL_repCells (n : Nat) : ∀ k, oldL n (repCells [PV.int .u8 0] k) = true
  | 0 => rfl
  | k + 1 => by simp only [repCells, oldL_app, oldL_repCells n k, Bool.and_true]; rfl

theorem byte_of_ok {x : PV} (h : okByte x = true) : ∃ n, x = .int .u8 n := by
  cases x <;> try cases h
  rename_i k n
  cases k <;> first | exact ⟨n, rfl⟩ | cases h

theorem oldL_drop (n : Nat) : ∀ (k : Nat) (l : List PV), oldL n l = true → oldL n (l.drop k) = true
  | 0, l, h => h
  | k + 1, [], h => rfl
  | k + 1, x :: l, h => by
    simp only [oldL, Bool.and_eq_true] at h
    exact oldL_drop n k l h.2

theorem oldL_take (n : Nat) : ∀ (k : Nat) (l : List PV), oldL n l = true → oldL n (l.take k) = true
  | 0, l, h => rfl
  | k + 1, [], h => rfl
  | k + 1, x :: l, h => by
    simp only [oldL, Bool.and_eq_true] at h
    simp only [List.take_succ_cons, oldL, Bool.and_eq_true]
    exact ⟨h.1, oldL_take n k l h.2⟩

theorem calm_take : ∀ (k : Nat) (l : List PV), l.all PV.calm = true → (l.take k).all PV.calm = true
  | 0, l, h => rfl
  | k + 1, [], h => rfl
  | k + 1, x :: l, h => by
    simp only [List.all_cons, Bool.and_eq_true] at h
    simp only [List.take_succ_cons, List.all_cons, Bool.and_eq_true]
    exact ⟨h.1, calm_take k l h.2⟩

/-- slices.Concat of three -/
theorem runCat {N : Nat} (hN : 9 ≤ N) (xs : List PV) (v : PV) (h : gCat xs = some (true, v)) : ∃ H, apartS EN T0 H N 5 34 xs = some v := by
  obtain ⟨N, rfl⟩ : ∃ q, N = q + 9 := ⟨N - 9, by omega⟩
  unfold gCat at h
  split at h
  · rename_i x c1 y z c2 b n c3
    simp only [Option.some.injEq, Prod.mk.injEq, Bool.and_eq_true, decide_eq_true_eq] at h
    obtain ⟨⟨hb, hn, hok⟩, rfl⟩ := h
    simp only [List.all_cons, List.all_nil, Bool.and_true, Bool.and_eq_true] at hok
    obtain ⟨x, rfl⟩ := byte_of_ok hok.1
    obtain ⟨y, rfl⟩ := byte_of_ok hok.2.1
    obtain ⟨z, rfl⟩ := byte_of_ok hok.2.2
    obtain ⟨l, rfl, rfl⟩ := isBytes_of hb
    cases l with
    | nil => exact ⟨H0, tc0 N x y z c1 c2 c3⟩
    | cons b0 l =>
      refine ⟨HC, (tc1 N x y z c1 c2 c3 ((b0 :: l).map bpv) l.length).trans ?_⟩
      have hn : l.length + 1 ≤ 100000 := by simpa using hn
      have e0 : slLen (PV.sl ((b0 :: l).map bpv) 1 (l.length + 1) c3) = l.length + 1 := rfl
      have e1 : slCells (PV.sl ((b0 :: l).map bpv) 1 (l.length + 1) c3) = (b0 :: l).map bpv := rfl
      have w0 : IntKind.i64.wrap (0 + 1) = 1 := rfl
      have w1 : IntKind.i64.wrap (1 + 2) = 3 := rfl
      have w : IntKind.i64.wrap (3 + ((l.length + 1 : Nat) : Int)) = ((l.length + 4 : Nat) : Int) := by rw [wrap_in] <;> omega
      have w2 : IntKind.i64.wrap (0 - 0) = 0 := rfl
      have w3 : IntKind.i64.wrap (((l.length + 4 : Nat) : Int) - 0) = ((l.length + 4 : Nat) : Int) := by rw [wrap_in] <;> omega
      have eb : ((b0 :: l).map bpv).length = l.length + 1 := by simp
      have o1 : ∀ k, oldL k [PV.sl [PV.int .u8 x] 1 1 c1, PV.sl [PV.int .u8 y, PV.int .u8 z] 1 2 c2, PV.sl ((b0 :: l).map bpv) 1 (l.length + 1) c3] = true := fun k => by
        simp only [oldL, oldV, oldL_bytes, Bool.and_true, Bool.true_and]
      generalize hR : repCells [PV.int .u8 0] (l.length + 4) = R
      have hRl : R.length = l.length + 4 := by rw [← hR, repCells_len]
      have hRo : oldL 0 R = true := by rw [← hR]; exact oldL_repCells 0 _
      have ho1 : oldL 0 (List.drop 1 R) = true := oldL_drop 0 1 _ hRo
      have ho3 : oldL 0 (List.drop 3 (PV.int .u8 x :: List.drop 1 R)) = true := oldL_drop 0 3 _ (by simp only [oldL, oldV, ho1, Bool.and_true])
      have hcm := calm_bytes (b0 :: l)
      have hd : List.drop (3 + (l.length + 1)) (PV.int .u8 x :: PV.int .u8 y :: PV.int .u8 z :: List.drop 3 (PV.int .u8 x :: List.drop 1 R)) = [] := by
        apply List.drop_of_length_le
        simp only [List.length_cons, List.length_drop, hRl]
        omega
      have ht : ∀ k, 2 + (l.length + 1) ≤ k → List.take k (PV.int .u8 y :: PV.int .u8 z :: (b0 :: l).map bpv) = PV.int .u8 y :: PV.int .u8 z :: (b0 :: l).map bpv := fun k hk => by
        apply List.take_of_length_le
        simp only [List.length_cons, eb]
        omega
      simp only [e0, e1, w0, w1, w, w2, w3, Int.toNat_natCast, hR, o1, hd, app_eq, List.append_nil, eb, hRl]
      have ht' := ht (Nat.add 0 (Nat.add 3 l.length)) (by show 2 + (l.length + 1) ≤ 0 + (3 + l.length); omega)
      simp only [ht']
      repeat (refine ass_intro (by first
        | (simp only [eq_self]; done)
        | (simp only [oldL, oldV, oldL_bytes, ho1, ho3, Bool.and_true, Bool.true_and]; done)
        | (simp only [List.length_cons, List.length_drop, eb, hRl, hcm, List.all_cons, PV.calm, beq_self_eq_true, Bool.and_true, Bool.true_and, Bool.and_eq_true, decide_eq_true_eq] <;> omega)
        | (simp [List.length_cons, eb, hRl] <;> omega)) ?_)
      rfl
  · cases h

theorem wrap8_of {x : Int} {n : Nat} (h : x = (n : Int)) : PV.int .u8 (IntKind.u8.wrap x) = bpv (UInt8.ofNat n) := by rw [h, wrap8_nat]

theorem fdiv8 (n : Nat) : ((n : Int)).fdiv (2 ^ 8) = ((n / 256 : Nat) : Int) := by
  rw [Int.fdiv_eq_ediv_of_nonneg _ (by decide)]
  rfl

theorem mod8 (n : Nat) : UInt8.ofNat n = UInt8.ofNat (n % 256) := by
  apply UInt8.toNat_inj.1
  simp [UInt8.toNat_ofNat']

theorem bpv3 (a b c : UInt8) (l : List UInt8) : (bpv a :: bpv b :: bpv c :: l.map bpv) = (a :: b :: c :: l).map bpv := rfl

/-- script.entry -/
theorem ent_val (N : Nat) (k m : Int) (l : List UInt8) (hl : l.length ≤ 100000) :
    apartS EN TCat H0 N 5 24 [.agg [.int .i64 k, .int .i64 m, .sl (l.map bpv) 1 l.length none]] =
      some (if Sp.entE k m l.length = 0 then .tup [.sl ((Sp.entB k m l).map bpv) 1 (Sp.entB k m l).length none, .nilif] else .tup [.sl [] 1 0 none, errV (Sp.entE k m l.length - 1)]) := by
  rw [te]
  have hb : isBytes l.length (l.map bpv) = true := isBytes_map rfl
  have o1 : ∀ q, oldL q (l.map bpv) = true := fun q => oldL_bytes q l
  have e1 : PV.int .u8 (IntKind.u8.wrap ((l.length : Int).fdiv (2 ^ 8))) = bpv (UInt8.ofNat (l.length / 256)) := wrap8_of (fdiv8 _)
  have e2 : PV.int .u8 (IntKind.u8.wrap (l.length : Int)) = bpv (UInt8.ofNat (l.length % 256)) := by rw [wrap8_nat, mod8]
  have key : k = 1 ∨ k = 3 → ass (oldL 1 (l.map bpv)) (ass (oldL 1 (l.map bpv)) (ass (oldL 0 [PV.sl [PV.int IntKind.u8 (IntKind.u8.wrap k)] 1 1 (some 1), PV.sl [PV.int IntKind.u8 (IntKind.u8.wrap ((l.length : Int).fdiv (2 ^ 8))), PV.int IntKind.u8 (IntKind.u8.wrap (l.length : Int))] 1 2 (some 2), PV.sl (l.map bpv) 1 l.length none])
      (ass (isBytes l.length (l.map bpv) && (decide (l.length ≤ 100000) && [PV.int IntKind.u8 (IntKind.u8.wrap k), PV.int IntKind.u8 (IntKind.u8.wrap ((l.length : Int).fdiv (2 ^ 8))), PV.int IntKind.u8 (IntKind.u8.wrap (l.length : Int))].all okByte))
      (ass (oldL 0 (PV.int IntKind.u8 (IntKind.u8.wrap k) :: PV.int IntKind.u8 (IntKind.u8.wrap ((l.length : Int).fdiv (2 ^ 8))) :: PV.int IntKind.u8 (IntKind.u8.wrap (l.length : Int)) :: l.map bpv))
        (some (PV.tup [PV.sl (PV.int IntKind.u8 (IntKind.u8.wrap k) :: PV.int IntKind.u8 (IntKind.u8.wrap ((l.length : Int).fdiv (2 ^ 8))) :: PV.int IntKind.u8 (IntKind.u8.wrap (l.length : Int)) :: l.map bpv) 1 (3 + l.length) none, PV.nilif])))))) =
      some (.tup [.sl ((UInt8.ofNat k.toNat :: UInt8.ofNat (l.length / 256) :: UInt8.ofNat (l.length % 256) :: l).map bpv) 1 (UInt8.ofNat k.toNat :: UInt8.ofNat (l.length / 256) :: UInt8.ofNat (l.length % 256) :: l).length none, .nilif]) := by
    intro hk
    have e3 : PV.int .u8 (IntKind.u8.wrap k) = bpv (UInt8.ofNat k.toNat) := wrap8_of (by omega)
    rw [e1, e2, e3]
    repeat (refine ass_intro (by first
      | (simp only [oldL, oldV, o1, bpv, Bool.and_true, Bool.true_and]; done)
      | (simp [hb, hl, okByte_bpv]; done)) ?_)
    congr 4
    simp only [List.length_cons]
    omega
  have hn : decide ((l.length : Int) > 65535) = decide (l.length > 65535) := by rw [Bool.eq_iff_iff]; simp; omega
  rw [hn]
  by_cases h1 : k = 1
  · rw [show (k == 1) = true by simp [h1]]
    by_cases h2 : l.length > 65535
    · simp [Sp.entE, h1, h2, errV]
    · simp only [h2, decide_false, cond_true, cond_false]
      rw [key (.inl h1)]
      simp [Sp.entE, Sp.entB, h1, h2]
  rw [show (k == 1) = false by simp [h1]]
  by_cases h3 : k = 3
  · rw [show (k == 3) = true by simp [h3]]
    by_cases h2 : l.length > 65535
    · simp [Sp.entE, h3, h2, errV]
    · simp only [h2, decide_false, cond_true, cond_false]
      rw [key (.inr h3)]
      simp [Sp.entE, Sp.entB, h3, h2]
  rw [show (k == 3) = false by simp [h3]]
  by_cases h2 : k = 2
  · rw [show (k == 2) = true by simp [h2]]
    have e3 : PV.int .u8 (IntKind.u8.wrap k) = bpv 2 := wrap8_of (n := 2) (by omega)
    rw [e3]
    by_cases q1 : m < 0
    · simp [Sp.entE, Sp.entB, h2, q1, bpv]
    · by_cases q2 : m ≥ 255
      · simp [Sp.entE, Sp.entB, h2, q1, q2, bpv]
      · have e4 : PV.int .u8 (IntKind.u8.wrap m) = bpv (UInt8.ofNat m.toNat) := wrap8_of (by omega)
        rw [e4]
        simp [Sp.entE, Sp.entB, h2, q1, q2]
  rw [show (k == 2) = false by simp [h2]]
  by_cases h4 : k = 4
  · rw [show (k == 4) = true by simp [h4]]
    by_cases q1 : m < 0
    · simp [Sp.entE, h4, q1, errV]
    · by_cases q2 : m > 65535
      · simp [Sp.entE, h4, q1, q2, errV]
      · have e3 : PV.int .u8 (IntKind.u8.wrap k) = bpv 4 := wrap8_of (n := 4) (by omega)
        have em : m = (m.toNat : Int) := by omega
        have e4 : PV.int .u8 (IntKind.u8.wrap (m.fdiv (2 ^ 8))) = bpv (UInt8.ofNat (m.toNat / 256)) := wrap8_of (by rw [em, fdiv8]; simp)
        have e5 : PV.int .u8 (IntKind.u8.wrap m) = bpv (UInt8.ofNat (m.toNat % 256)) := by rw [wrap8_of em, mod8]
        rw [e3, e4, e5]
        simp [Sp.entE, Sp.entB, h4, q1, q2]
  rw [show (k == 4) = false by simp [h4]]
  by_cases h5 : k = 5
  · have e3 : PV.int .u8 (IntKind.u8.wrap k) = bpv (UInt8.ofNat k.toNat) := wrap8_of (by omega)
    rw [show (k == 5) = true by simp [h5], e3]
    simp [Sp.entE, Sp.entB, h5]
  rw [show (k == 5) = false by simp [h5]]
  by_cases h6 : k = 6
  · have e3 : PV.int .u8 (IntKind.u8.wrap k) = bpv (UInt8.ofNat k.toNat) := wrap8_of (by omega)
    rw [show (k == 6) = true by simp [h6], e3]
    simp [Sp.entE, Sp.entB, h6]
  rw [show (k == 6) = false by simp [h6]]
  simp [Sp.entE, h1, h2, h3, h4, h5, h6, errV]

theorem runEnt {N : Nat} (xs : List PV) (t : Tr) (v : PV) (h : gEnt xs = some t) (hv : t.val = some v) : ∃ H, apartS EN TCat H N 5 24 xs = some v := by
  unfold gEnt at h
  split at h
  · rename_i k m b n
    cases h
    have hc : (isBytes n b && decide (n ≤ 100000)) = true := by
      cases hc : (isBytes n b && decide (n ≤ 100000)) with
      | true => rfl
      | false =>
        simp only [Tr.val, hc] at hv
        cases hq : Nat.beq (Sp.entE k m n) 0 <;> rw [hq] at hv <;> cases hv
    simp only [Bool.and_eq_true, decide_eq_true_eq] at hc
    obtain ⟨l, rfl, rfl⟩ := isBytes_of hc.1
    refine ⟨H0, (ent_val N k m l hc.2).trans ?_⟩
    rw [← hv]
    have hb : isBytes l.length (l.map bpv) = true := isBytes_map rfl
    simp only [Tr.val, hb, hc.2, decide_true, Bool.and_true, cond_true]
    by_cases he : Sp.entE k m l.length = 0
    · rw [if_pos he, he]
      simp only [Sp.entC, Sp.entL, bytesL_map]
      rfl
    · have : Nat.beq (Sp.entE k m l.length) 0 = false := by
        cases hq : Nat.beq (Sp.entE k m l.length) 0 with
        | false => rfl
        | true => exact absurd (Nat.eq_of_beq_eq_true hq) he
      rw [if_neg he, this]
      rfl
  · cases h

end Go.Proofs.YtbnfofcbajaiiaaDoor.Am
