/- ScriptEncodes: acts decoded behind being encoded; the law at every row of acts. -/
import Derived.Test.YtbnfofcbajaiiaaDoorSe6
set_option linter.unusedVariables false
set_option linter.unusedSimpArgs false
set_option maxRecDepth 100000
set_option maxHeartbeats 8000000
namespace Go.Proofs.YtbnfofcbajaiiaaDoor.Am

/-- An act, but for what its kind doesn't use. -/
def norm (a : Act) : Act := ⟨a.kind, if a.kind = 2 then (if a.n < 0 ∨ a.n > 254 then -1 else a.n) else if a.kind = 4 then a.n else 0, if a.kind = 1 ∨ a.kind = 3 then a.bytes else []⟩

theorem kind_of {k m : Int} {n : Nat} (h : Sp.entE k m n = 0) : k = 1 ∨ k = 2 ∨ k = 3 ∨ k = 4 ∨ k = 5 ∨ k = 6 := by
  unfold Sp.entE at h
  split at h
  · rcases ‹k = 1 ∨ k = 3› with h | h <;> omega
  · split at h
    · omega
    · split at h
      · omega
      · split at h
        · rcases ‹k = 5 ∨ k = 6› with h | h <;> omega
        · omega

theorem ofNat_lt {n : Nat} (h : n < 256) : (UInt8.ofNat n).toNat = n := by rw [UInt8.toNat_ofNat']; omega

theorem nxt_ent (a : Act) (he : Sp.entE a.kind a.n a.bytes.length = 0) (hb : a.bytes.length ≤ 1300) (r : List UInt8) :
    ∃ x R, Sp.entB a.kind a.n a.bytes ++ r = x :: R ∧ (nxt x R).1 = norm a ∧ R.drop (nxt x R).2 = r := by
  obtain ⟨k, m, bs⟩ := a
  simp only at he hb ⊢
  have h1 : (UInt8.ofNat (bs.length / 256)).toNat = bs.length / 256 := ofNat_lt (by omega)
  have h2 : (UInt8.ofNat (bs.length % 256)).toNat = bs.length % 256 := ofNat_lt (by omega)
  have h3 : bs.length / 256 * 256 + bs.length % 256 = bs.length := by omega
  rcases kind_of he with rfl | rfl | rfl | rfl | rfl | rfl
  · refine ⟨1, UInt8.ofNat (bs.length / 256) :: UInt8.ofNat (bs.length % 256) :: (bs ++ r), rfl, ?_, ?_⟩
    · simp [nxt, norm, h1, h2, h3]
    · simp [nxt, h1, h2, h3, Nat.add_comm 2]
  · by_cases hq : m < 0 ∨ m ≥ 255
    · refine ⟨2, 255 :: r, by simp [Sp.entB, hq], ?_, ?_⟩
      · have : (m < 0 ∨ m > 254) := by omega
        simp [nxt, norm, this]
      · simp [nxt]
    · refine ⟨2, UInt8.ofNat m.toNat :: r, by simp [Sp.entB, hq], ?_, ?_⟩
      · have h4 : ¬ (m < 0 ∨ m > 254) := by omega
        have h5 : (UInt8.ofNat m.toNat).toNat = m.toNat := ofNat_lt (by omega)
        have h6 : m.toNat ≠ 255 := by omega
        have h7 : (m.toNat : Int) = m := by omega
        simp [nxt, norm, h4, h5, h6, h7]
      · simp [nxt]
  · refine ⟨3, UInt8.ofNat (bs.length / 256) :: UInt8.ofNat (bs.length % 256) :: (bs ++ r), rfl, ?_, ?_⟩
    · simp [nxt, norm, h1, h2, h3]
    · simp [nxt, h1, h2, h3, Nat.add_comm 2]
  · have hq : ¬ (m < 0 ∨ m > 65535) := fun hq => by simp [Sp.entE, hq] at he
    have h4 : (UInt8.ofNat (m.toNat / 256)).toNat = m.toNat / 256 := ofNat_lt (by omega)
    have h5 : (UInt8.ofNat (m.toNat % 256)).toNat = m.toNat % 256 := ofNat_lt (by omega)
    have h6 : ((m.toNat / 256 * 256 + m.toNat % 256 : Nat) : Int) = m := by omega
    refine ⟨4, UInt8.ofNat (m.toNat / 256) :: UInt8.ofNat (m.toNat % 256) :: r, rfl, ?_, ?_⟩
    · simp only [nxt, norm]
      simp [h4, h5]
      omega
    · simp [nxt]
  · exact ⟨5, r, rfl, rfl, rfl⟩
  · exact ⟨6, r, rfl, rfl, rfl⟩

theorem encE_zero {a : Act} {r : List Act} (h : Sp.encE (a :: r) = 0) : Sp.entE a.kind a.n a.bytes.length = 0 ∧ Sp.encE r = 0 := by
  rw [encE_cons] at h
  by_cases he : Sp.entE a.kind a.n a.bytes.length = 0
  · rw [if_pos he] at h; exact ⟨he, h⟩
  · rw [if_neg he] at h; exact absurd h he

theorem encE_all : ∀ (l : List Act), Sp.encE l = 0 → ∀ a ∈ l, Sp.entE a.kind a.n a.bytes.length = 0
  | [], _, a, ha => by cases ha
  | x :: l, h, a, ha => by
    obtain ⟨h1, h2⟩ := encE_zero h
    rcases List.mem_cons.1 ha with rfl | ha
    · exact h1
    · exact encE_all l h2 a ha

theorem dec_encF : ∀ (l : List Act) (f : Nat), Sp.encE l = 0 → (∀ a ∈ l, a.bytes.length ≤ 1300) → (Sp.encL l).length ≤ f → Sp.decF f (Sp.encL l) = l.map norm
  | [], f, _, _, _ => by cases f <;> rfl
  | a :: l, f, h, hb, hf => by
    obtain ⟨h1, h2⟩ := encE_zero h
    obtain ⟨x, R, e1, e2, e3⟩ := nxt_ent a h1 (hb a (by simp)) (Sp.encL l)
    have hp := (entB_len a.kind a.n a.bytes).1
    rw [encL_cons, List.length_append] at hf
    obtain ⟨f, rfl⟩ : ∃ q, f = q + 1 := ⟨f - 1, by omega⟩
    rw [encL_cons, e1, decF_nxt, e2, e3, dec_encF l f h2 (fun a ha => hb a (by simp [ha])) (by omega)]
    rfl

theorem dec_enc (l : List Act) (h : Sp.encE l = 0) (hb : ∀ a ∈ l, a.bytes.length ≤ 1300) : Sp.dec (Sp.encL l) = l.map norm := dec_encF l _ h hb (Nat.le_refl _)

theorem encL_len : ∀ (l : List Act), (∀ a ∈ l, a.bytes.length ≤ 1300) → (Sp.encL l).length ≤ 1303 * l.length
  | [], _ => by simp [Sp.encL]
  | a :: l, hb => by
    have h1 := (entB_len a.kind a.n a.bytes).2
    have h2 := hb a (by simp)
    have h3 := encL_len l fun a ha => hb a (by simp [ha])
    rw [encL_cons, List.length_append, List.length_cons]
    omega

theorem sameA_refl (k m : Int) (l : List UInt8) : Sp.sameA k m (l.map bpv) k m (l.map bpv) = true := by simp [Sp.sameA, bytesL_map]
theorem sameA_nil (k m : Int) : Sp.sameA k m [] k m [] = true := by simp [Sp.sameA]
theorem sameA_seven {k m m' : Int} {b b' : List PV} (h : (k == 7) = false) : Sp.sameA k m b 7 m' b' = false := by simp [Sp.sameA, h]

theorem round3 (N m : Nat) (l : List Act) (hl : l.length ≤ 30) (i : Nat) (hi : i < l.length) (he : Sp.entE l[i].kind l[i].n l[i].bytes.length = 0) (B : List UInt8) (bn : Nat) (s : List UInt8) (e : Bool) :
    L3 H3 N (m + 1) (l.flatMap Act.enc) l.length (B.map bpv) bn s e ((l.map norm).flatMap Act.enc) l.length (i : Int) = L3 H3 N m (l.flatMap Act.enc) l.length (B.map bpv) bn s e ((l.map norm).flatMap Act.enc) l.length ((i + 1 : Nat) : Int) := by
  obtain ⟨h1, h2, h3⟩ := act_cells hi
  have hi' : i < (l.map norm).length := by simpa using hi
  obtain ⟨g1, g2, g3⟩ := act_cells hi'
  simp only [List.getElem_map] at g1 g2 g3
  have e3 : IntKind.i64.wrap ((i : Int) + 1) = ((i + 1 : Nat) : Int) := wrap_succ (by omega)
  have c1 : ((i : Int) < (l.length : Int)) := by omega
  have oN := okAt_act hi'
  have tree := t3r N m (l.flatMap Act.enc) l.length (B.map bpv) bn s e ((l.map norm).flatMap Act.enc) l.length i
  simp only [h1, h2, h3, g1, g2, g3, asI, slCells, slLen, c1, oldL_flat (Act.old 0), okAt_act hi, oN, oldL_bytes, Int.natCast_nonneg, decide_true, Bool.and_true, cond_true, e3] at tree
  rw [tree]
  clear tree
  generalize hX : L3 H3 N m (l.flatMap Act.enc) l.length (B.map bpv) bn s e ((l.map norm).flatMap Act.enc) l.length ((i + 1 : Nat) : Int) = X
  generalize l[i] = a at he ⊢
  obtain ⟨k, q, bs⟩ := a
  simp only at he ⊢
  have b0 : isBytes 0 [] = true := isBytes_map (l := []) rfl
  have bb : ∀ x : List UInt8, isBytes x.length (x.map bpv) = true := fun x => isBytes_map rfl
  rcases kind_of he with rfl | rfl | rfl | rfl | rfl | rfl
  · have hn : norm ⟨1, q, bs⟩ = ⟨1, 0, bs⟩ := by simp [norm]
    simp only [hn, Int.reduceLT, Int.reduceGT, Int.reduceBEq, Int.reduceBNe, Int.reduceLE, Int.reduceGE, Int.reduceNe, decide_false, decide_true, cond_true, cond_false, Bool.not_true, Bool.not_false, List.map_nil, List.length_nil]
    repeat (refine Eq.trans (ass_of (by first
      | (simp only [eq_self]; done)
      | (simp only [b0, bb, Bool.and_true]; done)
      | (simp only [sameA_refl, sameA_nil, sameA_seven, Int.reduceBEq, Bool.not_false, Bool.not_true]; done))) ?_)
    rfl
  · by_cases q1 : q < 0
    · have hn : norm ⟨2, q, bs⟩ = ⟨2, -1, []⟩ := by simp [norm, q1]
      simp only [hn, q1, Int.reduceLT, Int.reduceGT, Int.reduceBEq, Int.reduceBNe, Int.reduceLE, Int.reduceGE, Int.reduceNe, decide_false, decide_true, cond_true, cond_false, Bool.not_true, Bool.not_false, List.map_nil, List.length_nil]
      repeat (refine Eq.trans (ass_of (by first
        | (simp only [eq_self]; done)
        | (simp only [b0, bb, Bool.and_true]; done)
        | (simp only [sameA_refl, sameA_nil, sameA_seven, Int.reduceBEq, Bool.not_false, Bool.not_true]; done))) ?_)
      rfl
    · by_cases q2 : q > 254
      · have hn : norm ⟨2, q, bs⟩ = ⟨2, -1, []⟩ := by simp [norm, q2]
        simp only [hn, q1, q2, Int.reduceLT, Int.reduceGT, Int.reduceBEq, Int.reduceBNe, Int.reduceLE, Int.reduceGE, Int.reduceNe, decide_false, decide_true, cond_true, cond_false, Bool.not_true, Bool.not_false, List.map_nil, List.length_nil]
        repeat (refine Eq.trans (ass_of (by first
          | (simp only [eq_self]; done)
          | (simp only [b0, bb, Bool.and_true]; done)
          | (simp only [sameA_refl, sameA_nil, sameA_seven, Int.reduceBEq, Bool.not_false, Bool.not_true]; done))) ?_)
        rfl
      · have hn : norm ⟨2, q, bs⟩ = ⟨2, q, []⟩ := by simp [norm, q1, q2]
        simp only [hn, q1, q2, Int.reduceLT, Int.reduceGT, Int.reduceBEq, Int.reduceBNe, Int.reduceLE, Int.reduceGE, Int.reduceNe, decide_false, decide_true, cond_true, cond_false, Bool.not_true, Bool.not_false, List.map_nil, List.length_nil]
        repeat (refine Eq.trans (ass_of (by first
          | (simp only [eq_self]; done)
          | (simp only [b0, bb, Bool.and_true]; done)
          | (simp only [sameA_refl, sameA_nil, sameA_seven, Int.reduceBEq, Bool.not_false, Bool.not_true]; done))) ?_)
        rfl
  · have hn : norm ⟨3, q, bs⟩ = ⟨3, 0, bs⟩ := by simp [norm]
    simp only [hn, Int.reduceLT, Int.reduceGT, Int.reduceBEq, Int.reduceBNe, Int.reduceLE, Int.reduceGE, Int.reduceNe, decide_false, decide_true, cond_true, cond_false, Bool.not_true, Bool.not_false, List.map_nil, List.length_nil]
    repeat (refine Eq.trans (ass_of (by first
      | (simp only [eq_self]; done)
      | (simp only [b0, bb, Bool.and_true]; done)
      | (simp only [sameA_refl, sameA_nil, sameA_seven, Int.reduceBEq, Bool.not_false, Bool.not_true]; done))) ?_)
    rfl
  · have hn : norm ⟨4, q, bs⟩ = ⟨4, q, []⟩ := by simp [norm]
    simp only [hn, Int.reduceLT, Int.reduceGT, Int.reduceBEq, Int.reduceBNe, Int.reduceLE, Int.reduceGE, Int.reduceNe, decide_false, decide_true, cond_true, cond_false, Bool.not_true, Bool.not_false, List.map_nil, List.length_nil]
    repeat (refine Eq.trans (ass_of (by first
      | (simp only [eq_self]; done)
      | (simp only [b0, bb, Bool.and_true]; done)
      | (simp only [sameA_refl, sameA_nil, sameA_seven, Int.reduceBEq, Bool.not_false, Bool.not_true]; done))) ?_)
    rfl
  · have hn : norm ⟨5, q, bs⟩ = ⟨5, 0, []⟩ := by simp [norm]
    simp only [hn, Int.reduceLT, Int.reduceGT, Int.reduceBEq, Int.reduceBNe, Int.reduceLE, Int.reduceGE, Int.reduceNe, decide_false, decide_true, cond_true, cond_false, Bool.not_true, Bool.not_false, List.map_nil, List.length_nil]
    repeat (refine Eq.trans (ass_of (by first
      | (simp only [eq_self]; done)
      | (simp only [b0, bb, Bool.and_true]; done)
      | (simp only [sameA_refl, sameA_nil, sameA_seven, Int.reduceBEq, Bool.not_false, Bool.not_true]; done))) ?_)
    rfl
  · have hn : norm ⟨6, q, bs⟩ = ⟨6, 0, []⟩ := by simp [norm]
    simp only [hn, Int.reduceLT, Int.reduceGT, Int.reduceBEq, Int.reduceBNe, Int.reduceLE, Int.reduceGE, Int.reduceNe, decide_false, decide_true, cond_true, cond_false, Bool.not_true, Bool.not_false, List.map_nil, List.length_nil]
    repeat (refine Eq.trans (ass_of (by first
      | (simp only [eq_self]; done)
      | (simp only [b0, bb, Bool.and_true]; done)
      | (simp only [sameA_refl, sameA_nil, sameA_seven, Int.reduceBEq, Bool.not_false, Bool.not_true]; done))) ?_)
    rfl

theorem loop3 (N : Nat) (l : List Act) (hl : l.length ≤ 30) (he : Sp.encE l = 0) (B : List UInt8) (bn : Nat) (s : List UInt8) (e : Bool) : ∀ (k i m : Nat), i + k = l.length → k < m →
    L3 H3 N m (l.flatMap Act.enc) l.length (B.map bpv) bn s e ((l.map norm).flatMap Act.enc) l.length (i : Int) = some (.bool true)
  | 0, i, m, h, hm => by
    obtain ⟨m, rfl⟩ : ∃ q, m = q + 1 := ⟨m - 1, by omega⟩
    have hi : i = l.length := by omega
    subst hi
    rw [t3r]
    simp only [Int.lt_irrefl, decide_false, cond_false]
  | k + 1, i, m, h, hm => by
    obtain ⟨m, rfl⟩ : ∃ q, m = q + 1 := ⟨m - 1, by omega⟩
    have hi : i < l.length := by omega
    rw [round3 N m l hl i hi (encE_all l he _ (List.getElem_mem hi)) B bn s e]
    exact loop3 N l hl he B bn s e k (i + 1) m (by omega) (by omega)

theorem encE_le : ∀ (l : List Act), Sp.encE l ≤ 7
  | [] => by simp [Sp.encE]
  | a :: l => by
    have ih := encE_le l
    rw [encE_cons]
    split
    · exact ih
    · unfold Sp.entE
      repeat (first | omega | split)

/-- The law at every row of acts. -/
theorem holds3 (N : Nat) (hN : 40 ≤ N) (l : List Act) : apartS EN TAll H3 N 5 3 [.sl (l.flatMap Act.enc) 3 l.length none] = some (.bool true) := by
  rw [t3]
  have o1 : oldL 0 (l.flatMap Act.enc) = true := oldL_flat (Act.old 0) l
  have ok : Sp.okActs l.length (l.flatMap Act.enc) = true := okActs_flat rfl
  have hlong : Sp.long l.length (l.flatMap Act.enc) 30 = (decide ((l.length : Int) > 30) || l.any fun a => decide (a.bytes.length > 1300)) := by unfold Sp.long; rw [acts_flat]
  refine ass_intro o1 (ass_intro (by rw [ok]; by_cases hlen : l.length ≤ 1000000 <;> simp [hlen] <;> omega) ?_)
  rw [hlong]
  cases hq : (decide ((l.length : Int) > 30) || l.any fun a => decide (a.bytes.length > 1300)) with
  | true => rfl
  | false =>
    simp only [Bool.or_eq_false_iff, decide_eq_false_iff_not] at hq
    have h30 : l.length ≤ 30 := by omega
    have hlen : l.length ≤ 1000000 := by omega
    have hb : ∀ a ∈ l, a.bytes.length ≤ 1300 := fun a ha => by
      have := List.any_eq_false.1 hq.2 a ha
      simpa using this
    have hs : Sp.short l.length (l.flatMap Act.enc) = true := by
      unfold Sp.short
      rw [acts_flat, ok]
      simp only [h30, decide_true, Bool.true_and]
      exact List.all_eq_true.2 fun a ha => decide_eq_true (hb a ha)
    have eE : Sp.errOf (l.flatMap Act.enc) = Sp.encE l := by unfold Sp.errOf; rw [acts_flat]
    have eC : Sp.encC (l.flatMap Act.enc) = (Sp.encL l).map bpv := by unfold Sp.encC; rw [acts_flat]
    have eN : Sp.encN (l.flatMap Act.enc) = (Sp.encL l).length := by unfold Sp.encN; rw [acts_flat]
    have hlen2 := encL_len l hb
    simp only [cond_false]
    refine ass_intro o1 ?_
    rw [eE]
    simp only [beq0, eC, eN, bytesL_map]
    by_cases he : Sp.encE l = 0
    · have hd := dec_enc l he hb
      have eD : Sp.decC (Sp.encL l) = (l.map norm).flatMap Act.enc := by unfold Sp.decC; rw [hd]
      have eDn : Sp.decN (Sp.encL l) = l.length := by unfold Sp.decN; rw [hd, List.length_map]
      simp only [he, decide_true, cond_true, eD, eDn]
      refine ass_intro hs (ass_intro o1 (ass_intro (by simp only [ok, hlen, decide_true, Bool.and_true]) (ass_intro o1 (ass_intro hs ?_))))
      have hbB : ((Sp.encL l).map bpv).length == (Sp.encL l).length && ((Sp.encL l).map bpv).all okByte := by simp only [List.length_map, beq_self_eq_true, okByte_map, Bool.and_true]
      refine ass_intro hbB (ass_intro hbB ?_)
      simp only [beq_self_eq_true, Bool.not_true, cond_false]
      refine ass_intro (oldL_bytes 0 _) (ass_intro (by rw [isBytes_map rfl]; simp; omega) ?_)
      simp only [bne_self_eq_false, cond_false]
      exact loop3 N l h30 he (Sp.encL l) _ _ _ l.length 0 N (by omega) (by omega)
    · simp only [he, decide_false, cond_false]
      refine ass_intro hs (ass_intro o1 (ass_intro (by simp only [ok, hlen, decide_true, Bool.and_true]) (ass_intro o1 (ass_intro hs ?_))))
      have h7 := encE_le l
      have hb2 : (Sp.encE l - 1).blt 18 = true := by
        show Nat.ble (Sp.encE l - 1 + 1) 18 = true
        rw [Nat.ble_eq]
        omega
      refine ass_intro (by rw [hb2]; rfl) ?_
      have e1 : (((Sp.encE l - 1 : Nat) : Int) + 1 != (Sp.encE l : Int)) = false := by
        have : ((Sp.encE l - 1 : Nat) : Int) + 1 = (Sp.encE l : Int) := by omega
        rw [this]
        exact bne_self_eq_false _
      have e2 : ((Sp.encE l : Int) != 0) = true := by
        simp only [bne_iff_ne, ne_eq]
        omega
      rw [e1, e2]
      rfl

end Go.Proofs.YtbnfofcbajaiiaaDoor.Am
