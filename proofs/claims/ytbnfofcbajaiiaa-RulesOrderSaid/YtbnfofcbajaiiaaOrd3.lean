/- RulesOrder: the table of calls is what the interpreter answers. -/
import Derived.Test.YtbnfofcbajaiiaaOrd2
set_option linter.unusedVariables false
set_option linter.unusedSimpArgs false
set_option maxRecDepth 100000
namespace Go.Proofs.Ytbnfofcbajaiiaa.Am

theorem on2_ok {A : Type} {f : PV → Option A} {k : A → A → PV} {args : List PV} {v : PV} (h : on2 f k args = some v) : ∃ x y a b, args = [x, y] ∧ f x = some a ∧ f y = some b ∧ v = k a b := by
  unfold on2 two at h
  split at h
  · rename_i a b hh
    split at hh
    · rename_i x y
      split at hh
      · rename_i a' b' h1 h2
        cases hh
        cases h
        exact ⟨x, y, a, b, rfl, h1, h2, rfl⟩
      · cases hh
    · cases hh
  · cases h

theorem asI_ok {p : PV} {n : Int} (h : asI p = some n) : p = vi n := by
  unfold asI at h; split at h <;> cases h; rfl
theorem asS_ok {p : PV} {n : List UInt8} (h : asS p = some n) : p = .str n := by
  unfold asS at h; split at h <;> cases h; rfl
theorem asB_ok {p : PV} {n : Bool} (h : asB p = some n) : p = .bool n := by
  unfold asB at h; split at h <;> cases h; rfl

theorem ints_ok : ∀ (cs : List PV) (l : List Int), ints cs = some l → cs = l.map vi
  | [], l, h => by cases h; rfl
  | c :: cs, l, h => by
    unfold ints at h
    split at h
    · rename_i heq; cases heq
    · rename_i n rest heq
      cases heq
      split at h
      · rename_i l' hl
        cases h
        rw [ints_ok cs l' hl]
        rfl
      · cases h
    · cases h

theorem cmpT (p q : Bool) : (bif p then some (vi (-1)) else bif q then some (vi 1) else some (vi 0)) = some (vi (bif p then -1 else bif q then 1 else 0)) := by cases p <;> cases q <;> rfl
theorem numT (p : Bool) : (bif p then some (vi 1) else some (vi 0)) = some (vi (bif p then 1 else 0)) := by cases p <;> rfl
theorem orT2 (a b : Int) : (bif a != 0 then some (vi a) else bif b != 0 then some (vi b) else some (vi 0)) = some (vi (orr [a, b])) := by
  unfold orr; cases a != 0 <;> (try rfl); unfold orr; cases b != 0 <;> rfl
theorem orT (l : List Int) : l.foldr (fun a k => bif a != 0 then some (vi a) else k) (some (vi 0)) = some (vi (orr l)) := by
  induction l with
  | nil => rfl
  | cons a l ih =>
    simp only [List.foldr_cons, orr, ih]
    cases a != 0 <;> rfl
theorem loopT_eq (a b : Nat → Int) : ∀ l, loopT a b l = some (vi (loopI a b l))
  | [] => rfl
  | i :: r => by
    unfold loopT loopI
    rw [loopT_eq a b r]
    cases decide (a i < b i) <;> cases decide (a i > b i) <;> rfl
theorem adT (a b : Ad) : (bif !(a.six == b.six) then (bif a.six then some (vi 1) else some (vi (-1))) else loopT a.b b.b [0, 1, 2, 3, 4, 5, 6, 7, 8, 9, 10, 11, 12, 13, 14, 15]) = some (vi (adR a b)) := by
  unfold adR
  rw [loopT_eq]
  cases a.six <;> cases b.six <;> rfl
theorem adT' (a b : Ad) : (bif a.six == b.six then some (vi (cmpBytes (bytes16 a.b) (bytes16 b.b))) else bif a.six then some (vi 1) else some (vi (-1))) = some (vi (adC a b)) := by
  unfold adC
  cases a.six <;> cases b.six <;> rfl
theorem ptT (a b : Pt) : (bif adR a.ad b.ad != 0 then some (vi (adR a.ad b.ad)) else bif decide (a.port < b.port) then some (vi (-1)) else bif decide (a.port > b.port) then some (vi 1) else some (vi 0)) = some (vi (ptR a b)) := by
  rw [cmpT]
  unfold ptR
  cases adR a.ad b.ad != 0 <;> rfl
theorem kyT_eq (a b : Ky) : kyT a.space a.name b.space b.name = some (vi (kyR a b)) := by
  unfold kyT kyR
  cases Op.bytesLess a.space b.space <;> cases a.space == b.space <;> cases Op.bytesLess a.name b.name <;> cases a.name == b.name <;> rfl

/-- Each row of the table, with the rows below it. -/
theorem table_ok {f : Nat} {args : List PV} {v : PV} (h : table f args = some v) (hf : f ≠ 14) : EO.apart f = true ∧ ∃ σ2, enterA EO (SO (rank f)) 100 f args [] 0 = some (v, σ2) := by
  unfold table at h
  split at h
  case h_1 =>
    split at h <;> cases h
    exact ⟨rfl, enter_value Try.func78 rfl (Nat.le_of_ble_eq_true rfl) ((t78 _).trans (by simp))⟩
  case h_2 =>
    split at h <;> cases h
    exact ⟨rfl, enter_value Try.func81 rfl (Nat.le_of_ble_eq_true rfl) ((t81 _).trans (by simp))⟩
  case h_3 =>
    obtain ⟨x, y, a, b, rfl, h1, h2, rfl⟩ := on2_ok h
    rw [asI_ok h1, asI_ok h2]
    exact ⟨rfl, enter_value Try.func45 rfl (Nat.le_of_ble_eq_true rfl) ((t45 a b).trans (cmpT _ _))⟩
  case h_4 =>
    obtain ⟨x, y, a, b, rfl, h1, h2, rfl⟩ := on2_ok h
    rw [asI_ok h1, asI_ok h2]
    exact ⟨rfl, enter_value Try.func42 rfl (Nat.le_of_ble_eq_true rfl) ((t42 a b).trans (cmpT _ _))⟩
  case h_5 =>
    obtain ⟨x, y, a, b, rfl, h1, h2, rfl⟩ := on2_ok h
    rw [asS_ok h1, asS_ok h2]
    exact ⟨rfl, enter_value Try.func49 rfl (Nat.le_of_ble_eq_true rfl) ((t49 a b).trans (cmpT _ _))⟩
  case h_6 =>
    obtain ⟨x, y, a, b, rfl, h1, h2, rfl⟩ := on2_ok h
    rw [asS_ok h1, asS_ok h2]
    exact ⟨rfl, enter_value Try.func51 rfl (Nat.le_of_ble_eq_true rfl) ((t51 a b).trans (cmpT _ _))⟩
  case h_7 =>
    split at h <;> cases h
    exact ⟨rfl, enter_value Try.func79 rfl (Nat.le_of_ble_eq_true rfl) ((t79 _).trans (numT _))⟩
  case h_8 =>
    split at h <;> cases h
    exact ⟨rfl, enter_value Try.func46 rfl (Nat.le_of_ble_eq_true rfl) ((t46 _).trans (numT _))⟩
  case h_9 =>
    obtain ⟨x, y, a, b, rfl, h1, h2, rfl⟩ := on2_ok h
    rw [asB_ok h1, asB_ok h2]
    exact ⟨rfl, enter_value Try.func43 rfl (Nat.le_of_ble_eq_true rfl) (t43 a b)⟩
  case h_10 =>
    unfold onL at h
    split at h
    · rename_i cells n xc
      split at h
      · rename_i l hn hl
        split at h
        · rename_i hlen
          cases h
          rw [ints_ok _ _ hl]
          subst hlen
          refine ⟨rfl, ?_⟩
          match l, hn with
          | [a, b], _ => exact enter_value Try.func40 rfl (Nat.le_of_ble_eq_true rfl) ((t40_2 a b xc).trans (orT [a, b]))
          | [a, b, c, d], _ => exact enter_value Try.func40 rfl (Nat.le_of_ble_eq_true rfl) ((t40_4 a b c d xc).trans (orT [a, b, c, d]))
          | [a, b, c, d, e], _ => exact enter_value Try.func40 rfl (Nat.le_of_ble_eq_true rfl) ((t40_5 a b c d e xc).trans (orT [a, b, c, d, e]))
          | [], hn => simp at hn
          | [a], hn => simp at hn
          | [a, b, c], hn => simp at hn
          | a :: b :: c :: d :: e :: f :: l, hn => simp at hn
        · cases h
      · cases h
    · cases h
  case h_11 =>
    unfold onL at h
    split at h
    · rename_i cells n xc
      split at h
      · rename_i l hn hl
        split at h
        · rename_i hlen
          cases h
          rw [ints_ok _ _ hl]
          subst hlen
          refine ⟨rfl, ?_⟩
          match l, hn with
          | [a, b, c, d], _ => exact enter_value Try.func44 rfl (Nat.le_of_ble_eq_true rfl) ((t44_4 a b c d xc).trans (orT [a, b, c, d]))
          | [a, b, c, d, e], _ => exact enter_value Try.func44 rfl (Nat.le_of_ble_eq_true rfl) ((t44_5 a b c d e xc).trans (orT [a, b, c, d, e]))
          | [], hn => simp at hn
          | [a], hn => simp at hn
          | [a, b], hn => simp at hn
          | [a, b, c], hn => simp at hn
          | a :: b :: c :: d :: e :: f :: l, hn => simp at hn
        · cases h
      · cases h
    · cases h
  case h_12 =>
    obtain ⟨x, y, a, b, rfl, h1, h2, rfl⟩ := on2_ok h
    rw [asKy_ok h1, asKy_ok h2]
    exact ⟨rfl, enter_value Try.func50 rfl (Nat.le_of_ble_eq_true rfl) (t50 a b)⟩
  case h_13 =>
    obtain ⟨x, y, a, b, rfl, h1, h2, rfl⟩ := on2_ok h
    rw [asKy_ok h1, asKy_ok h2]
    exact ⟨rfl, enter_value Try.func48 rfl (Nat.le_of_ble_eq_true rfl) ((t48 a b).trans (kyT_eq a b))⟩
  case h_14 =>
    obtain ⟨x, y, a, b, rfl, h1, h2, rfl⟩ := on2_ok h
    rw [asAd_ok h1, asAd_ok h2]
    exact ⟨rfl, enter_value Try.func80 rfl (Nat.le_of_ble_eq_true rfl) ((t80 a b).trans (adT a b))⟩
  case h_15 =>
    obtain ⟨x, y, a, b, rfl, h1, h2, rfl⟩ := on2_ok h
    rw [asAd_ok h1, asAd_ok h2]
    exact ⟨rfl, enter_value Try.func95 rfl (Nat.le_of_ble_eq_true rfl) ((t95 a b).trans (adT' a b))⟩
  case h_16 =>
    obtain ⟨x, y, a, b, rfl, h1, h2, rfl⟩ := on2_ok h
    rw [asPt_ok h1, asPt_ok h2]
    exact ⟨rfl, enter_value Try.func47 rfl (Nat.le_of_ble_eq_true rfl) ((t47 a b).trans (ptT a b))⟩
  case h_17 =>
    obtain ⟨x, y, a, b, rfl, h1, h2, rfl⟩ := on2_ok h
    rw [asPt_ok h1, asPt_ok h2]
    exact ⟨rfl, enter_value Try.func77 rfl (Nat.le_of_ble_eq_true rfl) (t77 a b)⟩
  case h_18 =>
    obtain ⟨x, y, a, b, rfl, h1, h2, rfl⟩ := on2_ok h
    rw [asFr_ok h1, asFr_ok h2]
    exact ⟨rfl, enter_value Try.func41 rfl (Nat.le_of_ble_eq_true rfl) (t41 a b)⟩
  case h_19 =>
    obtain ⟨x, y, a, b, rfl, h1, h2, rfl⟩ := on2_ok h
    rw [asFr_ok h1, asFr_ok h2]
    exact ⟨rfl, enter_value Try.func20 rfl (Nat.le_of_ble_eq_true rfl) (t20 a b)⟩
  case h_20 =>
    obtain ⟨x, y, a, b, rfl, h1, h2, rfl⟩ := on2_ok h
    rw [asFr_ok h1, asFr_ok h2]
    exact ⟨rfl, enter_value Try.func19 rfl (Nat.le_of_ble_eq_true rfl) (t19 a b)⟩
  case h_21 =>
    obtain ⟨x, y, a, b, rfl, h1, h2, rfl⟩ := on2_ok h
    rw [asFr_ok h1, asFr_ok h2]
    exact ⟨rfl, enter_value Try.func17 rfl (Nat.le_of_ble_eq_true rfl) (t17 a b)⟩
  case h_22 =>
    obtain ⟨x, y, a, b, rfl, h1, h2, rfl⟩ := on2_ok h
    rw [asFr_ok h1, asFr_ok h2]
    exact ⟨rfl, enter_value Try.func18 rfl (Nat.le_of_ble_eq_true rfl) (t18 a b)⟩
  case h_23 =>
    obtain ⟨x, y, a, b, rfl, h1, h2, rfl⟩ := on2_ok h
    rw [asGi_ok h1, asGi_ok h2]
    exact ⟨rfl, enter_value Try.func21 rfl (Nat.le_of_ble_eq_true rfl) (t21 a b)⟩
  case h_24 =>
    obtain ⟨x, y, a, b, rfl, h1, h2, rfl⟩ := on2_ok h
    rw [asGi_ok h1, asGi_ok h2]
    exact ⟨rfl, enter_value Try.func22 rfl (Nat.le_of_ble_eq_true rfl) (t22 a b)⟩
  case h_25 =>
    split at h
    · simp only [Option.map_eq_some_iff] at h
      obtain ⟨a, h1, rfl⟩ := h
      rw [asFr_ok h1]
      exact ⟨rfl, enter_value Try.func15 rfl (Nat.le_of_ble_eq_true rfl) (t15 a)⟩
    · cases h
  case h_26 =>
    split at h
    · simp only [Option.map_eq_some_iff] at h
      obtain ⟨a, h1, rfl⟩ := h
      rw [asFr_ok h1]
      exact ⟨rfl, enter_value Try.func16 rfl (Nat.le_of_ble_eq_true rfl) (t16 a)⟩
    · cases h
  case h_27 => exact absurd rfl hf
  case h_28 => cases h

def yes : Option (PV × Store) → Bool
  | some (.bool b, _) => b
  | _ => false

theorem yes_ok {x : Option (PV × Store)} (h : yes x = true) : ∃ σ, x = some (.bool true, σ) := by
  unfold yes at h
  split at h
  · rename_i b σ; subst h; exact ⟨σ, rfl⟩
  · cases h

theorem alive22 : yes (runA EO 100 30 14 [] [] 0) = true := by kernel_rfl

theorem Rec.le.trans {E : Env} {r1 r2 r3 : Rec} (h : Rec.le E r1 r2) (k : Rec.le E r2 r3) : Rec.le E r1 r3 := by
  intro f args σ fl v σ1 h1
  have h2 := h f args σ fl v σ1 h1
  cases ha : E.apart f with
  | true =>
    rw [ha, if_pos rfl] at h2
    obtain ⟨σ2, h2⟩ := h2
    have h3 := k f args σ fl v σ2 h2
    rw [ha] at h3
    exact h3
  | false =>
    rw [ha, if_neg (by simp)] at h2
    have h3 := k f args σ fl v σ1 h2
    rw [ha] at h3
    exact h3

theorem SO_ok {r : Nat} {f : Nat} {args : List PV} {σ : Store} {fl : Nat} {v : PV} {σ1 : Store} (h : SO r f args σ fl = some (v, σ1)) :
    rank f < r ∧ ((f = 104 ∧ ∃ x y, args = [x, y] ∧ (extA σ .compare [x, y]).map (fun v => (v, σ)) = some (v, σ1)) ∨ (f ≠ 104 ∧ σ = [] ∧ fl = 0 ∧ table f args = some v)) := by
  unfold SO at h
  split at h
  · rename_i hb
    refine ⟨Nat.le_of_ble_eq_true hb, ?_⟩
    split at h
    · rename_i he
      split at h
      · exact .inl ⟨Nat.eq_of_beq_eq_true he, _, _, rfl, h⟩
      · cases h
    · rename_i he
      split at h
      · split at h
        · rename_i hv
          cases h
          exact .inr ⟨fun e => (by subst e; cases he), rfl, rfl, hv⟩
        · cases h
      · cases h
  · cases h

theorem SO_mono {r q : Nat} (hq : q ≤ r) : Rec.le EO (SO q) (SO r) := .of fun f args σ fl p h => by
  obtain ⟨v, σ1⟩ := p
  have h1 := (SO_ok h).1
  unfold SO at h ⊢
  have e1 : Nat.blt (rank f) q = true := Nat.ble_eq_true_of_le h1
  have e2 : Nat.blt (rank f) r = true := Nat.ble_eq_true_of_le (Nat.le_trans h1 hq)
  rw [e1] at h
  rw [e2]
  exact h

theorem runA_more {E : Env} {n : Nat} : ∀ (k : Nat) {f : FuncId} {args : List PV} {σ : Store} {fl : Nat} {p : PV × Store}, runA E n k f args σ fl = some p → runA E n (k + 1) f args σ fl = some p
  | 0, f, args, σ, fl, p, h => by cases h
  | k + 1, f, args, σ, fl, p, h => enterA_le' (.of fun _ _ _ _ _ => runA_more k) n _ _ _ _ _ h

theorem runA_more' {E : Env} {n j k : Nat} (h : j ≤ k) {f : FuncId} {args : List PV} {σ : Store} {fl : Nat} {p : PV × Store} (hp : runA E n j f args σ fl = some p) : runA E n k f args σ fl = some p := by
  induction h with
  | refl => exact hp
  | step _ ih => exact runA_more _ ih

theorem SO_run : ∀ r, Rec.le EO (SO r) (runA EO 100 (30 + r))
  | 0 => .of fun f args σ fl p h => by
    obtain ⟨v, σ1⟩ := p
    exact absurd (SO_ok h).1 (Nat.not_lt_zero _)
  | r + 1 => by
    intro f args σ fl v σ1 h
    obtain ⟨h1, h2⟩ := SO_ok h
    rcases h2 with ⟨rfl, x, y, rfl, h3⟩ | ⟨hf, rfl, rfl, h3⟩
    · have ha : EO.apart 104 = false := rfl
      rw [ha, if_neg (by simp)]
      have h4 : enterA EO (SO 0) 100 104 [x, y] σ fl = some (v, σ1) := by
        rw [enter_of (c := bodyOf Try.f104) Try.func104 rfl (Nat.le_of_ble_eq_true rfl), t104, h3]
        rfl
      exact enterA_le' ((SO_mono (Nat.zero_le r)).trans (SO_run r)) 100 _ _ _ _ _ h4
    · by_cases h14 : f = 14
      · subst h14
        rw [show EO.apart 14 = true from rfl, if_pos rfl]
        obtain ⟨σ2, h5⟩ := yes_ok alive22
        simp only [table] at h3
        split at h3
        · cases h3
          exact ⟨σ2, runA_more' (show 30 ≤ 30 + (r + 1) by omega) h5⟩
        · cases h3
      · obtain ⟨ha, σ2, h5⟩ := table_ok h3 h14
        rw [ha, if_pos rfl]
        exact ⟨σ2, enterA_le' ((SO_mono (Nat.le_of_lt_succ h1)).trans (SO_run r)) 100 _ _ _ _ _ h5⟩

/-- RulesOrder, by its tree. -/
theorem order_run (a b : Fr) (g h : Gi) {v : PV} (hv : lenT (lastT a b g h) [a.name, b.name, a.key.space, a.key.name, b.key.space, b.key.name, g.name, h.name, g.key.space, g.key.name, h.key.space, h.key.name] = some v) :
    ∃ σ1, runA EO 100 37 4 [.agg a.cs, .agg b.cs, .agg (g.cs ++ h.cs)] [] 0 = some (v, σ1) := by
  obtain ⟨σ1, h1⟩ := enter_value (n := 100) (fl := 0) Try.func4 rfl (Nat.le_of_ble_eq_true rfl) ((t4 a b g h).trans hv)
  exact ⟨σ1, enterA_le' (SO_run 6) 100 _ _ _ _ _ h1⟩

end Go.Proofs.Ytbnfofcbajaiiaa.Am
