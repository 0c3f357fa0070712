/- The operations that neither read nor write the store, one by one. -/
import Derived.Test.YtfpjlkkeelgffaaDoorPure
set_option linter.unusedVariables false
set_option linter.unusedSimpArgs false
namespace Go.Proofs.YtfpjlkkeelgffaaDoor.Am
section
variable {E : Env} {fl : Nat} {Γ : Sealed} {ρ : Ren} {σ : Store}

theorem toList_mk (l : List UInt8) : (⟨⟨l⟩⟩ : ByteArray).toList = l := by rw [ByteArray.toList_eq]

theorem intOp_ok {op : BinOp} {k : IntKind} {a b : Int} {p : PV} (h : intOp op k a b = some p) (t : TypeId) (hop : op ≠ .shl ∧ op ≠ .shr) :
    ∃ v, Rep Γ ρ p v ∧ ∀ (P : Program) (w : World), (binOp op t (.int k a) (.int k b)).run P w = .ok v w := by
  cases op <;> simp only [intOp] at h <;> first
    | (cases h; refine ⟨_, .int _ _, fun P w => ?_⟩; simp [binOp, Op.intArith, Op.intBits, Op.intCmp]; done)
    | (cases h; refine ⟨_, .bool _, fun P w => ?_⟩; simp [binOp, Op.intCmp]; done)
    | (split at h
       · cases h
       · rename_i hz; cases h; refine ⟨_, .int _ _, fun P w => ?_⟩; simp [binOp, Op.intDiv, hz])
    | (simp at hop; done)
    | cases h

theorem shiftOp_ok {op : BinOp} {k kb : IntKind} {a b : Int} {p : PV} (h : shiftOp op k a b = some p) (t : TypeId) :
    ∃ v, Rep Γ ρ p v ∧ ∀ (P : Program) (w : World), (binOp op t (.int k a) (.int kb b)).run P w = .ok v w := by
  unfold shiftOp at h
  split at h
  · cases h
  · rename_i hb
    split at h
    · cases h; refine ⟨_, .int _ _, fun P w => ?_⟩; simp [binOp, Op.shift, hb]
    · cases h; refine ⟨_, .int _ _, fun P w => ?_⟩; simp [binOp, Op.shift, hb]
    · cases h

theorem strOp_ok {op : BinOp} {a b : List UInt8} {p : PV} (h : strOp op a b = some p) (t : TypeId) :
    ∃ v, Rep Γ ρ p v ∧ ∀ (P : Program) (w : World), (binOp op t (.string ⟨⟨a⟩⟩) (.string ⟨⟨b⟩⟩)).run P w = .ok v w := by
  cases op <;> simp only [strOp] at h
  case add =>
    split at h
    · rename_i hl
      cases h
      refine ⟨_, .str _, fun P w => ?_⟩
      have hn : ¬ (IntKind.i64.max < ((a.length + b.length : Nat) : Int)) := by
        have : IntKind.i64.max = 9223372036854775807 := by decide
        omega
      have hsz : ((⟨⟨a⟩⟩ : ByteArray).size + (⟨⟨b⟩⟩ : ByteArray).size) = a.length + b.length := rfl
      have happ : (⟨⟨a⟩⟩ : ByteArray) ++ (⟨⟨b⟩⟩ : ByteArray) = ⟨⟨a ++ b⟩⟩ := by
        apply ByteArray.ext
        simp [ByteArray.data_append]
      simp only [binOp, Op.stringOp, gt_iff_lt, hsz]
      rw [if_neg hn, happ]
      rfl
    · cases h
  all_goals first
    | (cases h; refine ⟨_, .bool _, fun P w => ?_⟩; simp only [binOp, Op.stringOp, toList_mk]; rfl)
    | cases h

theorem run_part_agg {P : Program} {t : TypeId} {n : Nat} (ha : aggT P t = some true) (hs : sizeT P t = some n) (cs : Array Value) (off : Nat) (w : World) :
    (part t cs off).run P w = .ok (.agg (cs.extract off (off + n))) w := by
  simp [part, run_aggT ha, run_sizeT hs]

theorem run_part_one {P : Program} {t : TypeId} (ha : aggT P t = some false) {cs : Array Value} {off : Nat} {v : Value} (hv : cs[off]? = some v) (w : World) :
    (part t cs off).run P w = .ok v w := by
  simp [part, run_aggT ha, hv]

theorem Reps.extract {xs : List PV} {vs : Array Value} (h : Reps Γ ρ xs vs.toList) (off n : Nat) (hl : off + n ≤ xs.length) :
    Rep Γ ρ (.agg ((xs.drop off).take n)) (.agg (vs.extract off (off + n))) := by
  have := ((h.drop off).take n).agg
  have e : ((vs.toList.drop off).take n).toArray = vs.extract off (off + n) := by
    apply Array.ext'
    simp [Array.toList_extract, List.extract]
  rwa [e] at this

theorem Reps.at {xs : List PV} {vs : List Value} (h : Reps Γ ρ xs vs) {j : Nat} {x : PV} (hx : xs[j]? = some x) : ∃ v, vs[j]? = some v ∧ Rep Γ ρ x v := by
  have hj : j < vs.length := by have := (List.getElem?_eq_some_iff.1 hx).1; have := h.1; omega
  exact ⟨vs[j], List.getElem?_eq_getElem hj, h.2 j x _ hx (List.getElem?_eq_getElem hj)⟩

theorem eqFields_ok {P : Program} {d D : Nat} (ih : ∀ (t : TypeId) (x y : PV) (v u : Value) (r : Bool), eqA E d t x y = some r → Rep Γ ρ x v → Rep Γ ρ y u → ∀ w, (Op.equalIn D t v u).run E.P w = .ok r w) :
    ∀ (fs : List Field) {xs ys : List PV} {vs us : Array Value} {r : Bool}, eqFields (eqA E d) E.P xs ys fs = some r → Reps Γ ρ xs vs.toList → Reps Γ ρ ys us.toList →
      ∀ w, (Op.eqFields D vs us fs).run E.P w = .ok r w
  | [], xs, ys, vs, us, r, h, _, _, w => by cases h; simp [Op.eqFields]
  | f :: fs, xs, ys, vs, us, r, h, hx, hy, w => by
    unfold eqFields at h
    split at h
    · cases h
    · rename_i hname
      simp only [Op.eqFields, ne_eq, hname, not_false_eq_true, if_true]
      split at h
      · rename_i s hs ha
        split at h
        · rename_i hl
          cases he : eqA E d f.type (.agg ((xs.drop f.offset).take s)) (.agg ((ys.drop f.offset).take s)) with
          | none => simp [he, andB] at h
          | some q =>
            have hq := ih _ _ _ _ _ q he (hx.extract f.offset s hl.1) (hy.extract f.offset s hl.2) w
            simp only [Sem.run_bind, run_part_agg ha hs, Result.andThen_ok, hq]
            cases he2 : eqFields (eqA E d) E.P xs ys fs with
            | none => simp [he, he2, andB] at h
            | some q2 =>
              simp [he, he2, andB] at h
              cases q with
              | false => simp at h; subst h; simp
              | true => simp at h; subst h; simp only [Bool.not_true, Bool.false_eq_true, if_false]; exact eqFields_ok (P := P) ih fs he2 hx hy w
        · cases h
      · rename_i s hs ha
        split at h
        · rename_i x y hxo hyo
          obtain ⟨v, hv, rv⟩ := hx.at hxo
          obtain ⟨u, hu, ru⟩ := hy.at hyo
          cases he : eqA E d f.type x y with
          | none => simp [he, andB] at h
          | some q =>
            have hq := ih _ _ _ _ _ q he rv ru w
            simp only [Sem.run_bind, run_part_one ha (by simpa using hv), run_part_one ha (by simpa using hu), Result.andThen_ok, hq]
            cases he2 : eqFields (eqA E d) E.P xs ys fs with
            | none => simp [he, he2, andB] at h
            | some q2 =>
              simp [he, he2, andB] at h
              cases q with
              | false => simp at h; subst h; simp
              | true => simp at h; subst h; simp only [Bool.not_true, Bool.false_eq_true, if_false]; exact eqFields_ok (P := P) ih fs he2 hx hy w
        · cases h
      · cases h

theorem eqElems_ok {d D : Nat} {e : TypeId} {g : Bool} {s : Nat} (ha : aggT E.P e = some g) (hs : sizeT E.P e = some s)
    (ih : ∀ (t : TypeId) (x y : PV) (v u : Value) (r : Bool), eqA E d t x y = some r → Rep Γ ρ x v → Rep Γ ρ y u → ∀ w, (Op.equalIn D t v u).run E.P w = .ok r w) :
    ∀ (n i : Nat) {xs ys : List PV} {vs us : Array Value} {r : Bool}, eqElems (eqA E d e) g s xs ys i n = some r → Reps Γ ρ xs vs.toList → Reps Γ ρ ys us.toList →
      ∀ w, (Op.eqItems D e s vs us (List.range' i n)).run E.P w = .ok r w
  | 0, i, xs, ys, vs, us, r, h, _, _, w => by cases h; simp [Op.eqItems]
  | n + 1, i, xs, ys, vs, us, r, h, hx, hy, w => by
    unfold eqElems at h
    simp only [List.range'_succ, Op.eqItems]
    cases g with
    | true =>
      simp only [if_true] at h
      split at h
      · rename_i hl
        cases he : eqA E d e (.agg ((xs.drop (i * s)).take s)) (.agg ((ys.drop (i * s)).take s)) with
        | none => simp [he, andB] at h
        | some q =>
          have hq := ih _ _ _ _ _ q he (hx.extract (i * s) s hl.1) (hy.extract (i * s) s hl.2) w
          simp only [Sem.run_bind, run_part_agg ha hs, Result.andThen_ok, hq]
          cases he2 : eqElems (eqA E d e) true s xs ys (i + 1) n with
          | none => simp [he, he2, andB] at h
          | some q2 =>
            simp [he, he2, andB] at h
            cases q with
            | false => simp at h; subst h; simp
            | true => simp at h; subst h; simp only [Bool.not_true, Bool.false_eq_true, if_false]; exact eqElems_ok ha hs ih n (i + 1) he2 hx hy w
      · cases h
    | false =>
      simp only [Bool.false_eq_true, if_false] at h
      split at h
      · rename_i x y hxo hyo
        obtain ⟨v, hv, rv⟩ := hx.at hxo
        obtain ⟨u, hu, ru⟩ := hy.at hyo
        cases he : eqA E d e x y with
        | none => simp [he, andB] at h
        | some q =>
          have hq := ih _ _ _ _ _ q he rv ru w
          simp only [Sem.run_bind, run_part_one ha (by simpa using hv), run_part_one ha (by simpa using hu), Result.andThen_ok, hq]
          cases he2 : eqElems (eqA E d e) false s xs ys (i + 1) n with
          | none => simp [he, he2, andB] at h
          | some q2 =>
            simp [he, he2, andB] at h
            cases q with
            | false => simp at h; subst h; simp
            | true => simp at h; subst h; simp only [Bool.not_true, Bool.false_eq_true, if_false]; exact eqElems_ok ha hs ih n (i + 1) he2 hx hy w
      · cases h

set_option maxHeartbeats 2000000 in
theorem eqA_ok (hE : E.Ok) : ∀ (d D : Nat), d ≤ D → ∀ (t : TypeId) (x y : PV) (v u : Value) (r : Bool), eqA E d t x y = some r → Rep Γ ρ x v → Rep Γ ρ y u → ∀ w, (Op.equalIn D t v u).run E.P w = .ok r w
  | 0, _, _, t, x, y, v, u, r, h, _, _, w => by cases h
  | d + 1, 0, hD, _, _, _, _, _, _, _, _, _, _ => by omega
  | d + 1, D + 1, hD, t, x, y, v, u, r, h, hx, hy, w => by
    have ih := eqA_ok hE d D (by omega)
    unfold eqA at h
    split at h
    case h_3 =>
      rename_i a b hu
      cases hx; cases hy
      cases h
      rw [run_equalIn_string w D t _ _ hu, toList_mk, toList_mk]
    case h_29 =>
      rename_i fs xs ys hu
      split at h
      · rename_i hp
        obtain ⟨vs, rfl, hvs⟩ := Reps.of_agg hx
        obtain ⟨us, rfl, hus⟩ := Reps.of_agg hy
        have hf : E.P.fieldsOf t = fs := by simp [Program.fieldsOf, hu]
        rw [run_equalIn_struct w D t vs us (by rw [hf]; exact hu) (hE.plain t hp).1, hf]
        exact eqFields_ok (P := E.P) ih fs.toList h hvs hus w
      · cases h
    case h_30 =>
      rename_i n e xs ys hu
      split at h
      · rename_i s g hs ha
        obtain ⟨vs, rfl, hvs⟩ := Reps.of_agg hx
        obtain ⟨us, rfl, hus⟩ := Reps.of_agg hy
        obtain ⟨i, hi, hsz⟩ := sizeT_info hs
        have hc : E.P.cellsOf e = s := by simp [Program.cellsOf, hi, hsz]
        rw [run_equalIn_array w D vs us hu hi, hc, List.range_eq_range']
        exact eqElems_ok ha hs ih n 0 h hvs hus w
      · cases h
    all_goals first
      | (cases h; done)
      | (rename_i hu; cases hx <;> cases hy <;> first
          | (cases h; simp [Op.equalIn, run_underlying hu]; done)
          | (split at h
             · rename_i hk; cases h; simp [Op.equalIn, run_underlying hu, hk]; done
             · cases h)
          | (split at h
             · cases h
             · first
               | (cases h; simp [Op.equalIn, run_underlying hu]; done)
               | (rename_i hk; exact absurd rfl hk)))

end
end Go.Proofs.YtfpjlkkeelgffaaDoor.Am
