/- The operations that neither read nor write the store: all of them. -/
import Derived.Test.YtfpjlkkeelgffaaDoorPure2
set_option linter.unusedVariables false
set_option linter.unusedSimpArgs false
namespace Go.Proofs.YtfpjlkkeelgffaaDoor.Am
section
variable {E : Env} {fl : Nat} {Γ : Sealed} {ρ : Ren} {σ : Store}

theorem eqGuard_ok (hE : E.Ok) {op : BinOp} {t : TypeId} {x y : Operand} {a b : PV} {v u : Value} (h : eqGuardOk E t x y a b = true) (ha : Rep Γ ρ a v) (hb : Rep Γ ρ b u) (w : World) :
    (eqGuard op t x y v u).run E.P w = .ok () w := by
  cases op
  case eql | neq =>
    cases ha <;> cases hb <;> first
      | (simp [eqGuard]; done)
      | (simp [eqGuardOk] at h
         cases x <;> cases y <;> first
           | (simp [isConst] at h; done)
           | (simp [eqGuard]; done))
      | (simp only [eqGuardOk] at h
         simp [eqGuard, (hE.plain t h).2])
  all_goals simp [eqGuard]

/-- A value that is neither a number nor a text. -/
def other : Value → Bool
  | .int .. | .float .. | .complex .. | .string _ => false
  | _ => true

theorem binOp_other (P : Program) (t : TypeId) {v u : Value} (h : other v = true ∨ other u = true) (w : World) :
    (binOp .eql t v u).run P w = ((Op.equal t v u).run P w).andThen (fun b w' => .ok (.bool b) w') ∧
    (binOp .neq t v u).run P w = ((Op.equal t v u).run P w).andThen (fun b w' => .ok (.bool !b) w') := by
  cases v <;> cases u <;> first
    | (constructor <;> (simp only [binOp]; simp; done))
    | (simp [other] at h; done)

theorem eqA_other {d : Nat} {t : TypeId} {a b : PV} {r : Bool} (h : eqA E d t a b = some r) {v u : Value} (ha : Rep Γ ρ a v) (hb : Rep Γ ρ b u)
    (hn3 : ∀ (k : IntKind) (x : Int) (k' : IntKind) (y : Int), a = PV.int k x → b = PV.int k' y → False) (hn4 : ∀ (x y : List UInt8), a = PV.str x → b = PV.str y → False) : other v = true ∨ other u = true := by
  cases d with
  | zero => cases h
  | succ d =>
    unfold eqA at h
    split at h <;> first
      | (cases h; done)
      | (cases ha <;> exact .inl rfl)
      | (exact (hn3 _ _ _ _ rfl rfl).elim)
      | (exact (hn4 _ _ rfl rfl).elim)

set_option maxHeartbeats 1000000 in
theorem binA_ok (hE : E.Ok) {op : BinOp} {t : TypeId} {x y : Operand} {a b p : PV} {v u : Value} (h : binA E op t x y a b = some p) (ha : Rep Γ ρ a v) (hb : Rep Γ ρ b u) :
    ∃ r, Rep Γ ρ p r ∧ ∀ w, (do eqGuard op t x y v u; binOp op t v u : Sem Value).run E.P w = .ok r w := by
  unfold binA at h
  split at h
  case h_1 | h_2 =>
    rename_i k a kb b
    cases ha; cases hb
    obtain ⟨r, h1, h2⟩ := shiftOp_ok (Γ := Γ) (ρ := ρ) (kb := kb) h t
    exact ⟨r, h1, fun w => by simp [eqGuard, h2]⟩
  case h_3 =>
    rename_i k a k' b hn1 hn2
    cases ha; cases hb
    split at h
    · rename_i hk
      subst hk
      obtain ⟨r, h1, h2⟩ := intOp_ok (Γ := Γ) (ρ := ρ) h t ⟨fun e => by simp_all, fun e => by simp_all⟩
      exact ⟨r, h1, fun w => by cases op <;> simp [eqGuard, h2]⟩
    · cases h
  case h_4 =>
    cases ha; cases hb
    obtain ⟨r, h1, h2⟩ := strOp_ok (Γ := Γ) (ρ := ρ) h t
    exact ⟨r, h1, fun w => by cases op <;> simp [eqGuard, h2]⟩
  case h_5 =>
    rename_i hn1 hn2
    split at h
    · rename_i hg
      cases he : eqA E 50 t a b with
      | none => simp [he] at h
      | some r =>
        simp [he] at h
        subst h
        refine ⟨.bool r, .bool r, fun w => ?_⟩
        have h1 := eqA_ok hE 50 10000 (by omega) t a b v u r he ha hb w
        have h2 := eqGuard_ok hE (op := .eql) hg ha hb w
        have h3 := (binOp_other E.P t (eqA_other he ha hb hn1 hn2) w).1
        simp [h2, h3, Op.equal, Op.maxDepth, h1]
    · cases h
  case h_6 =>
    rename_i hn1 hn2
    split at h
    · rename_i hg
      cases he : eqA E 50 t a b with
      | none => simp [he] at h
      | some r =>
        simp [he] at h
        subst h
        refine ⟨.bool !r, .bool _, fun w => ?_⟩
        have h1 := eqA_ok hE 50 10000 (by omega) t a b v u r he ha hb w
        have h2 := eqGuard_ok hE (op := .neq) hg ha hb w
        have h3 := (binOp_other E.P t (eqA_other he ha hb hn1 hn2) w).2
        simp [h2, h3, Op.equal, Op.maxDepth, h1]
    · cases h
  case h_7 => cases h

theorem unA_ok {op : UnOp} {a p : PV} {v : Value} (h : unA op a = some p) (ha : Rep Γ ρ a v) : ∃ r, Rep Γ ρ p r ∧ ∀ (P : Program) (w : World), (Op.unary op v).run P w = .ok r w := by
  unfold unA at h
  split at h
  · cases ha
    simp only [intOp] at h
    cases h
    exact ⟨_, .int _ _, fun P w => by simp [Op.unary, Op.intArith]⟩
  · cases ha
    simp only [intOp] at h
    cases h
    exact ⟨_, .int _ _, fun P w => by simp [Op.unary, Op.intBits]⟩
  · cases ha
    cases h
    exact ⟨_, .bool _, fun P w => by simp [Op.unary]⟩
  · cases h

theorem addOff_ok {a p : PV} {v : Value} {n : Nat} (h : addOff a n = some p) (ha : Rep Γ ρ a v) : ∃ ad : Addr, v = .pointer (some ad) ∧ Rep Γ ρ p (.pointer (some (ad.add n))) := by
  have hadd : ∀ (b o : Nat), (⟨b, o, none⟩ : Addr).add n = ⟨b, o + n, none⟩ := fun b o => by unfold Addr.add; split <;> simp_all
  unfold addOff at h
  split at h
  · cases h
    cases ha with
    | ptr l h1 h2 => exact ⟨_, rfl, by rw [hadd]; exact .ptr l h1 h2⟩
    | ptrOld l h1 h2 a => exact ⟨_, rfl, .ptrOld l h1 h2 _⟩
  · cases h
    cases ha with
    | eptr b o vs h1 h2 => exact ⟨_, rfl, by rw [hadd, Nat.add_assoc]; exact .eptr b o vs h1 h2⟩
  · cases h
    cases ha with
    | glob => exact ⟨_, rfl, by rw [hadd]; exact .glob _ _⟩
  · cases h

theorem run_fieldPlaces (P : Program) (w : World) : ∀ (fs : List Field), fs.all (fun f => (sizeT P f.type).isSome) = true →
    (fs.mapM (fun f => (sizeOf f.type).bind fun s => Sem.pure (f.offset, s) : Field → Sem (Nat × Nat))).run P w = .ok (fs.map fun f => (f.offset, P.cellsOf f.type)) w
  | [], _ => by simp
  | f :: fs, h => by
    simp only [List.all_cons, Bool.and_eq_true] at h
    obtain ⟨s, hs⟩ := Option.isSome_iff_exists.1 h.1
    have hc : P.cellsOf f.type = s := by
      obtain ⟨i, hi, e⟩ := sizeT_info hs
      simp [Program.cellsOf, hi, e]
    rw [List.mapM_cons, Sem.run_bind, Sem.run_bind', run_sizeT hs]
    simp only [Result.andThen_ok, Sem.run_pure', Sem.run_bind, run_fieldPlaces P w fs h.2, Sem.run_pure, List.map_cons, hc]

theorem buildA_ok {t : TypeId} {parts : List (Nat × PV)} {vs : List (Nat × Value)} {p : PV} (h : buildA E t parts = some p) (hr : RepParts Γ ρ parts vs) :
    ∃ r, Rep Γ ρ p r ∧ ∀ w, (Instr.build t vs.toArray).run E.P w = .ok r w := by
  unfold buildA at h
  split at h
  · rename_i z fs hz hu
    obtain ⟨i, zv, hi, hzv, hrz, h1⟩ := zeroT_rep (Γ := Γ) (ρ := ρ) hz
    split at h
    · rename_i hall
      cases hf : fillL (fieldPlaces E.P fs) z.cells parts with
      | none => simp [hf] at h
      | some cells =>
        simp [hf] at h
        subst h
        have hpl : ∀ i r, fieldPlaces E.P fs i = some r → (fs.map fun f => (f.offset, E.P.cellsOf f.type))[i]? = some r := fun i r hi => by
          unfold fieldPlaces at hi
          split at hi
          · rename_i f hf
            cases hs : sizeT E.P f.type with
            | none => simp [hs] at hi
            | some s =>
              simp [hs] at hi
              obtain ⟨i, hi', e⟩ := sizeT_info hs
              have hc : E.P.cellsOf f.type = s := by simp [Program.cellsOf, hi', e]
              simp [hf, ← hi, hc]
          · cases hi
        obtain ⟨C', e1, e2, e3, e4⟩ := fill_ok hpl hf hr hrz.cells h1
        refine ⟨.agg C', by simpa using e2.agg, fun w => ?_⟩
        have hm := run_fieldPlaces E.P w fs.toList hall
        have hm2 : (fs.mapM (fun f => do pure (f.offset, ← sizeOf f.type) : Field → Sem (Nat × Nat))).run E.P w = .ok (fs.map fun f => (f.offset, E.P.cellsOf f.type)) w := by
          show (fs.mapM (fun f => (sizeOf f.type).bind fun s => Sem.pure (f.offset, s) : Field → Sem (Nat × Nat))).run E.P w = _
          rw [Array.mapM_eq_mapM_toList, Sem.run_map, hm]
          simp only [Result.andThen_ok]
          congr 1
          apply Array.ext'
          simp
        unfold Instr.build
        simp only [zeroValue, typeInfo, Sem.run_bind, run_program, Result.andThen_ok, hi, Sem.run_pure, hzv, run_underlying hu]
        rw [hm2]
        simp only [Result.andThen_ok]
        rw [e1]
        simp
    · cases h
  · rename_i z n e hz hu
    obtain ⟨i, zv, hi, hzv, hrz, h1⟩ := zeroT_rep (Γ := Γ) (ρ := ρ) hz
    split at h
    · rename_i s hs
      cases hf : fillL (fun i => some (i * s, s)) z.cells parts with
      | none => simp [hf] at h
      | some cells =>
        simp [hf] at h
        subst h
        obtain ⟨C', e1, e2, e3, e4⟩ := fill_ok (place' := fun i => some (i * s, s)) (fun i r h => h) hf hr hrz.cells h1
        refine ⟨.agg C', by simpa using e2.agg, fun w => ?_⟩
        simp [Instr.build, zeroValue, typeInfo, hi, hzv, run_underlying hu, run_sizeT hs, e1]
    · cases h
  · cases h

end
end Go.Proofs.YtfpjlkkeelgffaaDoor.Am
