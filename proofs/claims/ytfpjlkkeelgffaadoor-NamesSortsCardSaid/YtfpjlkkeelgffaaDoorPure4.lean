/- The operations that neither read nor write the store: the whole law. -/
import Derived.Test.YtfpjlkkeelgffaaDoorPure3
set_option linter.unusedVariables false
set_option linter.unusedSimpArgs false
namespace Go.Proofs.YtfpjlkkeelgffaaDoor.Am
section
variable {E : Env} {fl : Nat} {Γ : Sealed} {ρ : Ren} {σ : Store}

theorem fieldAddrA_ok {t : TypeId} {a p : PV} {f : Nat} {v : Value} (h : fieldAddrA E t a f = some p) (ha : Rep Γ ρ a v) :
    ∃ r, Rep Γ ρ p r ∧ ∀ w, (Instr.fieldAt t v f).run E.P w = .ok r w := by
  unfold fieldAddrA at h
  split at h
  · rename_i fs hu
    split at h
    · rename_i fd hf
      split at h
      · rename_i s hs
        split at h
        · cases h
        · rename_i hz
          obtain ⟨ad, rfl, hr⟩ := addOff_ok h ha
          refine ⟨_, hr, fun w => ?_⟩
          simp [Instr.fieldAt, run_underlying hu, hf, Instr.sureAddr, fieldPlace, run_sizeT hs, hz]
      · cases h
    · cases h
  · cases h

theorem partA_ok {t : TypeId} {cs : List PV} {off : Nat} {p : PV} {vs : Array Value} (h : partA E t cs off = some p) (hr : Reps Γ ρ cs vs.toList) :
    ∃ r, Rep Γ ρ p r ∧ ∀ w, (part t vs off).run E.P w = .ok r w := by
  unfold partA at h
  split at h
  · rename_i n ha hs
    split at h
    · rename_i hl
      cases h
      exact ⟨_, hr.extract off n hl, fun w => run_part_agg ha hs vs off w⟩
    · cases h
  · rename_i n ha hs
    obtain ⟨v, hv, rv⟩ := hr.at h
    exact ⟨v, rv, fun w => run_part_one ha (by simpa using hv) w⟩
  · cases h

theorem fieldA_ok {t : TypeId} {a p : PV} {f : Nat} {v : Value} (h : fieldA E t a f = some p) (ha : Rep Γ ρ a v) :
    ∃ r, Rep Γ ρ p r ∧ ∀ w, (Instr.field t v f).run E.P w = .ok r w := by
  unfold fieldA at h
  split at h
  · rename_i fs cs hu
    split at h
    · rename_i fd hf
      obtain ⟨vs, rfl, hvs⟩ := Reps.of_agg ha
      obtain ⟨r, h1, h2⟩ := partA_ok h hvs
      exact ⟨r, h1, fun w => by simp [Instr.field, run_underlying hu, hf, asAgg, h2]⟩
    · cases h
  · cases h

theorem indexAddrA_ok {t : TypeId} {a i p : PV} {v u : Value} (h : indexAddrA E t a i = some p) (ha : Rep Γ ρ a v) (hi : Rep Γ ρ i u) :
    ∃ r, Rep Γ ρ p r ∧ ∀ w, (Instr.indexAt t v u).run E.P w = .ok r w := by
  unfold indexAddrA at h
  split at h
  · rename_i k i n e hu
    cases hi
    split at h
    · rename_i s hs
      split at h
      · rename_i hb
        obtain ⟨ad, rfl, hr⟩ := addOff_ok h ha
        refine ⟨_, hr, fun w => ?_⟩
        simp [Instr.indexAt, asIntOf, run_underlying hu, Instr.sureAddr, hb, run_sizeT hs]
      · cases h
    · cases h
  · rename_i k i e cells es len xc hu
    cases hi
    split at h
    · rename_i s hs
      split at h
      · rename_i hb
        cases h
        cases ha with
        | slNil hx =>
          obtain ⟨hb0, hb1, rfl, hpos⟩ := hb
          exact absurd hb1 (by omega)
        | sl a cap vs hn hc hx h1 hr =>
          obtain ⟨hb0, hb1, rfl, hpos⟩ := hb
          refine ⟨.pointer (some (a.add (i.toNat * es))), ?_, fun w => ?_⟩
          · by_cases he : cells = []
            · subst he
              have h0 : 0 < len * es := Nat.mul_pos (by omega) hpos
              rw [← hn] at h0
              simp at h0
            · obtain ⟨x0, hx0⟩ : ∃ x, cells[0]? = some x := ⟨cells[0]'(List.length_pos_iff.2 he), List.getElem?_eq_getElem _⟩
              have hsp := (h1 0 x0 hx0).1
              have hadd : a.add (i.toNat * es) = ⟨a.block, a.off + i.toNat * es, none⟩ := by
                unfold Addr.add
                split
                · rename_i hz; cases a; simp_all
                · cases a; rfl
              rw [hadd]
              exact .eptr a.block a.off vs (fun j x hj => ⟨(h1 j x hj).2.1, (h1 j x hj).2.2⟩) hr
          · simp [Instr.indexAt, asIntOf, run_underlying hu, hb0, hb1, run_sizeT hs]
      · cases h
    · cases h
  · rename_i k i e id blen coff es len xc hu
    cases hi
    split at h
    · rename_i s hs
      split at h
      · rename_i hb
        cases h
        obtain ⟨hb0, hb1, rfl⟩ := hb
        cases ha with
        | osl l cap h1 h2 hc hx ho =>
          refine ⟨.pointer (some ((⟨l.block, coff, none⟩ : Addr).add (i.toNat * es))), ?_, fun w => ?_⟩
          · have hadd : (⟨l.block, coff, none⟩ : Addr).add (i.toNat * es) = ⟨l.block, coff + i.toNat * es, none⟩ := by
              unfold Addr.add; split <;> simp_all
            rw [hadd]
            exact .ptr l h1 h2
          · simp [Instr.indexAt, asIntOf, run_underlying hu, hb0, hb1, run_sizeT hs]
        | oslOld l h1 h2 a cap hc' hx' =>
          refine ⟨.pointer (some (a.add (i.toNat * es))), .ptrOld l h1 h2 _, fun w => ?_⟩
          simp [Instr.indexAt, asIntOf, run_underlying hu, hb0, hb1, run_sizeT hs]
      · cases h
    · cases h
  · cases h

theorem indexA_ok {t : TypeId} {a i p : PV} {v u : Value} (h : indexA E t a i = some p) (ha : Rep Γ ρ a v) (hi : Rep Γ ρ i u) :
    ∃ r, Rep Γ ρ p r ∧ ∀ w, (Instr.index t v u).run E.P w = .ok r w := by
  unfold indexA at h
  split at h
  · rename_i k i n e cs hu
    cases hi
    obtain ⟨vs, rfl, hvs⟩ := Reps.of_agg ha
    split at h
    · rename_i s hs
      split at h
      · rename_i hb
        obtain ⟨r, h1, h2⟩ := partA_ok h hvs
        exact ⟨r, h1, fun w => by simp [Instr.index, asIntOf, run_underlying hu, hb, run_sizeT hs, h2]⟩
      · cases h
    · cases h
  · rename_i k i s hu
    cases hi; cases ha
    split at h
    · rename_i hb
      cases hc : s[i.toNat]? with
      | none => simp [hc] at h
      | some b =>
        simp [hc] at h
        subst h
        refine ⟨_, .int _ _, fun w => ?_⟩
        have hlt : i.toNat < s.length := (List.getElem?_eq_some_iff.1 hc).1
        have hg : (⟨⟨s⟩⟩ : ByteArray)[i.toNat]? = some b := by
          have hsz : i.toNat < (⟨⟨s⟩⟩ : ByteArray).size := hlt
          rw [getElem?_pos (⟨⟨s⟩⟩ : ByteArray) i.toNat hsz]
          have : s[i.toNat] = b := by simpa [List.getElem?_eq_getElem hlt] using hc
          exact congrArg some this
        simp [Instr.index, asIntOf, run_underlying hu, hb, hg]
    · cases h
  · cases h

set_option maxHeartbeats 1000000 in
theorem pureA_ok (hE : E.Ok) {o : Oper} {a : Act} {ev : Operand → Option PV} (he : EnvOk Γ ρ ev a) {p : PV} (h : pureA E ev o.op = some p) :
    ∃ r, Rep Γ ρ p r ∧ ∀ w, (execOp a.eval o).run E.P w = .ok (.value r) w := by
  unfold pureA at h
  unfold execOp
  split at h
  case h_1 | h_2 => rename_i x ho; exact ⟨_, he x p h, fun w => by simp [ho]⟩
  case h_3 =>
    rename_i c x y ho
    split at h
    · rename_i hc
      have hcv := he c _ hc
      generalize hg : a.eval c = vc at hcv
      cases hcv
      exact ⟨_, he x p h, fun w => by simp [ho, hg, asBool]⟩
    · rename_i hc
      have hcv := he c _ hc
      generalize hg : a.eval c = vc at hcv
      cases hcv
      exact ⟨_, he y p h, fun w => by simp [ho, hg, asBool]⟩
    · cases h
  case h_4 =>
    rename_i t parts ho
    split at h
    · rename_i ps hps
      obtain ⟨r, h1, h2⟩ := buildA_ok h (evalParts_ok he hps)
      refine ⟨r, h1, fun w => ?_⟩
      have e : (parts.map fun (i, x) => (i, a.eval x)) = (parts.toList.map fun (i, x) => (i, a.eval x)).toArray := by apply Array.ext'; simp
      simp only [ho]
      rw [e]
      simp [h2]
    · cases h
  case h_5 =>
    rename_i x ho
    split at h
    · rename_i hx
      have hv := he x _ hx
      generalize hg : a.eval x = vx at hv
      cases h
      refine ⟨vx, hv, fun w => ?_⟩
      cases hv <;> simp [ho, hg]
    · rename_i hx
      have hv := he x _ hx
      generalize hg : a.eval x = vx at hv
      cases h
      refine ⟨vx, hv, fun w => ?_⟩
      cases hv <;> simp [ho, hg]
    · rename_i hx
      have hv := he x _ hx
      generalize hg : a.eval x = vx at hv
      cases h
      refine ⟨vx, hv, fun w => ?_⟩
      cases hv <;> simp [ho, hg]
    · rename_i hx
      have hv := he x _ hx
      generalize hg : a.eval x = vx at hv
      cases h
      refine ⟨vx, hv, fun w => ?_⟩
      cases hv <;> simp [ho, hg]
    · rename_i hx
      have hv := he x _ hx
      generalize hg : a.eval x = vx at hv
      cases h
      refine ⟨vx, hv, fun w => ?_⟩
      cases hv <;> simp [ho, hg]
    · cases h
  case h_6 =>
    rename_i op t x y ty ho
    split at h
    · rename_i pa pb ha hb
      obtain ⟨r, h1, h2⟩ := binA_ok hE h (he x _ ha) (he y _ hb)
      refine ⟨r, h1, fun w => ?_⟩
      have h3 := h2 w
      simp only [ho]
      rw [Sem.run_bind, h3]
      simp
    · cases h
  case h_7 =>
    rename_i op t x ho
    split at h
    · rename_i pa ha
      obtain ⟨r, h1, h2⟩ := unA_ok h (he x _ ha)
      exact ⟨r, h1, fun w => by simp [ho, h2]⟩
    · cases h
  case h_8 =>
    rename_i t x ho
    split at h
    · cases h
    · rename_i pa d hni ha hu
      cases h
      refine ⟨.iface t (a.eval x), .iface t (he x _ ha), fun w => ?_⟩
      simp only [ho, Instr.makeInterface, Sem.run_bind, run_underlying hu, Result.andThen_ok]
      cases d <;> simp_all
    · cases h
  case h_9 =>
    rename_i f first captured ho
    split at h
    · rename_i xs ys hx hy
      cases h
      have h1 := evalAll_ok he hx
      have h2 := evalAll_ok he hy
      refine ⟨.func f (first.map a.eval) (captured.map a.eval), .fn f (by simpa using h1.1) (by simpa using h2.1) (fun j x v hx hv => h1.2 j x v hx (by simpa using hv)) (fun j x v hx hv => h2.2 j x v hx (by simpa using hv)), fun w => ?_⟩
      simp [ho, Instr.makeFunc]
    · cases h
  case h_10 =>
    rename_i t x f ho
    split at h
    · rename_i pa ha
      obtain ⟨r, h1, h2⟩ := fieldAddrA_ok h (he x _ ha)
      exact ⟨r, h1, fun w => by simp [ho, h2]⟩
    · cases h
  case h_11 =>
    rename_i t x f ho
    split at h
    · rename_i pa ha
      obtain ⟨r, h1, h2⟩ := fieldA_ok h (he x _ ha)
      exact ⟨r, h1, fun w => by simp [ho, h2]⟩
    · cases h
  case h_12 =>
    rename_i t x i ho
    split at h
    · rename_i pa pb ha hb
      obtain ⟨r, h1, h2⟩ := indexAddrA_ok h (he x _ ha) (he i _ hb)
      exact ⟨r, h1, fun w => by simp [ho, h2]⟩
    · cases h
  case h_13 =>
    rename_i t x i ho
    split at h
    · rename_i pa pb ha hb
      obtain ⟨r, h1, h2⟩ := indexA_ok h (he x _ ha) (he i _ hb)
      exact ⟨r, h1, fun w => by simp [ho, h2]⟩
    · cases h
  case h_14 =>
    rename_i x i ho
    split at h
    · rename_i vs hx
      have hv := he x _ hx
      generalize hg : a.eval x = vx at hv
      cases hv with
      | tup hn hr =>
        rename_i us
        have hlt : i < us.size := by have := (List.getElem?_eq_some_iff.1 h).1; omega
        exact ⟨us[i], hr i p us[i] h (by simp [hlt]), fun w => by simp [ho, hg, Instr.extract, hlt]⟩
    · cases h
  case h_15 =>
    rename_i s d x ho
    split at h
    · rename_i v hx
      have hv := he x _ hx
      unfold convN at h
      split at h
      · rename_i k0 k j n hs hd
        cases h
        generalize hg : a.eval x = vx at hv
        cases hv with
        | int _ _ => exact ⟨_, .int k (k.wrap n), fun w => by simp [ho, hg, convert, run_underlying hs, run_underlying hd, Conv.intToInt]⟩
      · cases h
    · cases h
  case h_16 => cases h

end
end Go.Proofs.YtfpjlkkeelgffaaDoor.Am
