/- Slicing of texts and arrays: the machine does what the interpreter does. -/
import Derived.Test.YtfpjlkkeelgffaaDoorMem4
set_option linter.unusedVariables false
set_option linter.unusedSimpArgs false
namespace Go.Proofs.YtfpjlkkeelgffaaDoor.Am
section
variable {E : Env} {fl : Nat} {Γ : Sealed} {ρ : Ren} {σ : Store} {w : World}

theorem extract_mk' (l : List UInt8) (a b : Nat) : (⟨⟨l⟩⟩ : ByteArray).extract a b = ⟨⟨(l.drop a).take (b - a)⟩⟩ := ByteArray.extract_mk l a b

theorem run_sliceArr {P : Program} {t e : TypeId} {s n l h m : Nat} {a : Addr} {lv hv mv : Option Value} (hu : P.underlying t = some (.array n e)) (hs : sizeT P e = some s)
    (hb : ∀ w, (Instr.sliceBounds false n n lv hv mv).run P w = .ok (l, h, m) w) (w : World) :
    (Instr.sliceAt t (.pointer (some a)) lv hv mv).run P w = .ok (.slice (some (if m = l then a else a.add (l * s))) (h - l) (m - l)) w := by
  simp [Instr.sliceAt, run_underlying hu, Instr.sureAddr, hb w, run_sizeT hs]

theorem sliceA_ok (h : Rel E fl Γ ρ σ w) {t : TypeId} {x p : PV} {lo hi mx : Option PV} {v : Value} {lv hv mv : Option Value}
    (hc : sliceA E σ t x lo hi mx = some p) (hx : Rep Γ ρ x v) (hl : RepOpt Γ ρ lo lv) (hh : RepOpt Γ ρ hi hv) (hm : RepOpt Γ ρ mx mv) :
    ∃ r, Rep Γ ρ p r ∧ (Instr.sliceAt t v lv hv mv).run E.P w = .ok r w := by
  unfold sliceA at hc
  split at hc
  · cases hc
  · rename_i hno
    have hno' : (hi.isNone && mx.isSome) = false := by simpa using hno
    split at hc
    · rename_i s hu
      cases hx
      split at hc
      · cases hc
      · split at hc
        · rename_i hh' eh
          split at hc
          · rename_i l el
            cases hc
            cases mv with
            | some _ => exact hm.elim
            | none =>
              obtain ⟨k1, k2, k3, k4⟩ := bounds_ok (P := E.P) (isSlice := false) (mx := none) (mv := none) (cap := s.length) (room := s.length) (m := s.length) hl hh trivial (Nat.le_refl _) (by simp) rfl eh el (fun _ _ => Nat.le_refl _)
              refine ⟨_, .str _, ?_⟩
              have hsz : (⟨⟨s⟩⟩ : ByteArray).size = s.length := rfl
              simp [Instr.sliceAt, Instr.slice, run_underlying hu, hsz, k1, extract_mk']
          · cases hc
        · cases hc
    · rename_i e hu
      split at hc
      · rename_i s hs
        split at hc
        · rename_i hpos
          exact sliceSl_ok h hu hs hpos hno' hc hx hl hh hm
        · cases hc
      · cases hc
    · rename_i n e hu
      split at hc
      · rename_i s hs
        split at hc
        · cases hc
        · split at hc
          · rename_i m em
            split at hc
            · rename_i hh' eh
              split at hc
              · rename_i l el
                obtain ⟨k1, k2, k3, k4⟩ := bounds_ok (P := E.P) (isSlice := false) (cap := n) hl hh hm (Nat.le_refl _) hno' em eh el (fun _ _ => Nat.le_refl _)
                have k1' : ∀ w, (Instr.sliceBounds false n n lv hv mv).run E.P w = .ok (l, hh', m) w := fun w => by
                  have h1 := k1 w
                  cases mx with
                  | none => simp only [optBound, Option.some.injEq] at em; subst em; exact h1
                  | some _ => exact h1
                by_cases hempty : l = hh'
                · rw [if_pos hempty] at hc
                  have : p = .sl [] s 0 (some (m - l)) ∧ ∃ a : Addr, v = .pointer (some a) := by
                    split at hc <;> first
                      | (cases hc; done)
                      | (cases hc; cases hx <;> exact ⟨rfl, _, rfl⟩)
                  obtain ⟨rfl, a, rfl⟩ := this
                  refine ⟨_, ?_, run_sliceArr hu hs k1' w⟩
                  subst hempty
                  rw [Nat.sub_self]
                  exact Rep.sl (cells := []) (es := s) (len := 0) (xc := some (m - l)) _ (m - l) (fun _ => undef) (by simp) (by omega) (fun c hc => by cases hc; rfl) (fun j x hj => by simp at hj) (fun j x hj => by simp at hj)
                · rw [if_neg hempty] at hc
                  have hne : m ≠ l := by omega
                  split at hc
                  · rename_i id blen off
                    cases hc
                    cases hx with
                    | ptr loc h1 h2 =>
                      refine ⟨_, ?_, run_sliceArr hu hs k1' w⟩
                      rw [if_neg hne, add_mk]
                      exact .osl loc (m - l) h1 h2 (by omega) (fun c hc => by cases hc; rfl) (fun hc => by cases hc)
                    | ptrOld loc h1 h2 a =>
                      refine ⟨_, ?_, run_sliceArr hu hs k1' w⟩
                      rw [if_neg hne]
                      exact .oslOld loc h1 h2 _ _ (by omega) (fun c hc => by cases hc; rfl)
                  · rename_i cells off
                    split at hc
                    · rename_i hbd
                      cases hc
                      cases hx with
                      | eptr b o vs h1 h2 =>
                        refine ⟨_, ?_, run_sliceArr hu hs k1' w⟩
                        rw [if_neg hne, add_mk]
                        have hmul : l * s + (hh' - l) * s = hh' * s := by rw [← Nat.add_mul]; congr 1; omega
                        exact .sl ⟨b, o + off + l * s, none⟩ (m - l) (fun j => vs (off + l * s + j)) (by simp; omega) (by omega) (fun c hc => by cases hc; rfl)
                          (fun j x hj => by
                            have := h1 _ x (drop_take_get hj)
                            exact ⟨rfl, by rw [show o + off + l * s + j = o + (off + l * s + j) by omega]; exact this.1, this.2⟩)
                          (fun j x hj => h2 _ x (drop_take_get hj))
                    · cases hc
                  · rename_i g off
                    split at hc
                    · rename_i cells hg
                      split at hc
                      · rename_i hbd
                        cases hc
                        cases hx with
                        | glob =>
                          obtain ⟨vs, hv⟩ := h.glob g cells hg
                          refine ⟨_, ?_, run_sliceArr hu hs k1' w⟩
                          rw [if_neg hne, add_mk]
                          have hmul : l * s + (hh' - l) * s = hh' * s := by rw [← Nat.add_mul]; congr 1; omega
                          exact .sl ⟨g, off + l * s, none⟩ (m - l) (fun j => vs (off + l * s + j)) (by simp; omega) (by omega) (fun c hc => by cases hc; rfl)
                            (fun j x hj => by
                              have := hv _ x (drop_take_get hj)
                              exact ⟨rfl, this.1, this.2.1⟩)
                            (fun j x hj => (hv _ x (drop_take_get hj)).2.2)
                      · cases hc
                    · cases hc
                  · cases hc
              · cases hc
            · cases hc
          · cases hc
      · cases hc
    · cases hc

end
end Go.Proofs.YtfpjlkkeelgffaaDoor.Am
