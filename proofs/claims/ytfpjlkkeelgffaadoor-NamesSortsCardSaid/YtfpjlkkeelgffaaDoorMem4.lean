/- Slicing: the machine does what the interpreter does. -/
import Derived.Test.YtfpjlkkeelgffaaDoorMem3
import Derived.Laws.Strings2
set_option linter.unusedVariables false
set_option linter.unusedSimpArgs false
namespace Go.Proofs.YtfpjlkkeelgffaaDoor.Am
section
variable {E : Env} {fl : Nat} {Γ : Sealed} {ρ : Ren} {σ : Store} {w : World}

/-- What slicing hands back. -/
theorem run_slice_of {P : Program} {t e : TypeId} {s len cap l h m : Nat} {a : Option Addr} {lv hv mv : Option Value} (hu : P.underlying t = some (.slice e)) (hs : sizeT P e = some s)
    (hb : ∀ w, (Instr.sliceBounds true len cap lv hv mv).run P w = .ok (l, h, m) w) (w : World) :
    (Instr.sliceAt t (.slice a len cap) lv hv mv).run P w = .ok (.slice (if m = l then a else a.map (·.add (l * s))) (h - l) (m - l)) w := by
  simp [Instr.sliceAt, Instr.slice, run_underlying hu, hb w, run_sizeT hs]

theorem sub_rep {cells : List PV} {a : Addr} {vs : Nat → Value} {len l h s capv : Nat} {xc : Option Nat} (hn : cells.length = len * s) (hlh : l ≤ h) (hh : h ≤ len)
    (hc : ∀ (j : Nat) (x : PV), cells[j]? = some x → a.spot = none ∧ Γ a.block (a.off + j) = some (vs j) ∧ x.oneCell = true) (hr : ∀ (j : Nat) (x : PV), cells[j]? = some x → Rep Γ ρ x (vs j))
    (b : Addr) (hb : l < h → b = a.add (l * s)) (hcap : h - l ≤ capv) (hx : ∀ c, xc = some c → capv = c) :
    Rep Γ ρ (.sl ((cells.drop (l * s)).take ((h - l) * s)) s (h - l) xc) (.slice (some b) (h - l) capv) := by
  have hmul : l * s + (h - l) * s = h * s := by rw [← Nat.add_mul]; congr 1; omega
  have hle : h * s ≤ len * s := Nat.mul_le_mul_right _ hh
  have hlen : ((cells.drop (l * s)).take ((h - l) * s)).length = (h - l) * s := by simp; omega
  have key : ∀ (j : Nat) (x : PV), ((cells.drop (l * s)).take ((h - l) * s))[j]? = some x → l < h := fun j x hj => by
    have : j < (h - l) * s := by have := (List.getElem?_eq_some_iff.1 hj).1; omega
    rcases Nat.lt_or_ge l h with h' | h'
    · exact h'
    · have : h - l = 0 := by omega
      rw [this] at hlen
      simp_all
  refine .sl b capv (fun j => vs (l * s + j)) hlen hcap hx (fun j x hj => ?_) (fun j x hj => hr _ x (drop_take_get hj))
  have h1 := hc _ x (drop_take_get hj)
  rw [hb (key j x hj), add_spot h1.1]
  exact ⟨rfl, by rw [Nat.add_assoc]; exact h1.2.1, h1.2.2⟩

theorem sliceSl_ok (h : Rel E fl Γ ρ σ w) {t e : TypeId} {s : Nat} (hu : E.P.underlying t = some (.slice e)) (hs : sizeT E.P e = some s) (hpos : 0 < s) {x p : PV} {lo hi mx : Option PV} {v : Value} {lv hv mv : Option Value}
    (hno : (hi.isNone && mx.isSome) = false) (hc : sliceSl σ s x lo hi mx = some p) (hx : Rep Γ ρ x v) (hl : RepOpt Γ ρ lo lv) (hh : RepOpt Γ ρ hi hv) (hm : RepOpt Γ ρ mx mv) :
    ∃ r, Rep Γ ρ p r ∧ (Instr.sliceAt t v lv hv mv).run E.P w = .ok r w := by
  unfold sliceSl at hc
  split at hc
  · -- nil
    cases hx
    split at hc
    · rename_i m em
      split at hc
      · rename_i hh' eh
        split at hc
        · rename_i l el
          cases hc
          obtain ⟨k1, k2, k3, k4⟩ := bounds_ok (P := E.P) (isSlice := true) (cap := 0) hl hh hm (Nat.le_refl 0) hno em eh el (fun _ _ => Nat.le_refl 0)
          have hm0 : m = 0 := by omega
          have hh0 : hh' = 0 := by omega
          have hl0 : l = 0 := by omega
          subst hm0 hh0 hl0
          refine ⟨.slice none 0 0, .nils, ?_⟩
          rw [run_slice_of hu hs k1]
          cases mx <;> simp
        · cases hc
      · cases hc
    · cases hc
  · rename_i cells es len xc
    split at hc
    · cases hc
    · rename_i hes
      simp only [ne_eq, Decidable.not_not] at hes
      subst hes
      split at hc
      · rename_i m em
        split at hc
        · rename_i hh' eh
          split at hc
          · rename_i l el
            cases hc
            cases hx with
            | slNil hx0 =>
              obtain ⟨k1, k2, k3, k4⟩ := bounds_ok (P := E.P) (isSlice := true) (cap := 0) hl hh hm (Nat.le_refl 0) hno em eh el (fun _ _ => Nat.le_refl 0)
              have hm0 : m = 0 := by omega
              have hh0 : hh' = 0 := by omega
              have hl0 : l = 0 := by omega
              subst hm0 hh0 hl0
              refine ⟨.slice none 0 0, ?_, ?_⟩
              · simp only [List.drop_nil, List.take_nil, Nat.sub_self]
                refine .slNil fun c hc => ?_
                unfold capA at hc
                cases mx with
                | none =>
                  cases xc with
                  | none => cases hc
                  | some c0 => simp at hc; rw [← hc]; exact hx0 c0 rfl
                | some mx => simp at hc; exact hc.symm
              · rw [run_slice_of hu hs k1]
                cases mx <;> simp
            | sl a cap vs hn hcap hxc h1 hr =>
              obtain ⟨k1, k2, k3, k4⟩ := bounds_ok (P := E.P) (isSlice := true) (cap := cap) hl hh hm hcap hno em eh el (fun _ _ => Nat.le_refl _)
              refine ⟨_, ?_, run_slice_of hu hs k1 w⟩
              unfold capA
              cases mx with
              | none =>
                simp only
                refine Eq.mpr ?_ (sub_rep (b := if cap = l then a else a.add (l * es)) (capv := cap - l) (xc := xc.map (· - l)) hn k2 (by omega) h1 hr ?_ ?_ ?_)
                · congr 1
                  split <;> simp_all
                · intro hlt
                  rw [if_neg (by omega)]
                · omega
                · intro c hcc
                  cases xc with
                  | none => cases hcc
                  | some c0 => simp at hcc; rw [← hcc, hxc c0 rfl]
              | some mx =>
                simp only
                refine Eq.mpr ?_ (sub_rep (b := if m = l then a else a.add (l * es)) (capv := m - l) (xc := some (m - l)) hn k2 (by omega) h1 hr ?_ ?_ ?_)
                · congr 1
                  split <;> simp_all
                · intro hlt
                  rw [if_neg (by omega)]
                · omega
                · intro c hcc
                  cases hcc
                  rfl
          · cases hc
        · cases hc
      · cases hc
  · rename_i es
    split at hc
    · cases hc
    · rename_i hes
      simp only [ne_eq, Decidable.not_not] at hes
      subst hes
      split at hc
      · rename_i mx
        split at hc
        · rename_i m em
          split at hc
          · rename_i hh' eh
            split at hc
            · rename_i l el
              cases hc
              cases hx with
              | sln a cap =>
                obtain ⟨k1, k2, k3, k4⟩ := bounds_ok (P := E.P) (isSlice := true) (cap := cap) hl hh hm (Nat.zero_le _) hno em eh el (fun h => by cases h)
                have hh0 : m = 0 := by omega
                have hh1 : hh' = 0 := by omega
                have hl0 : l = 0 := by omega
                subst hh0 hh1 hl0
                refine ⟨_, ?_, run_slice_of hu hs k1 w⟩
                exact .sl (cells := []) _ _ (fun _ => undef) (by simp) (Nat.zero_le _) (fun c hc => by cases hc; simp) (fun j x hj => by simp at hj) (fun j x hj => by simp at hj)
            · cases hc
          · cases hc
        · cases hc
      · cases hc
  · rename_i id blen coff es len xc
    split at hc
    · cases hc
    · rename_i hes
      simp only [ne_eq, Decidable.not_not] at hes
      subst hes
      split at hc
      · rename_i mm hmm
        split at hc
        · rename_i hb
          obtain ⟨b1, b2⟩ := hb
          cases hx with
          | oslOld l k1 k2 a cap hc' hx' =>
            have := (h.memAt k1 hmm).2.1
            omega
          | osl loc cap k1 k2 hcap hxc ho =>
            obtain ⟨e1, e2, e3, e4, e5, e6, _⟩ := (h.memAt k1 hmm).2
            -- what is surely there
            generalize hroom : roomA xc mm es coff len = room at hc
            unfold roomA at hroom
            have hr1 : room ≤ cap ∧ (xc = none → len ≤ room) := by
              cases xc with
              | some c => simp at hroom; rw [← hroom, hxc c rfl]; exact ⟨Nat.le_refl _, fun e => by cases e⟩
              | none =>
                obtain ⟨o1, o2⟩ := ho rfl
                have hsz : mm.size = es := by rw [← e2]; exact o1.symm
                simp only [hsz, if_true] at hroom
                have hdiv : coff % es = 0 := by
                  have h1 : coff = loc.cap * es - cap * es := by omega
                  rw [h1, ← Nat.sub_mul]
                  exact Nat.mul_mod_left _ _
                have hco : coff / es * es = coff := by have := Nat.div_add_mod coff es; rw [Nat.mul_comm]; omega
                have hcap2 : cap + coff / es = loc.cap := by
                  have : (cap + coff / es) * es = loc.cap * es := by rw [Nat.add_mul, hco]; exact o2
                  exact Nat.eq_of_mul_eq_mul_right hpos this
                have hlen2 : coff / es + len ≤ mm.len := by
                  have : (coff / es + len) * es ≤ mm.len * es := by rw [Nat.add_mul, hco]; rw [e3, hsz] at b2; exact b2
                  exact Nat.le_of_mul_le_mul_right this hpos
                omega
            split at hc
            · rename_i q em
              split at hc
              · rename_i hh' eh
                split at hc
                · rename_i l el
                  obtain ⟨k1', k2', k3', k4'⟩ := bounds_ok (P := E.P) (isSlice := true) (cap := cap) hl hh hm hr1.1 hno em eh el (fun e1 e2 => by
                    cases xc with
                    | none => exact hr1.2 rfl
                    | some c => simp at hroom; rw [← hroom, ← hxc c rfl]; exact hcap)
                  have hrun := run_slice_of (a := some (⟨loc.block, coff, none⟩ : Addr)) hu hs k1' w
                  by_cases hempty : l = hh' ∧ 0 < l
                  · rw [if_pos hempty] at hc
                    cases hc
                    refine ⟨_, ?_, hrun⟩
                    obtain ⟨rfl, hl0⟩ := hempty
                    simp only [Nat.sub_self]
                    unfold capA
                    cases mx with
                    | none =>
                      simp only
                      refine Eq.mpr ?_ (Rep.sl (Γ := Γ) (ρ := ρ) (cells := []) (es := es) (len := 0) (xc := xc.map (· - l)) (if cap = l then ⟨loc.block, coff, none⟩ else (⟨loc.block, coff, none⟩ : Addr).add (l * es)) (cap - l) (fun _ => undef) (by simp) (by omega) ?_ (fun j x hj => by simp at hj) (fun j x hj => by simp at hj))
                      · congr 1
                        split <;> simp_all
                      · intro c hcc
                        cases xc with
                        | none => cases hcc
                        | some c0 => simp at hcc; rw [← hcc, hxc c0 rfl]
                    | some mx =>
                      simp only
                      refine Eq.mpr ?_ (Rep.sl (Γ := Γ) (ρ := ρ) (cells := []) (es := es) (len := 0) (xc := some (q - l)) (if q = l then ⟨loc.block, coff, none⟩ else (⟨loc.block, coff, none⟩ : Addr).add (l * es)) (q - l) (fun _ => undef) (by simp) (by omega) ?_ (fun j x hj => by simp at hj) (fun j x hj => by simp at hj))
                      · congr 1
                        split <;> simp_all
                      · intro c hcc
                        cases hcc
                        rfl
                  · rw [if_neg hempty] at hc
                    cases hc
                    refine ⟨_, ?_, hrun⟩
                    have haddr : ∀ M, hh' ≤ M → (if M = l then some (⟨loc.block, coff, none⟩ : Addr) else (some (⟨loc.block, coff, none⟩ : Addr)).map (·.add (l * es))) = some ⟨loc.block, coff + l * es, none⟩ := fun M hM => by
                      by_cases hz : M = l
                      · have : l = 0 := by
                          rcases Nat.eq_zero_or_pos l with h0 | h0
                          · exact h0
                          · exact absurd ⟨by omega, h0⟩ hempty
                        subst this
                        simp [hz]
                      · rw [if_neg hz]
                        simp [add_mk]
                    unfold capA
                    cases mx with
                    | none =>
                      simp only
                      rw [haddr cap (by omega)]
                      refine .osl loc (cap - l) k1 k2 (by omega) ?_ ?_
                      · intro c hcc
                        cases xc with
                        | none => cases hcc
                        | some c0 => simp at hcc; rw [← hcc, hxc c0 rfl]
                      · intro hcc
                        cases xc with
                        | some c0 => cases hcc
                        | none =>
                          obtain ⟨o1, o2⟩ := ho rfl
                          refine ⟨o1, ?_⟩
                          have : (cap - l) * es + l * es = cap * es := by rw [← Nat.add_mul]; congr 1; omega
                          omega
                    | some mx =>
                      simp only
                      rw [haddr q (by omega)]
                      refine .osl loc (q - l) k1 k2 (by omega) ?_ ?_
                      · intro c hcc
                        cases hcc
                        rfl
                      · intro hcc
                        cases hcc
                · cases hc
              · cases hc
            · cases hc
        · cases hc
      · cases hc
  · cases hc

end
end Go.Proofs.YtfpjlkkeelgffaaDoor.Am
