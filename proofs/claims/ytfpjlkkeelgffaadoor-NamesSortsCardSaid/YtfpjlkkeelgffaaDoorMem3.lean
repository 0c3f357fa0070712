/- Slice literals, make, slicing: the machine does what the interpreter does. -/
import Derived.Test.YtfpjlkkeelgffaaDoorMem2
set_option linter.unusedVariables false
set_option linter.unusedSimpArgs false
namespace Go.Proofs.YtfpjlkkeelgffaaDoor.Am
section
variable {E : Env} {fl : Nat} {Γ : Sealed} {ρ : Ren} {σ : Store} {w : World}

theorem sealParts_ok : ∀ {ps qs : List (Nat × PV)} {vs : List (Nat × Value)} {σ σ' : Store} {Γ : Sealed}, Rel E fl Γ ρ σ w → sealParts σ ps = some (qs, σ') → RepParts Γ ρ ps vs →
    ∃ Γ', RepParts Γ' ρ qs vs ∧ Rel E fl Γ' ρ σ' w ∧ Post fl Γ ρ σ w Γ' ρ σ' w
  | [], qs, vs, σ, σ', Γ, h, hs, hr => by
    cases hs
    exact ⟨Γ, hr, h, .refl _ _ _ _ _⟩
  | (i, x) :: ps, qs, vs, σ, σ', Γ, h, hs, hr => by
    unfold sealParts at hs
    split at hs
    · rename_i y σ1 hy
      split at hs
      · rename_i ys σ2 hys
        cases hs
        match vs, hr with
        | (j, v) :: vs, ⟨e, hv, hvs⟩ =>
          obtain ⟨Γ1, k1, k2, k3⟩ := sealV_ok h hy hv
          obtain ⟨Γ2, m1, m2, m3⟩ := sealParts_ok k2 hys (hvs.mono k3.le)
          exact ⟨Γ2, ⟨e, k1.mono m3.le, m1⟩, m2, k3.trans m3⟩
      · cases hs
    · cases hs

theorem sealArgs_ok : ∀ {ps qs : List PV} {vs : List Value} {σ σ' : Store} {Γ : Sealed}, Rel E fl Γ ρ σ w → sealArgs σ ps = some (qs, σ') → Reps Γ ρ ps vs →
    ∃ Γ', Reps Γ' ρ qs vs ∧ Rel E fl Γ' ρ σ' w ∧ Post fl Γ ρ σ w Γ' ρ σ' w
  | [], qs, vs, σ, σ', Γ, h, hs, hr => by
    cases hs
    exact ⟨Γ, hr, h, .refl _ _ _ _ _⟩
  | x :: ps, qs, vs, σ, σ', Γ, h, hs, hr => by
    unfold sealArgs at hs
    split at hs
    · rename_i y σ1 hy
      split at hs
      · rename_i ys σ2 hys
        cases hs
        obtain ⟨v, ws, rfl, hv, hvs⟩ := hr.inv_cons
        obtain ⟨Γ1, k1, k2, k3⟩ := sealV_ok h hy hv
        obtain ⟨Γ2, m1, m2, m3⟩ := sealArgs_ok k2 hys (hvs.mono k3.le)
        exact ⟨Γ2, .cons (k1.mono m3.le) m1, m2, k3.trans m3⟩
      · cases hs
    · cases hs

theorem sealP_ok {x y : PV} {v : Value} {σ' : Store} {Γ : Sealed} (h : Rel E fl Γ ρ σ w) (hs : sealP σ x = some (y, σ')) (hr : Rep Γ ρ x v) :
    ∃ Γ', Rep Γ' ρ y v ∧ Rel E fl Γ' ρ σ' w ∧ Post fl Γ ρ σ w Γ' ρ σ' w := by
  unfold sealP at hs
  split at hs
  · rename_i id blen off
    split at hs
    · rename_i m hm
      split at hs
      · rename_i hc
        cases hs
        have hid : ∃ l, ρ id = some l := by cases hr <;> exact ⟨_, by assumption⟩
        obtain ⟨l, hl⟩ := hid
        obtain ⟨hget, hok⟩ := h.memAt hl hm
        obtain ⟨Γ', k1, k2, k3⟩ := ice_ok h hl hget
        have hf : freezeId σ id = σ.set id (.mem { m with ice := true }) := by simp [freezeId, hget]
        rw [hf]
        refine ⟨Γ', ?_, k1, k2⟩
        cases hr with
        | ptr l' h' hl' =>
          rw [hl] at h'
          cases h'
          have e : (Value.pointer (some ⟨l.block, off, none⟩)) = .pointer (some ⟨l.block, 0 + off, none⟩) := by rw [Nat.zero_add]
          rw [e]
          refine .eptr l.block 0 (fun j => (Γ' l.block j).getD (.bool false)) (fun j x hx => ?_) (fun j x hx => ?_)
          · obtain ⟨u, u1, u2, u3⟩ := k3 j x hx
            rw [Nat.zero_add, u1]
            exact ⟨rfl, u3⟩
          · obtain ⟨u, u1, u2, u3⟩ := k3 j x hx
            rw [u1]
            exact u2
        | ptrOld l' h' hl' a =>
          rw [hl] at h'
          cases h'
          have := hok.1
          omega
      · cases hs
    · cases hs
  · exact sealV_ok h hs hr

theorem sealPA_ok : ∀ {ps qs : List PV} {vs : List Value} {σ σ' : Store} {Γ : Sealed}, Rel E fl Γ ρ σ w → sealPA σ ps = some (qs, σ') → Reps Γ ρ ps vs →
    ∃ Γ', Reps Γ' ρ qs vs ∧ Rel E fl Γ' ρ σ' w ∧ Post fl Γ ρ σ w Γ' ρ σ' w
  | [], qs, vs, σ, σ', Γ, h, hs, hr => by
    cases hs
    exact ⟨Γ, hr, h, .refl _ _ _ _ _⟩
  | x :: ps, qs, vs, σ, σ', Γ, h, hs, hr => by
    unfold sealPA at hs
    split at hs
    · rename_i y σ1 hy
      split at hs
      · rename_i ys σ2 hys
        cases hs
        obtain ⟨v, ws, rfl, hv, hvs⟩ := hr.inv_cons
        obtain ⟨Γ1, k1, k2, k3⟩ := sealP_ok h hy hv
        obtain ⟨Γ2, m1, m2, m3⟩ := sealPA_ok k2 hys (hvs.mono k3.le)
        exact ⟨Γ2, .cons (k1.mono m3.le) m1, m2, k3.trans m3⟩
      · cases hs
    · cases hs

theorem repCells_length (z : List PV) : ∀ n, (repCells z n).length = n * z.length
  | 0 => by simp [repCells]
  | n + 1 => by simp only [repCells, List.length_append, repCells_length z n, Nat.add_mul]; omega

theorem repCells_get (z : List PV) (hz : 0 < z.length) : ∀ n j, j < n * z.length → (repCells z n)[j]? = z[j % z.length]?
  | 0, j, h => by omega
  | n + 1, j, h => by
    simp only [repCells]
    by_cases hj : j < z.length
    · rw [List.getElem?_append_left hj, Nat.mod_eq_of_lt hj]
    · rw [List.getElem?_append_right (by omega), repCells_get z hz n _ (by rw [Nat.add_mul] at h; omega)]
      congr 1
      rw [Nat.mod_eq_sub_mod (by omega : z.length ≤ j)]

theorem repCells_all {z : List PV} (h : z.all PV.oneCell = true) : ∀ n, (repCells z n).all PV.oneCell = true
  | 0 => rfl
  | n + 1 => by simp only [repCells, List.all_append, h, repCells_all h n, Bool.and_self]

theorem made_reps {z : List PV} {zv : Array Value} (h : Reps Γ ρ z zv.toList) (hz : 0 < z.length) (n : Nat) : Reps Γ ρ (repCells z n) ((Array.range (n * z.length)).map (zv[· % zv.size]!)).toList := by
  have hsz : zv.size = z.length := by simpa using h.1
  refine ⟨by simp [repCells_length], fun j x v hx hv => ?_⟩
  have hj : j < n * z.length := by have := (List.getElem?_eq_some_iff.1 hx).1; rw [repCells_length] at this; exact this
  rw [repCells_get z hz n j hj] at hx
  have hm : j % zv.size < zv.size := by rw [hsz]; exact Nat.mod_lt _ hz
  have hv' : zv[j % zv.size] = v := by
    simp only [Array.toList_map, Array.toList_range, List.getElem?_map, List.getElem?_range hj, Option.map_some, Option.some.injEq] at hv
    rw [getElem!_pos zv (j % zv.size) hm] at hv
    exact hv
  refine h.2 (j % z.length) x v hx ?_
  rw [← hv', ← hsz]
  simp [hm]

theorem buildSliceA_ok (h : Rel E fl Γ ρ σ w) {t : TypeId} {n : Nat} {parts : List (Nat × PV)} {vs : List (Nat × Value)} {p : PV} {σ' : Store} (hb : buildSliceA E σ t n parts = some (p, σ')) (hr : RepParts Γ ρ parts vs) :
    ∃ r w', (Instr.buildSlice t n vs.toArray).run E.P w = .ok r w' ∧ Moves E fl Γ ρ σ w p σ' r w' := by
  unfold buildSliceA at hb
  split at hb
  · rename_i e hu
    split at hb
    · rename_i s z ps σ1 hs hz hps
      split at hb
      · rename_i hc
        obtain ⟨c1, c2, c3⟩ := hc
        cases hf : fillL (fun i => some (i * s, s)) (repCells z.cells n) ps with
        | none => simp [hf] at hb
        | some cells =>
          simp [hf] at hb
          obtain ⟨rfl, rfl⟩ := hb
          obtain ⟨Γ1, k1, k2, k3⟩ := sealParts_ok h hps hr
          obtain ⟨i, zv, hi, hzv, hrz, h1⟩ := zeroT_rep (Γ := Γ1) (ρ := ρ) hz
          have his : i.size = s := by obtain ⟨i', hi', e⟩ := sizeT_info hs; rw [hi] at hi'; cases hi'; exact e
          have hmade := made_reps hrz.cells (by omega) n
          rw [c3] at hmade
          obtain ⟨C', e1, e2, e3, e4⟩ := fill_ok (place' := fun i => some (i * s, s)) (fun i r h => h) hf k1 hmade (repCells_all h1 n)
          have hrun : (Instr.buildSlice t n vs.toArray).run E.P w = .ok (.slice (some ⟨w.heap.size, 0, none⟩) n n) (w.alloc (.cells C' e)) := by
            have hze : n * s = 0 → C' = #[] := fun hz0 => by
              have : C'.size = n * s := by have := e2.1; simp at this; rw [this, e4, repCells_length, c3]
              exact Array.eq_empty_of_size_eq_zero (by omega)
            by_cases hn : n * s = 0
            · rw [hn] at e1
              simp only [Array.range_zero', Array.map_empty] at e1
              simp [Instr.buildSlice, run_underlying hu, run_sizeT hs, hn, Array.range_zero', e1, newRow]
            · have := run_buildSlice w t e n vs.toArray C' i zv hu hi hzv (by rw [his]; omega) (by rw [his]; exact hn) (by rw [his]; simpa using e1)
              exact this
          refine ⟨_, _, hrun, ?_⟩
          obtain ⟨m1, m2, m3⟩ := seal_new k2 (Same.alloc w (.cells C' e)) (heap_alloc_lt w _) (Nat.le_refl _) (heap_alloc_new w _)
          have hlen : cells.length = n * s := by rw [e4, repCells_length, c3]
          refine ⟨_, ρ, ?_, m1, k3.trans m2⟩
          refine .sl ⟨w.heap.size, 0, none⟩ n (fun j => (C'[j]?).getD undef) hlen (Nat.le_refl _) (fun c hc => by cases hc; rfl) (fun j x hj => ⟨rfl, ?_, List.all_eq_true.1 e3 x (List.mem_of_getElem? hj)⟩) (fun j x hj => ?_)
          · obtain ⟨v, hv, _⟩ := e2.at hj
            have hv' : C'[j]? = some v := by simpa using hv
            simp [hv']
          · obtain ⟨v, hv, hx⟩ := e2.at hj
            have hv' : C'[j]? = some v := by simpa using hv
            simp only [hv', Option.getD_some]
            exact hx.mono m2.le
      · cases hb
    · cases hb
  · cases hb

theorem makeSliceA_ok (h : Rel E fl Γ ρ σ w) (hfl : fl ≤ σ.length) {t : TypeId} {x y p : PV} {v u : Value} {σ' : Store} (hb : makeSliceA E σ t x y = some (p, σ')) (hx : Rep Γ ρ x v) (hy : Rep Γ ρ y u) :
    ∃ r w', (Instr.makeSlice t v u).run E.P w = .ok r w' ∧ Moves E fl Γ ρ σ w p σ' r w' := by
  unfold makeSliceA at hb
  split at hb
  · rename_i e kl l kc c hu
    cases hx; cases hy
    split at hb
    · rename_i i z hi hz
      split at hb
      · rename_i hc
        obtain ⟨c1, c2, c3, c4, c5, c6⟩ := hc
        cases hb
        obtain ⟨i', zv, hi', hzv, hrz, h1⟩ := zeroT_rep (Γ := Γ) (ρ := ρ) hz
        rw [hi] at hi'
        cases hi'
        have hbytes : (i.bytes : Int) * c ≤ 281474976710656 := by
          have : (i.bytes : Int) * c ≤ 65536 * 1048576 := Int.mul_le_mul (by omega) (by omega) (by omega) (by omega)
          omega
        have hrun := run_make (P := E.P) w t e i zv hu hi hzv kl kc l c c1 c2 hbytes (by omega)
        refine ⟨_, _, hrun, ?_⟩
        have hmade := made_reps hrz.cells (by omega) c.toNat
        rw [c6] at hmade
        have hmd : madeCells zv.cells (c.toNat * i.size) = (Array.range (c.toNat * i.size)).map (zv.cells[· % zv.cells.size]!) := rfl
        have hn := new_ok h hfl (Same.alloc w (.cells (madeCells zv.cells (c.toNat * i.size)) e)) (heap_alloc_lt w _) (m := ⟨repCells z.cells c.toNat, i.size, c.toNat, true, false, false⟩) (cap := c.toNat) (Nat.le_refl _) (heap_alloc_new w _)
          (by rw [size_madeCells]) (by simp [repCells_length, c6]) (Nat.le_refl _) (fun _ => rfl) (repCells_all h1 _) (by
            rw [hmd, List.take_of_length_le (by simp [repCells_length, c6])]; exact hmade)
        refine ⟨Γ, _, Rep.osl (id := σ.length) ⟨w.heap.size, c.toNat, c.toNat, i.size⟩ c.toNat hn.2.2 rfl (by omega) (fun q hq => by cases hq) (fun _ => ⟨rfl, by simp⟩), hn.1, hn.2.1⟩
      · cases hb
    · cases hb
  · cases hb

/-- Bounds of a slicing. -/
theorem boundA_ok {x : PV} {v : Value} {y n : Nat} (h : boundA x y = some n) (hx : Rep Γ ρ x v) : ∃ (k : IntKind) (i : Int), v = .int k i ∧ 0 ≤ i ∧ i ≤ y ∧ n = i.toNat ∧ n ≤ y := by
  unfold boundA at h
  split at h
  · rename_i k i
    split at h
    · rename_i hb
      cases h
      cases hx
      exact ⟨k, i, rfl, hb.1, hb.2, rfl, by omega⟩
    · cases h
  · cases h

/-- The bounds that stand in the text. -/
def RepOpt (Γ : Sealed) (ρ : Ren) : Option PV → Option Value → Prop
  | none, none => True
  | some x, some v => Rep Γ ρ x v
  | _, _ => False

theorem bounds_ok {P : Program} {isSlice : Bool} {len cap room m hh l : Nat} {lo hi mx : Option PV} {lv hv mv : Option Value} (hl : RepOpt Γ ρ lo lv) (hhi : RepOpt Γ ρ hi hv) (hm : RepOpt Γ ρ mx mv)
    (hroom : room ≤ cap) (hno : (hi.isNone && mx.isSome) = false) (em : optBound mx room room = some m) (eh : optBound hi len m = some hh) (el : optBound lo 0 hh = some l) (hlen : mx = none → hi = none → len ≤ room) :
    (∀ w, (Instr.sliceBounds isSlice len cap lv hv mv).run P w = .ok (l, hh, match mx with | some _ => m | none => cap) w) ∧ l ≤ hh ∧ m ≤ room ∧ hh ≤ m := by
  have key : ∀ (a b : Nat), optBound mx room room = some m → m ≤ room := fun _ _ e => by
    unfold optBound at e
    split at e
    · cases e; exact Nat.le_refl _
    · unfold boundA at e
      split at e
      · split at e
        · cases e; omega
        · cases e
      · cases e
  have hmr := key 0 0 em
  cases mx with
  | none =>
    cases mv with
    | some _ => exact hm.elim
    | none =>
      simp only [optBound, Option.some.injEq] at em
      subst em
      cases hi with
      | none =>
        cases hv with
        | some _ => exact hhi.elim
        | none =>
          simp only [optBound, Option.some.injEq] at eh
          subst eh
          have := hlen rfl rfl
          cases lo with
          | none =>
            cases lv with
            | some _ => exact hl.elim
            | none =>
              simp only [optBound, Option.some.injEq] at el
              subst el
              exact ⟨fun w => by simp [Instr.sliceBounds], by omega, by omega, by omega⟩
          | some lo =>
            cases lv with
            | none => exact hl.elim
            | some lv =>
              obtain ⟨k, i, rfl, h0, h1, rfl, h2⟩ := boundA_ok el hl
              exact ⟨fun w => by simp [Instr.sliceBounds, run_sliceBound w k i len _ h0 h1], by omega, by omega, by omega⟩
      | some hi =>
        cases hv with
        | none => exact hhi.elim
        | some hv =>
          obtain ⟨kh, ih, rfl, g0, g1, rfl, g2⟩ := boundA_ok eh hhi
          have g3 : ih ≤ (cap : Int) := by omega
          cases lo with
          | none =>
            cases lv with
            | some _ => exact hl.elim
            | none =>
              simp only [optBound, Option.some.injEq] at el
              subst el
              exact ⟨fun w => by simp [Instr.sliceBounds, run_sliceBound w kh ih cap _ g0 g3], by omega, by omega, by omega⟩
          | some lo =>
            cases lv with
            | none => exact hl.elim
            | some lv =>
              obtain ⟨k, i, rfl, h0, h1, rfl, h2⟩ := boundA_ok el hl
              exact ⟨fun w => by simp [Instr.sliceBounds, run_sliceBound w kh ih cap _ g0 g3, run_sliceBound w k i ih.toNat _ h0 h1], by omega, by omega, by omega⟩
  | some mx =>
    cases mv with
    | none => exact hm.elim
    | some mv =>
      obtain ⟨km, im, rfl, f0, f1, rfl, f2⟩ := boundA_ok em hm
      have f3 : im ≤ (cap : Int) := by omega
      cases hi with
      | none => simp at hno
      | some hi =>
        cases hv with
        | none => exact hhi.elim
        | some hv =>
          obtain ⟨kh, ih, rfl, g0, g1, rfl, g2⟩ := boundA_ok eh hhi
          cases lo with
          | none =>
            cases lv with
            | some _ => exact hl.elim
            | none =>
              simp only [optBound, Option.some.injEq] at el
              subst el
              exact ⟨fun w => by simp [Instr.sliceBounds, run_sliceBound w km im cap _ f0 f3, run_sliceBound w kh ih im.toNat _ g0 g1], by omega, by omega, by omega⟩
          | some lo =>
            cases lv with
            | none => exact hl.elim
            | some lv =>
              obtain ⟨k, i, rfl, h0, h1, rfl, h2⟩ := boundA_ok el hl
              exact ⟨fun w => by simp [Instr.sliceBounds, run_sliceBound w km im cap _ f0 f3, run_sliceBound w kh ih im.toNat _ g0 g1, run_sliceBound w k i ih.toNat _ h0 h1], by omega, by omega, by omega⟩

end
end Go.Proofs.YtfpjlkkeelgffaaDoor.Am
