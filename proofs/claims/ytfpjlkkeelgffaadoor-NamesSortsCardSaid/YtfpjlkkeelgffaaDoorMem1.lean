/- Loads, stores, new variables: the machine does what the interpreter does. -/
import Derived.Test.YtfpjlkkeelgffaaDoorPure4
set_option linter.unusedVariables false
set_option linter.unusedSimpArgs false
namespace Go.Proofs.YtfpjlkkeelgffaaDoor.Am
section
variable {E : Env} {fl : Nat} {Γ : Sealed} {ρ : Ren} {σ : Store} {w : World}

theorem add_mk (b o n : Nat) : (⟨b, o, none⟩ : Addr).add n = ⟨b, o + n, none⟩ := by unfold Addr.add; split <;> simp_all

theorem add_spot {a : Addr} (h : a.spot = none) (n : Nat) : a.add n = ⟨a.block, a.off + n, none⟩ := by
  cases a; simp only at h; subst h; exact add_mk _ _ _

theorem Moves.stay (h : Rel E fl Γ ρ σ w) {p : PV} {r : Value} (hr : Rep Γ ρ p r) : Moves E fl Γ ρ σ w p σ r w := ⟨Γ, ρ, hr, h, .refl _ _ _ _ _⟩

/-- Cells that are read. -/
def Reads (Γ : Sealed) (ρ : Ren) (w : World) (xs : List PV) (a : Addr) : Prop :=
  xs.all PV.oneCell = true ∧ ∃ vs : List Value, Reps Γ ρ xs vs ∧ ∀ (j : Nat) (v : Value), vs[j]? = some v → w.cell? (a.add j) = some v

theorem drop_take_get {α : Type} {xs : List α} {off n j : Nat} {x : α} (h : ((xs.drop off).take n)[j]? = some x) : xs[off + j]? = some x := by
  rw [List.getElem?_take] at h
  split at h
  · rw [List.getElem?_drop] at h; exact h
  · cases h

theorem Rel.reads (h : Rel E fl Γ ρ σ w) {id : Nat} {l : Loc} {m : Mem} (hl : ρ id = some l) (hm : getMem σ id = some m) (off n : Nat) (hn : off + n ≤ m.cells.length) :
    Reads Γ ρ w ((m.cells.drop off).take n) ⟨l.block, off, none⟩ := by
  obtain ⟨e1, e2, e3, e4, e5, e6, C, T, e7, e8, e9⟩ := (h.memAt hl hm).2
  refine ⟨?_, (((C.toList.take m.cells.length).drop off).take n), (e9.drop off).take n, fun j v hv => ?_⟩
  · rw [List.all_eq_true] at e6 ⊢
    exact fun x hx => e6 x (List.mem_of_mem_drop (List.mem_of_mem_take hx))
  · have := drop_take_get hv
    rw [List.getElem?_take] at this
    split at this
    · rw [add_mk]
      simp only [World.cell?, e7]
      simpa using this
    · cases this

theorem sealed_reads (h : Rel E fl Γ ρ σ w) {cells : List PV} {b o : Nat} {vs : Nat → Value} (hc : ∀ (j : Nat) (x : PV), cells[j]? = some x → Γ b (o + j) = some (vs j) ∧ x.oneCell = true)
    (hr : ∀ (j : Nat) (x : PV), cells[j]? = some x → Rep Γ ρ x (vs j)) (off n : Nat) (hn : off + n ≤ cells.length) : Reads Γ ρ w ((cells.drop off).take n) ⟨b, o + off, none⟩ := by
  have hlen : ((cells.drop off).take n).length = n := by simp; omega
  refine ⟨?_, (List.range n).map fun j => vs (off + j), ⟨by simp [hlen], fun j x v hx hv => ?_⟩, fun j v hv => ?_⟩
  · rw [List.all_eq_true]
    intro x hx
    obtain ⟨j, hj⟩ := List.getElem?_of_mem hx
    exact (hc _ x (drop_take_get hj)).2
  · have h1 := drop_take_get hx
    have hj : j < n := by have := (List.getElem?_eq_some_iff.1 hx).1; omega
    simp [hj] at hv
    subst hv
    exact hr _ x h1
  · have hj : j < n := by have := (List.getElem?_eq_some_iff.1 hv).1; simpa using this
    simp [hj] at hv
    subst hv
    have hlt : off + j < cells.length := by omega
    have := (hc (off + j) _ (List.getElem?_eq_getElem hlt)).1
    rw [add_mk, Nat.add_assoc]
    exact h.fix _ _ _ this

theorem cellsAt_ok (h : Rel E fl Γ ρ σ w) {a : PV} {n : Nat} {xs : List PV} {v : Value} (hc : cellsAt E σ a n = some xs) (ha : Rep Γ ρ a v) :
    ∃ ad : Addr, v = .pointer (some ad) ∧ xs.length = n ∧ Reads Γ ρ w xs ad := by
  unfold cellsAt at hc
  split at hc
  · rename_i id blen off
    split at hc
    · rename_i m hm
      split at hc
      · rename_i hb
        cases hc
        cases ha with
        | ptr l h1 h2 => exact ⟨_, rfl, by simp; omega, h.reads h1 hm off n hb.2⟩
        | ptrOld l h1 h2 a =>
          have := (h.memAt h1 hm).2.1
          omega
      · cases hc
    · cases hc
  · rename_i cells off
    split at hc
    · rename_i hb
      cases hc
      cases ha with
      | eptr b o vs h1 h2 => exact ⟨_, rfl, by simp; omega, sealed_reads h h1 h2 off n hb⟩
    · cases hc
  · rename_i g off
    split at hc
    · rename_i cells hg
      split at hc
      · rename_i hb
        cases hc
        cases ha with
        | glob =>
          obtain ⟨vs, hv⟩ := h.glob g cells hg
          have := sealed_reads (b := g) (o := 0) h (cells := cells) (vs := vs) (fun j x hx => ⟨by simpa using (hv j x hx).1, (hv j x hx).2.1⟩) (fun j x hx => (hv j x hx).2.2) off n hb
          exact ⟨_, rfl, by simp; omega, by simpa using this⟩
      · cases hc
    · cases hc
  · cases hc

theorem Reads.load {xs : List PV} {a : Addr} (h : Reads Γ ρ w xs a) (P : Program) : ∃ vs : List Value, Reps Γ ρ xs vs ∧ (loadCells a xs.length).run P w = .ok vs.toArray w := by
  obtain ⟨_, vs, h1, h2⟩ := h
  exact ⟨vs, h1, by rw [← h1.1]; exact run_loadCells_list (P := P) w a vs h2⟩

theorem Rep.viewC {Γ ρ} (k : Kd) {x : PV} {v : Value} (h : Rep Γ ρ x v) : Rep Γ ρ (viewC k x) v := by
  unfold Am.viewC
  split
  · cases h
    exact .slNil fun c hc => by cases hc; rfl
  · exact h

theorem Rep.viewW {Γ ρ} (k : Kd) {x : PV} {v : Value} (h : Rep Γ ρ x v) : Rep Γ ρ (viewW k x) v := by
  unfold Am.viewW
  split
  · cases h
    exact .slNil fun c hc => by cases hc
  · cases h with
    | sl a cap vs hn hc hx h hr => exact .sl a cap vs hn hc (fun c hc => by cases hc) h hr
    | slNil hx => exact .slNil fun c hc => by cases hc
  · exact h

theorem viewW_one (k : Kd) (x : PV) : (viewW k x).oneCell = x.oneCell := by
  unfold viewW
  split <;> rfl

theorem viewL_get : ∀ (ks : List Kd) (xs : List PV) (j : Nat) (y : PV), (viewL ks xs)[j]? = some y → ∃ x k, xs[j]? = some x ∧ (y = x ∨ y = viewW k x)
  | k :: ks, x :: xs, 0, y, h => by
    simp only [viewL, List.getElem?_cons_zero, Option.some.injEq] at h
    exact ⟨x, k, rfl, .inr h.symm⟩
  | k :: ks, x :: xs, j + 1, y, h => by
    simp only [viewL, List.getElem?_cons_succ] at h
    simpa using viewL_get ks xs j y h
  | [], xs, j, y, h => ⟨y, .raw, by cases xs <;> exact h, .inl rfl⟩
  | k :: ks, [], j, y, h => by simp [viewL] at h

theorem viewL_len : ∀ (ks : List Kd) (xs : List PV), (viewL ks xs).length = xs.length
  | k :: ks, x :: xs => by simp [viewL, viewL_len ks xs]
  | [], xs => by cases xs <;> rfl
  | k :: ks, [] => rfl

theorem Rep.viewV {Γ ρ} (ks : List Kd) {x : PV} {v : Value} (h : Rep Γ ρ x v) : Rep Γ ρ (viewV ks x) v := by
  unfold Am.viewV
  split
  · exact h
  · cases h with
    | agg hn hr =>
      refine .agg (by rw [viewL_len]; exact hn) fun j y u hy hu => ?_
      obtain ⟨x, k, hx, e⟩ := viewL_get _ _ _ _ hy
      have := hr j x u hx hu
      rcases e with rfl | rfl
      · exact this
      · exact this.viewW k
  · exact h.viewC _

theorem viewV_cells (ks : List Kd) {x : PV} (h : x.cells.all PV.oneCell = true) : (viewV ks x).cells.all PV.oneCell = true := by
  unfold viewV
  split
  · exact h
  · rename_i cs _
    simp only [PV.cells, List.all_eq_true] at h ⊢
    intro y hy
    obtain ⟨j, hj, rfl⟩ := List.getElem_of_mem hy
    obtain ⟨x, k, hx, e⟩ := viewL_get ks cs j _ (List.getElem?_eq_getElem hj)
    have h1 := h x (List.mem_of_getElem? hx)
    rcases e with e | e
    · rw [e]; exact h1
    · rw [e, viewW_one]; exact h1
  · rename_i v _ hno
    unfold viewC
    split
    · rfl
    · exact h

theorem loadRaw_ok (h : Rel E fl Γ ρ σ w) {t : TypeId} {a p : PV} {v : Value} (hc : loadRaw E σ t a = some p) (ha : Rep Γ ρ a v) :
    ∃ r, Rep Γ ρ p r ∧ (∃ ad : Addr, v = .pointer (some ad) ∧ (loadVar t ad).run E.P w = .ok r w) ∧ p.cells.all PV.oneCell = true := by
  unfold loadRaw at hc
  split at hc
  · rename_i ht
    split at hc
    · rename_i n hs
      cases hx : cellsAt E σ a n with
      | none => simp [hx] at hc
      | some xs =>
        simp [hx] at hc
        subst hc
        obtain ⟨ad, rfl, hn, hr⟩ := cellsAt_ok h hx ha
        obtain ⟨vs, h1, h2⟩ := hr.load E.P
        rw [hn] at h2
        exact ⟨.agg vs.toArray, h1.agg, ⟨ad, rfl, by simp [loadVar, run_aggT ht, run_sizeT hs, h2]⟩, hr.1⟩
    · cases hc
  · rename_i ht
    split at hc
    · rename_i x hx
      cases hc
      obtain ⟨ad, rfl, hn, ho, vs, h1, h2⟩ := cellsAt_ok h hx ha
      obtain ⟨v, ws, rfl, h3, h4⟩ := h1.inv_cons
      have h5 := h2 0 v rfl
      have h6 : ad.add 0 = ad := by simp [Addr.add]
      rw [h6] at h5
      refine ⟨v, h3, ⟨ad, rfl, by simp [loadVar, run_aggT ht, h5]⟩, ?_⟩
      have hone : p.oneCell = true := by simpa using ho
      cases p <;> simp_all [PV.cells, PV.oneCell]
    · cases hc
  · cases hc

theorem loadAt_ok (h : Rel E fl Γ ρ σ w) {t : TypeId} {a p : PV} {v : Value} (hc : loadAt E σ t a = some p) (ha : Rep Γ ρ a v) :
    ∃ r, Rep Γ ρ p r ∧ (∃ ad : Addr, v = .pointer (some ad) ∧ (loadVar t ad).run E.P w = .ok r w) ∧ p.cells.all PV.oneCell = true := by
  unfold loadAt at hc
  simp only [Option.map_eq_some_iff] at hc
  obtain ⟨q, hq, rfl⟩ := hc
  obtain ⟨r, h1, h2, h3⟩ := loadRaw_ok h hq ha
  exact ⟨r, h1.viewV _, h2, viewV_cells _ h3⟩

theorem run_loadAt {P : Program} {t : TypeId} {ad : Addr} {r : Value} (h : (loadVar t ad).run P w = .ok r w) : (Instr.loadAt t (.pointer (some ad))).run P w = .ok r w := by
  simp [Instr.loadAt, Instr.sureAddr, h]

theorem Same.setRow (w : World) (g : Nat) (cs : Array Value) : Same w (w.setRow g cs) := ⟨by simp, rfl, rfl, ⟨rfl, fun _ => Nat.le_refl _⟩⟩

theorem Same.alloc (w : World) (o : Obj) : Same w (w.alloc o) := ⟨by simp, rfl, rfl, ⟨rfl, fun _ => Nat.le_refl _⟩⟩

theorem heap_alloc_lt (w : World) (o : Obj) : ∀ b, b < w.heap.size → (w.alloc o).heap[b]? = w.heap[b]? := fun b hb => heap_alloc_old w o b hb

theorem splice_length {xs : List PV} {off : Nat} {ys : List PV} (h : off + ys.length ≤ xs.length) : (splice xs off ys).length = xs.length := by simp [splice]; omega

theorem splice_all {xs : List PV} {off : Nat} {ys : List PV} (h : xs.all PV.oneCell = true) (k : ys.all PV.oneCell = true) : (splice xs off ys).all PV.oneCell = true := by
  rw [List.all_eq_true] at *
  intro x hx
  simp only [splice, List.mem_append] at hx
  rcases hx with hx | hx | hx
  · exact h x (List.mem_of_mem_take hx)
  · exact k x hx
  · exact h x (List.mem_of_mem_drop hx)

/-- Cells of an object are written. -/
theorem write_ok (h : Rel E fl Γ ρ σ w) {id : Nat} {l : Loc} {m : Mem} (hl : ρ id = some l) (hm : getMem σ id = some m) (hid : fl ≤ id) (hice : m.ice = false)
    {off : Nat} {ys : List PV} {us : List Value} (hy : Reps Γ ρ ys us) (h1 : ys.all PV.oneCell = true) (hn : off + ys.length ≤ m.cells.length) :
    ∃ w' ρ', (∀ P, (storeCells ⟨l.block, off, none⟩ us).run P w = .ok () w') ∧ Rel E fl Γ ρ' (σ.set id (.mem { m with cells := splice m.cells off ys })) w' ∧
      Post fl Γ ρ σ w Γ ρ' (σ.set id (.mem { m with cells := splice m.cells off ys })) w' ∧ ρ' id = some l := by
  obtain ⟨hget, e1, e2, e3, e4, e5, e6, C, T, e7, e8, e9⟩ := h.memAt hl hm
  have hC : off + us.length ≤ C.size := by
    have := hy.1
    have : m.cells.length ≤ C.size := by rw [e3, e8]; exact Nat.mul_le_mul_right _ (by omega)
    omega
  have hst := fun P => run_storeCells_at P l.block off T us 0 C w e7 (by simpa using hC) (hy.oneCell h1)
  simp only [Nat.add_zero] at hst
  have hch := change_ok h hl hget hid hice (m' := { m with cells := splice m.cells off ys }) (Same.setRow w l.block (C.toList.take off ++ us ++ C.toList.drop (off + us.length)).toArray)
    (fun b _ hb => setRow_other w l.block b _ hb) (cap := l.cap) (blk := l.block) (.inl ⟨rfl, rfl⟩) (setRow_heap w l.block C _ T (0, 0) e7) (by simp; omega) rfl hice (.inl rfl)
    (by simp only; rw [splice_length hn]; exact e3) (by simpa using e4) (by simpa using e5) (splice_all e6 h1) (by
      simp only
      rw [splice_length hn]
      have hs := e9.splice (off := off) hy
      have e : (C.toList.take off ++ us ++ C.toList.drop (off + us.length)).toArray.toList.take m.cells.length = (C.toList.take m.cells.length).take off ++ (us ++ (C.toList.take m.cells.length).drop (off + us.length)) := by
        have hlt : m.cells.length ≤ C.toList.length := by simp; rw [e3, e8]; exact Nat.mul_le_mul_right _ (by omega)
        have hul := hy.1
        apply List.ext_getElem?
        intro j
        simp only [List.getElem?_take, List.getElem?_append, List.getElem?_drop, List.length_take, List.length_append, Array.length_toList]
        simp only [Array.length_toList] at hlt
        have m1 : min off C.size = off := by omega
        have m2 : min off (min m.cells.length C.size) = off := by omega
        simp only [m1, m2]
        by_cases a1 : j < m.cells.length
        · by_cases a2 : j < off
          · have a3 : j < off + us.length := by omega
            simp [a1, a2, a3]
          · by_cases a3 : j < off + us.length
            · have a4 : j - off < us.length := by omega
              simp [a1, a2, a3, a4]
            · have a4 : ¬ j - off < us.length := by omega
              have a5 : off + us.length + (j - (off + us.length)) = j := by omega
              have a6 : off + us.length + (j - off - us.length) = j := by omega
              simp [a1, a2, a3, a4, a5, a6]
        · have a2 : ¬ j < off := by omega
          have a4 : ¬ j - off < us.length := by omega
          have a6 : off + us.length + (j - off - us.length) = j := by omega
          simp [a1, a2, a4, a6]
      rw [e]
      exact hs)
  have hloc : (⟨l.block, l.cap, m.len, m.size⟩ : Loc) = l := by cases l; simp_all
  simp only [hloc] at hch
  exact ⟨_, _, hst, hch.1, hch.2.1, by simp⟩

theorem storeAt_ok (h : Rel E fl Γ ρ σ w) {t : TypeId} {a x : PV} {v u : Value} {σ' : Store} (hc : storeAt E fl σ t a x = some σ') (ha : Rep Γ ρ a v) (hx : Rep Γ ρ x u) :
    ∃ w' ρ', (Instr.storeAt t v u).run E.P w = .ok () w' ∧ Rel E fl Γ ρ' σ' w' ∧ Post fl Γ ρ σ w Γ ρ' σ' w' := by
  unfold storeAt at hc
  split at hc
  · rename_i id blen off
    split at hc
    · rename_i m n hm hs
      split at hc
      · rename_i hb
        cases hc
        obtain ⟨b1, b2, b3, b4, b5, b6⟩ := hb
        cases ha with
        | ptr l h1 h2 =>
          obtain ⟨w', ρ', k1, k2, k3, k4⟩ := write_ok h h1 hm b1 b2 (off := off) hx.cells b6 (by rw [b4]; exact b5)
          refine ⟨w', ρ', ?_, k2, k3⟩
          have hsz : u.cells.size = n := by have := hx.cells.1; simp at this; omega
          simp [Instr.storeAt, Instr.sureAddr, storeVar, run_sizeT hs, hsz, k1]
        | ptrOld l h1 h2 ad =>
          have := (h.memAt h1 hm).2.1
          omega
      · cases hc
    · cases hc
  · cases hc

theorem newObj_ok (h : Rel E fl Γ ρ σ w) (hfl : fl ≤ σ.length) {xs : List PV} {vs : Array Value} (hr : Reps Γ ρ xs vs.toList) (h1 : xs.all PV.oneCell = true) (t : TypeId) :
    Moves E fl Γ ρ σ w (newObj σ xs).1 (newObj σ xs).2 (.pointer (some ⟨w.heap.size, 0, none⟩)) (w.alloc (.cells vs t)) := by
  have hsz : vs.size = xs.length := by simpa using hr.1
  have hn := new_ok h hfl (Same.alloc w (.cells vs t)) (heap_alloc_lt w _) (m := ⟨xs, xs.length, 1, true, false, true⟩) (cap := 1) (Nat.le_refl _) (heap_alloc_new w _) (by simp [hsz]) (by simp) (by simp) (by simp) h1
    (by rw [List.take_of_length_le (by simp [hsz])]; exact hr)
  exact ⟨Γ, _, Rep.ptr (id := σ.length) (blen := 1) (off := 0) ⟨w.heap.size, 1, 1, xs.length⟩ hn.2.2 rfl, hn.1, hn.2.1⟩

end
end Go.Proofs.YtfpjlkkeelgffaaDoor.Am
