/- Loads, stores, new variables: the machine does what the interpreter does. -/
import Derived.Test.YtaofbpldflcjmaaDoorMMPu
import Derived.Laws.BytesString
import Derived.Laws.MakeOwn
import Derived.Lib.ConvBytes
import Derived.Great.BuildSlice
import Derived.Laws.Strings2
set_option linter.unusedVariables false
set_option linter.unusedSimpArgs false
namespace Go.Proofs.YtaofbpldflcjmaaDoor.Am
section
section
variable {E : Env} {fl : Nat} {Γ : Sealed} {ρ : Ren} {σ : Store} {w : World}
theorem add_mk (b o n : Nat) : (⟨b, o, none⟩ : Addr).add n = ⟨b, o + n, none⟩ := by unfold Addr.add; split <;> simp_all
theorem add_spot {a : Addr} (h : a.spot = none) (n : Nat) : a.add n = ⟨a.block, a.off + n, none⟩ := by
  cases a; simp only at h; subst h; exact add_mk _ _ _
theorem Moves.stay (h : Rel E fl Γ ρ σ w) {p : PV} {r : Value} (hr : Rep Γ ρ p r) : Moves E fl Γ ρ σ w p σ r w := ⟨Γ, ρ, hr, h, .refl _ _ _ _ _⟩
def Reads (Γ : Sealed) (ρ : Ren) (w : World) (xs : List PV) (a : Addr) : Prop :=
  xs.all PV.oneCell = true /\ ∃ vs : List Value, Reps Γ ρ xs vs /\ ∀ (j : Nat) (v : Value), vs[j]? = some v -> w.cell? (a.add j) = some v
theorem drop_take_get {α : Type} {xs : List α} {off n j : Nat} {x : α} (h : ((xs.drop off).take n)[j]? = some x) : xs[off + j]? = some x := by
  rw [List.getElem?_take] at h
  split at h
  . rw [List.getElem?_drop] at h; exact h
  . cases h
theorem Rel.reads (h : Rel E fl Γ ρ σ w) {id : Nat} {l : Loc} {m : Mem} (hl : ρ id = some l) (hm : getMem σ id = some m) (off n : Nat) (hn : off + n <= m.cells.length) :
    Reads Γ ρ w ((m.cells.drop off).take n) ⟨l.block, off, none⟩ := by
  obtain ⟨e1, e2, e3, e4, e5, e6, C, T, e7, e8, e9⟩ := (h.memAt hl hm).2
  refine ⟨?_, (((C.toList.take m.cells.length).drop off).take n), (e9.drop off).take n, fun j v hv => ?_⟩
  . rw [List.all_eq_true] at e6 ⊢
    exact fun x hx => e6 x (List.mem_of_mem_drop (List.mem_of_mem_take hx))
  . have := drop_take_get hv
    rw [List.getElem?_take] at this
    split at this
    . rw [add_mk]
      simp only [World.cell?, e7]
      simpa using this
    . cases this
theorem sealed_reads (h : Rel E fl Γ ρ σ w) {cells : List PV} {b o : Nat} {vs : Nat -> Value} (hc : ∀ (j : Nat) (x : PV), cells[j]? = some x -> Γ b (o + j) = some (vs j) /\ x.oneCell = true)
    (hr : ∀ (j : Nat) (x : PV), cells[j]? = some x -> Rep Γ ρ x (vs j)) (off n : Nat) (hn : off + n <= cells.length) : Reads Γ ρ w ((cells.drop off).take n) ⟨b, o + off, none⟩ := by
  have hlen : ((cells.drop off).take n).length = n := by simp; omega
  refine ⟨?_, (List.range n).map fun j => vs (off + j), ⟨by simp [hlen], fun j x v hx hv => ?_⟩, fun j v hv => ?_⟩
  . rw [List.all_eq_true]
    intro x hx
    obtain ⟨j, hj⟩ := List.getElem?_of_mem hx
    exact (hc _ x (drop_take_get hj)).2
  . have h1 := drop_take_get hx
    have hj : j < n := by have := (List.getElem?_eq_some_iff.1 hx).1; omega
    simp [hj] at hv
    subst hv
    exact hr _ x h1
  . have hj : j < n := by have := (List.getElem?_eq_some_iff.1 hv).1; simpa using this
    simp [hj] at hv
    subst hv
    have hlt : off + j < cells.length := by omega
    have := (hc (off + j) _ (List.getElem?_eq_getElem hlt)).1
    rw [add_mk, Nat.add_assoc]
    exact h.fix _ _ _ this
theorem cellsAt_ok (h : Rel E fl Γ ρ σ w) {a : PV} {n : Nat} {xs : List PV} {v : Value} (hc : cellsAt E σ a n = some xs) (ha : Rep Γ ρ a v) :
    ∃ ad : Addr, v = .pointer (some ad) /\ xs.length = n /\ Reads Γ ρ w xs ad := by
  unfold cellsAt at hc
  split at hc
  . rename_i id blen off
    split at hc
    . rename_i m hm
      split at hc
      . rename_i hb
        cases hc
        cases ha with
        | ptr l h1 h2 => exact ⟨_, rfl, by simp; omega, h.reads h1 hm off n hb.2⟩
        | ptrOld l h1 h2 a =>
          have := (h.memAt h1 hm).2.1
          omega
      . cases hc
    . cases hc
  . rename_i cells off
    split at hc
    . rename_i hb
      cases hc
      cases ha with
      | eptr b o vs h1 h2 => exact ⟨_, rfl, by simp; omega, sealed_reads h h1 h2 off n hb⟩
    . cases hc
  . rename_i g off
    split at hc
    . rename_i cells hg
      split at hc
      . rename_i hb
        cases hc
        cases ha with
        | glob =>
          obtain ⟨vs, hv⟩ := h.glob g cells hg
          have := sealed_reads (b := g) (o := 0) h (cells := cells) (vs := vs) (fun j x hx => ⟨by simpa using (hv j x hx).1, (hv j x hx).2.1⟩) (fun j x hx => (hv j x hx).2.2) off n hb
          exact ⟨_, rfl, by simp; omega, by simpa using this⟩
      . cases hc
    . cases hc
  . cases hc
theorem Reads.load {xs : List PV} {a : Addr} (h : Reads Γ ρ w xs a) (P : Program) : ∃ vs : List Value, Reps Γ ρ xs vs /\ (loadCells a xs.length).run P w = .ok vs.toArray w := by
  obtain ⟨_, vs, h1, h2⟩ := h
  exact ⟨vs, h1, by rw [<- h1.1]; exact run_loadCells_list (P := P) w a vs h2⟩
theorem Rep.viewC {Γ ρ} (k : Kd) {x : PV} {v : Value} (h : Rep Γ ρ x v) : Rep Γ ρ (viewC k x) v := by
  unfold Am.viewC
  split
  . cases h
    exact .slNil fun c hc => by cases hc; rfl
  . exact h
theorem Rep.viewW {Γ ρ} (k : Kd) {x : PV} {v : Value} (h : Rep Γ ρ x v) : Rep Γ ρ (viewW k x) v := by
  unfold Am.viewW
  split
  . cases h
    exact .slNil fun c hc => by cases hc
  . cases h with
    | sl a cap vs hn hc hx h hr => exact .sl a cap vs hn hc (fun c hc => by cases hc) h hr
    | slNil hx => exact .slNil fun c hc => by cases hc
  . exact h
theorem viewW_one (k : Kd) (x : PV) : (viewW k x).oneCell = x.oneCell := by
  unfold viewW
  split <;> rfl
theorem viewL_get : ∀ (ks : List Kd) (xs : List PV) (j : Nat) (y : PV), (viewL ks xs)[j]? = some y -> ∃ x k, xs[j]? = some x /\ (y = x ∨ y = viewW k x)
  | k :: ks, x :: xs, 0, y, h => by
    simp only [viewL, List.getElem?_cons_zero, Option.some.injEq] at h
    exact ⟨x, k, rfl, .inr h.symm⟩
  | k :: ks, x :: xs, j + 1, y, h => by
    simp only [viewL, List.getElem?_cons_succ] at h
    simpa using viewL_get ks xs j y h
  | [], xs, j, y, h => ⟨y, .raw, by cases xs <;> exact h, .inl rfl⟩
  | k :: ks, [], j, y, h => by simp [viewL] at h
theorem viewL_len : ∀ (ks : List Kd) (xs : List PV), (viewL ks xs).length = xs.length
  | k :: ks, x :: xs => by simp [viewL, viewL_len ks xs]
  | [], xs => by cases xs <;> rfl
  | k :: ks, [] => rfl
theorem Rep.viewV {Γ ρ} (ks : List Kd) {x : PV} {v : Value} (h : Rep Γ ρ x v) : Rep Γ ρ (viewV ks x) v := by
  unfold Am.viewV
  split
  . exact h
  . cases h with
    | agg hn hr =>
      refine .agg (by rw [viewL_len]; exact hn) fun j y u hy hu => ?_
      obtain ⟨x, k, hx, e⟩ := viewL_get _ _ _ _ hy
      have := hr j x u hx hu
      rcases e with rfl | rfl
      . exact this
      . exact this.viewW k
  . exact h.viewC _
theorem viewV_cells (ks : List Kd) {x : PV} (h : x.cells.all PV.oneCell = true) : (viewV ks x).cells.all PV.oneCell = true := by
  unfold viewV
  split
  . exact h
  . rename_i cs _
    simp only [PV.cells, List.all_eq_true] at h ⊢
    intro y hy
    obtain ⟨j, hj, rfl⟩ := List.getElem_of_mem hy
    obtain ⟨x, k, hx, e⟩ := viewL_get ks cs j _ (List.getElem?_eq_getElem hj)
    have h1 := h x (List.mem_of_getElem? hx)
    rcases e with e | e
    . rw [e]; exact h1
    . rw [e, viewW_one]; exact h1
  . rename_i v _ hno
    unfold viewC
    split
    . rfl
    . exact h
theorem loadRaw_ok (h : Rel E fl Γ ρ σ w) {t : TypeId} {a p : PV} {v : Value} (hc : loadRaw E σ t a = some p) (ha : Rep Γ ρ a v) :
    ∃ r, Rep Γ ρ p r /\ (∃ ad : Addr, v = .pointer (some ad) /\ (loadVar t ad).run E.P w = .ok r w) /\ p.cells.all PV.oneCell = true := by
  unfold loadRaw at hc
  split at hc
  . rename_i ht
    split at hc
    . rename_i n hs
      cases hx : cellsAt E σ a n with
      | none => simp [hx] at hc
      | some xs =>
        simp [hx] at hc
        subst hc
        obtain ⟨ad, rfl, hn, hr⟩ := cellsAt_ok h hx ha
        obtain ⟨vs, h1, h2⟩ := hr.load E.P
        rw [hn] at h2
        exact ⟨.agg vs.toArray, h1.agg, ⟨ad, rfl, by simp [loadVar, run_aggT ht, run_sizeT hs, h2]⟩, hr.1⟩
    . cases hc
  . rename_i ht
    split at hc
    . rename_i x hx
      cases hc
      obtain ⟨ad, rfl, hn, ho, vs, h1, h2⟩ := cellsAt_ok h hx ha
      obtain ⟨v, ws, rfl, h3, h4⟩ := h1.inv_cons
      have h5 := h2 0 v rfl
      have h6 : ad.add 0 = ad := by simp [Addr.add]
      rw [h6] at h5
      refine ⟨v, h3, ⟨ad, rfl, by simp [loadVar, run_aggT ht, h5]⟩, ?_⟩
      have hone : p.oneCell = true := by simpa using ho
      cases p <;> simp_all [PV.cells, PV.oneCell]
    . cases hc
  . cases hc
theorem loadAt_ok (h : Rel E fl Γ ρ σ w) {t : TypeId} {a p : PV} {v : Value} (hc : loadAt E σ t a = some p) (ha : Rep Γ ρ a v) :
    ∃ r, Rep Γ ρ p r /\ (∃ ad : Addr, v = .pointer (some ad) /\ (loadVar t ad).run E.P w = .ok r w) /\ p.cells.all PV.oneCell = true := by
  unfold loadAt at hc
  simp only [Option.map_eq_some_iff] at hc
  obtain ⟨q, hq, rfl⟩ := hc
  obtain ⟨r, h1, h2, h3⟩ := loadRaw_ok h hq ha
  exact ⟨r, h1.viewV _, h2, viewV_cells _ h3⟩
theorem run_loadAt {P : Program} {t : TypeId} {ad : Addr} {r : Value} (h : (loadVar t ad).run P w = .ok r w) : (Instr.loadAt t (.pointer (some ad))).run P w = .ok r w := by
  simp [Instr.loadAt, Instr.sureAddr, h]
theorem Same.setRow (w : World) (g : Nat) (cs : Array Value) : Same w (w.setRow g cs) := ⟨by simp, rfl, rfl, ⟨rfl, fun _ => Nat.le_refl _⟩⟩
theorem Same.alloc (w : World) (o : Obj) : Same w (w.alloc o) := ⟨by simp, rfl, rfl, ⟨rfl, fun _ => Nat.le_refl _⟩⟩
theorem heap_alloc_lt (w : World) (o : Obj) : ∀ b, b < w.heap.size -> (w.alloc o).heap[b]? = w.heap[b]? := fun b hb => heap_alloc_old w o b hb
theorem splice_length {xs : List PV} {off : Nat} {ys : List PV} (h : off + ys.length <= xs.length) : (splice xs off ys).length = xs.length := by simp [splice]; omega
theorem splice_all {xs : List PV} {off : Nat} {ys : List PV} (h : xs.all PV.oneCell = true) (k : ys.all PV.oneCell = true) : (splice xs off ys).all PV.oneCell = true := by
  rw [List.all_eq_true] at *
  intro x hx
  simp only [splice, List.mem_append] at hx
  rcases hx with hx | hx | hx
  . exact h x (List.mem_of_mem_take hx)
  . exact k x hx
  . exact h x (List.mem_of_mem_drop hx)
theorem write_ok (h : Rel E fl Γ ρ σ w) {id : Nat} {l : Loc} {m : Mem} (hl : ρ id = some l) (hm : getMem σ id = some m) (hid : fl <= id) (hice : m.ice = false)
    {off : Nat} {ys : List PV} {us : List Value} (hy : Reps Γ ρ ys us) (h1 : ys.all PV.oneCell = true) (hn : off + ys.length <= m.cells.length) :
    ∃ w' ρ', (∀ P, (storeCells ⟨l.block, off, none⟩ us).run P w = .ok () w') /\ Rel E fl Γ ρ' (σ.set id (.mem { m with cells := splice m.cells off ys })) w' /\
      Post fl Γ ρ σ w Γ ρ' (σ.set id (.mem { m with cells := splice m.cells off ys })) w' /\ ρ' id = some l := by
  obtain ⟨hget, e1, e2, e3, e4, e5, e6, C, T, e7, e8, e9⟩ := h.memAt hl hm
  have hC : off + us.length <= C.size := by
    have := hy.1
    have : m.cells.length <= C.size := by rw [e3, e8]; exact Nat.mul_le_mul_right _ (by omega)
    omega
  have hst := fun P => run_storeCells_at P l.block off T us 0 C w e7 (by simpa using hC) (hy.oneCell h1)
  simp only [Nat.add_zero] at hst
  have hch := change_ok h hl hget hid hice (m' := { m with cells := splice m.cells off ys }) (Same.setRow w l.block (C.toList.take off ++ us ++ C.toList.drop (off + us.length)).toArray)
    (fun b _ hb => setRow_other w l.block b _ hb) (cap := l.cap) (blk := l.block) (.inl ⟨rfl, rfl⟩) (setRow_heap w l.block C _ T (0, 0) e7) (by simp; omega) rfl hice (.inl rfl)
    (by simp only; rw [splice_length hn]; exact e3) (by simpa using e4) (by simpa using e5) (splice_all e6 h1) (by
      simp only
      rw [splice_length hn]
      have hs := e9.splice (off := off) hy
      have e : (C.toList.take off ++ us ++ C.toList.drop (off + us.length)).toArray.toList.take m.cells.length = (C.toList.take m.cells.length).take off ++ (us ++ (C.toList.take m.cells.length).drop (off + us.length)) := by
        have hlt : m.cells.length <= C.toList.length := by simp; rw [e3, e8]; exact Nat.mul_le_mul_right _ (by omega)
        have hul := hy.1
        apply List.ext_getElem?
        intro j
        simp only [List.getElem?_take, List.getElem?_append, List.getElem?_drop, List.length_take, List.length_append, Array.length_toList]
        simp only [Array.length_toList] at hlt
        have m1 : min off C.size = off := by omega
        have m2 : min off (min m.cells.length C.size) = off := by omega
        simp only [m1, m2]
        by_cases a1 : j < m.cells.length
        . by_cases a2 : j < off
          . have a3 : j < off + us.length := by omega
            simp [a1, a2, a3]
          . by_cases a3 : j < off + us.length
            . have a4 : j - off < us.length := by omega
              simp [a1, a2, a3, a4]
            . have a4 : ¬ j - off < us.length := by omega
              have a5 : off + us.length + (j - (off + us.length)) = j := by omega
              have a6 : off + us.length + (j - off - us.length) = j := by omega
              simp [a1, a2, a3, a4, a5, a6]
        . have a2 : ¬ j < off := by omega
          have a4 : ¬ j - off < us.length := by omega
          have a6 : off + us.length + (j - off - us.length) = j := by omega
          simp [a1, a2, a4, a6]
      rw [e]
      exact hs)
  have hloc : (⟨l.block, l.cap, m.len, m.size⟩ : Loc) = l := by cases l; simp_all
  simp only [hloc] at hch
  exact ⟨_, _, hst, hch.1, hch.2.1, by simp⟩
theorem storeAt_ok (h : Rel E fl Γ ρ σ w) {t : TypeId} {a x : PV} {v u : Value} {σ' : Store} (hc : storeAt E fl σ t a x = some σ') (ha : Rep Γ ρ a v) (hx : Rep Γ ρ x u) :
    ∃ w' ρ', (Instr.storeAt t v u).run E.P w = .ok () w' /\ Rel E fl Γ ρ' σ' w' /\ Post fl Γ ρ σ w Γ ρ' σ' w' := by
  unfold storeAt at hc
  split at hc
  . rename_i id blen off
    split at hc
    . rename_i m n hm hs
      split at hc
      . rename_i hb
        cases hc
        obtain ⟨b1, b2, b3, b4, b5, b6⟩ := hb
        cases ha with
        | ptr l h1 h2 =>
          obtain ⟨w', ρ', k1, k2, k3, k4⟩ := write_ok h h1 hm b1 b2 (off := off) hx.cells b6 (by rw [b4]; exact b5)
          refine ⟨w', ρ', ?_, k2, k3⟩
          have hsz : u.cells.size = n := by have := hx.cells.1; simp at this; omega
          simp [Instr.storeAt, Instr.sureAddr, storeVar, run_sizeT hs, hsz, k1]
        | ptrOld l h1 h2 ad =>
          have := (h.memAt h1 hm).2.1
          omega
      . cases hc
    . cases hc
  . cases hc
theorem newObj_ok (h : Rel E fl Γ ρ σ w) (hfl : fl <= σ.length) {xs : List PV} {vs : Array Value} (hr : Reps Γ ρ xs vs.toList) (h1 : xs.all PV.oneCell = true) (t : TypeId) :
    Moves E fl Γ ρ σ w (newObj σ xs).1 (newObj σ xs).2 (.pointer (some ⟨w.heap.size, 0, none⟩)) (w.alloc (.cells vs t)) := by
  have hsz : vs.size = xs.length := by simpa using hr.1
  have hn := new_ok h hfl (Same.alloc w (.cells vs t)) (heap_alloc_lt w _) (m := ⟨xs, xs.length, 1, true, false, true⟩) (cap := 1) (Nat.le_refl _) (heap_alloc_new w _) (by simp [hsz]) (by simp) (by simp) (by simp) h1
    (by rw [List.take_of_length_le (by simp [hsz])]; exact hr)
  exact ⟨Γ, _, Rep.ptr (id := σ.length) (blen := 1) (off := 0) ⟨w.heap.size, 1, 1, xs.length⟩ hn.2.2 rfl, hn.1, hn.2.1⟩
end
end
section
section
variable {E : Env} {fl : Nat} {Γ : Sealed} {ρ : Ren} {σ : Store} {w : World}
theorem sl_reads (h : Rel E fl Γ ρ σ w) {cells : List PV} {a : Addr} {vs : Nat -> Value} (hc : ∀ (j : Nat) (x : PV), cells[j]? = some x -> a.spot = none /\ Γ a.block (a.off + j) = some (vs j) /\ x.oneCell = true)
    (hr : ∀ (j : Nat) (x : PV), cells[j]? = some x -> Rep Γ ρ x (vs j)) : Reads Γ ρ w cells a := by
  cases hcells : cells with
  | nil => exact ⟨rfl, [], Reps.nil, fun j v hv => by simp at hv⟩
  | cons x xs =>
    have hs : a.spot = none := (hc 0 x (by rw [hcells]; rfl)).1
    have := sealed_reads h (cells := cells) (b := a.block) (o := a.off) (vs := vs) (fun j x hx => (hc j x hx).2) hr 0 cells.length (by omega)
    simp only [List.drop_zero, List.take_length, Nat.add_zero] at this
    rw [<- hcells]
    have e : (⟨a.block, a.off, none⟩ : Addr) = a := by cases a; simp_all
    rwa [e] at this
theorem viewCells_ok (h : Rel E fl Γ ρ σ w) {x : PV} {xs : List PV} {v : Value} (hv : viewCells σ x = some xs) (hx : Rep Γ ρ x v) :
    (v = .slice none 0 0 /\ xs = [] /\ lenA x = some 0) ∨ ∃ (ad : Addr) (n cap : Nat), v = .slice (some ad) n cap /\ lenA x = some n /\ Reads Γ ρ w xs ad := by
  unfold viewCells at hv
  split at hv
  . cases hv; cases hx; exact .inl ⟨rfl, rfl, rfl⟩
  . cases hv
    cases hx with
    | sl a cap vs hn hc hx h1 hr => exact .inr ⟨a, _, cap, rfl, rfl, sl_reads h h1 hr⟩
    | slNil hx => exact .inl ⟨rfl, rfl, rfl⟩
  . cases hv
    cases hx with
    | sln a cap => exact .inr ⟨a, 0, cap, rfl, rfl, rfl, [], Reps.nil, fun j v hv => by simp at hv⟩
  . rename_i id blen coff es len xc
    split at hv
    . rename_i m hm
      split at hv
      . rename_i hb
        cases hv
        cases hx with
        | osl l cap h1 h2 hc hx ho => exact .inr ⟨_, _, cap, rfl, rfl, h.reads h1 hm coff _ hb.2⟩
        | oslOld l h1 h2 a cap hc' hx' =>
          have := (h.memAt h1 hm).2.1
          omega
      . cases hv
    . cases hv
  . cases hv
theorem Reads.get {xs : List PV} {a : Addr} (h : Reads Γ ρ w xs a) : ∃ vs : List Value, Reps Γ ρ xs vs /\ ∀ (j : Nat) (v : Value), vs[j]? = some v -> w.cell? (a.add j) = some v := h.2
theorem Reads.drew {xs : List PV} {a : Addr} (h : Reads Γ ρ w xs a) {w' : World} (hh : w'.heap = w.heap) : Reads Γ ρ w' xs a := by
  obtain ⟨h1, vs, h2, h3⟩ := h
  refine ⟨h1, vs, h2, fun j v hv => ?_⟩
  rw [<- h3 j v hv]
  unfold World.cell?
  rw [hh]
theorem bytesOf_ok : ∀ {xs : List PV} {bs : List UInt8} {vs : List Value}, bytesOf xs = some bs -> Reps Γ ρ xs vs -> ∃ ns : List Int, vs = ns.map (Value.int .u8) /\ bs = ns.map fun n => UInt8.ofNat n.toNat
  | [], bs, vs, h, hr => by cases h; exact ⟨[], by simpa using hr.inv_nil, rfl⟩
  | x :: xs, bs, vs, h, hr => by
    unfold bytesOf at h
    split at h
    . cases h; rename_i e; cases e
    . rename_i n rest e
      cases e
      cases hb : bytesOf xs with
      | none => simp [hb] at h
      | some bs' =>
        simp [hb] at h
        subst h
        obtain ⟨v, ws, rfl, h1, h2⟩ := hr.inv_cons
        cases h1
        obtain ⟨ns, rfl, rfl⟩ := bytesOf_ok hb h2
        exact ⟨n :: ns, rfl, rfl⟩
    . cases h
theorem foldl_bytes : ∀ (ns : List Int) (l : List UInt8), ns.foldl (fun (r : ByteArray) n => r.push (UInt8.ofNat n.toNat)) ⟨⟨l⟩⟩ = ⟨⟨l ++ ns.map fun n => UInt8.ofNat n.toNat⟩⟩
  | [], l => by simp
  | n :: ns, l => by
    have e : (⟨⟨l⟩⟩ : ByteArray).push (UInt8.ofNat n.toNat) = ⟨⟨l ++ [UInt8.ofNat n.toNat]⟩⟩ := by
      apply ByteArray.ext
      simp [ByteArray.push]
    simp only [List.foldl_cons, e]
    rw [foldl_bytes ns]
    simp
theorem convA_ok (h : Rel E fl Γ ρ σ w) {src dst : TypeId} {x p : PV} {v : Value} (hc : convA E σ src dst x = some p) (hx : Rep Γ ρ x v) :
    ∃ r w', (convert src dst v).run E.P w = .ok r w' /\ Moves E fl Γ ρ σ w p σ r w' := by
  unfold convA at hc
  split at hc
  . rename_i d k k' n hs hd
    cases hc; cases hx
    exact ⟨_, w, by simp [convert, run_underlying hs, run_underlying hd, Conv.intToInt], Moves.stay h (.int _ _)⟩
  . rename_i d s hs hd
    cases hc; cases hx
    exact ⟨_, w, by simp [convert, run_underlying hs, run_underlying hd], Moves.stay h (.str _)⟩
  . rename_i d e s hs hd
    split at hc
    . rename_i he
      cases hc; cases hx
      refine ⟨_, _, Lib.run_convert_string_bytes w src dst e _ hs hd he, ?_⟩
      obtain ⟨k1, k2, k3⟩ := seal_new h (w' := Lib.bytesWorld w e ⟨⟨s⟩⟩) ⟨by rw [Lib.bytesWorld_size]; omega, rfl, rfl, ⟨rfl, fun _ => by show w.drawn <= w.drawn + 1; omega⟩⟩ (fun b hb => Lib.bytesWorld_at_old w e _ b hb) (Nat.le_refl _) (Lib.bytesWorld_at_new w e _)
      refine ⟨_, _, ?_, k1, k2⟩
      have hsz : (⟨⟨s⟩⟩ : ByteArray).size = s.length := rfl
      rw [hsz]
      refine .sl ⟨w.heap.size, 0, none⟩ _ (fun j => .int .u8 ((s.getD j 0).toNat : Int)) (by simp) (grownCap_ge w _ _ _) (fun c hc => by cases hc) (fun j x hj => ⟨rfl, ?_, ?_⟩) (fun j x hj => ?_)
      . have hlt : j < s.length := by have := (List.getElem?_eq_some_iff.1 hj).1; simpa using this
        simp [Lib.bytesCells, Array.getElem?_append, hlt, List.getD]
      . simp at hj; obtain ⟨b, _, rfl⟩ := hj; rfl
      . simp at hj; obtain ⟨b, hb, rfl⟩ := hj
        simp only [List.getD, hb, Option.getD_some]
        exact .int _ _
    . cases hc
  . rename_i e hs hd _
    split at hc
    . rename_i he
      split at hc
      . rename_i cells n hcells hlen
        split at hc
        . rename_i hn
          cases hb : bytesOf cells with
          | none => simp [hb] at hc
          | some bs =>
            simp [hb] at hc
            subst hc
            refine ⟨.string ⟨⟨bs⟩⟩, w, ?_, Moves.stay h (.str _)⟩
            rcases viewCells_ok h hcells hx with ⟨rfl, rfl, _⟩ | ⟨ad, m, cap, rfl, hm, hrd⟩
            . cases hb
              rw [run_convert_bytes_string w src dst e none 0 0 hs he hd]
              simp [Conv.bytesToString]
              rfl
            . rw [hlen] at hm
              cases hm
              obtain ⟨vs, h1, h2⟩ := hrd.load E.P
              obtain ⟨ns, rfl, rfl⟩ := bytesOf_ok hb h1
              rw [hn] at h2
              rw [run_convert_bytes_string w src dst e (some ad) n cap hs he hd, run_bytesToString w ad n cap ns (by simpa using h2)]
              have e0 : (ByteArray.empty : ByteArray) = ⟨⟨[]⟩⟩ := rfl
              rw [e0, foldl_bytes]
              simp
        . cases hc
      . cases hc
    . cases hc
  . cases hc
theorem sealCells_ok : ∀ (fuel : Nat) {σ : Store} {Γ : Sealed} {xs ys : List PV} {vs : List Value} {σ' : Store}, Rel E fl Γ ρ σ w -> sealCells fuel σ xs = some (ys, σ') -> Reps Γ ρ xs vs -> xs.all PV.oneCell = true ->
    ∃ Γ', Reps Γ' ρ ys vs /\ ys.all PV.oneCell = true /\ Rel E fl Γ' ρ σ' w /\ Post fl Γ ρ σ w Γ' ρ σ' w
  | 0, σ, Γ, xs, ys, vs, σ', h, hs, hr, h1 => by cases hs
  | fuel + 1, σ, Γ, xs, ys, vs, σ', h, hs, hr, h1 => by
    unfold sealCells at hs
    split at hs
    . cases hs
      exact ⟨Γ, hr, h1, h, .refl _ _ _ _ _⟩
    rename_i hnc
    clear hnc
    split at hs
    . cases hs
      exact ⟨Γ, hr, rfl, h, .refl _ _ _ _ _⟩
    . rename_i id blen coff es len xc rest
      split at hs
      . rename_i m hm
        split at hs
        . rename_i hb
          obtain ⟨b1, b2, b3⟩ := hb
          split at hs
          . rename_i cs σ1 hcs
            split at hs
            . rename_i rs σ2 hrs
              cases hs
              obtain ⟨v, ws, rfl, hv, hws⟩ := hr.inv_cons
              cases hv with
              | oslOld l k1 k2 a cap hc' hx' =>
                have := (h.memAt k1 hm).2.1
                omega
              | osl l cap k1 k2 k3 k4 k5 =>
                obtain ⟨hget, hmok⟩ := h.memAt k1 hm
                obtain ⟨Γ1, r1, p1, q1⟩ := ice_ok h k1 hget
                have hfr : freezeId σ id = σ.set id (.mem { m with ice := true }) := by simp [freezeId, hget]
                rw [hfr] at hcs
                have hlen : ((m.cells.drop coff).take (len * es)).length = len * es := by simp; omega
                have hex : ∀ j, ∃ v, j < len * es -> Γ1 l.block (coff + j) = some v /\ ∀ x, ((m.cells.drop coff).take (len * es))[j]? = some x -> Rep Γ1 ρ x v /\ x.oneCell = true := fun j => by
                  by_cases hj : j < len * es
                  . have hlt : coff + j < m.cells.length := by omega
                    obtain ⟨v, g1, g2, g3⟩ := q1 (coff + j) _ (List.getElem?_eq_getElem hlt)
                    refine ⟨v, fun _ => ⟨g1, fun x hx => ?_⟩⟩
                    have := drop_take_get hx
                    rw [List.getElem?_eq_getElem hlt] at this
                    cases this
                    exact ⟨g2, g3⟩
                  . exact ⟨undef, fun hj' => absurd hj' hj⟩
                obtain ⟨us, hus⟩ := Classical.axiomOfChoice hex
                have hrc : Reps Γ1 ρ ((m.cells.drop coff).take (len * es)) ((List.range (len * es)).map us) := by
                  refine ⟨by simp [hlen], fun j x v hx hv => ?_⟩
                  have hj : j < len * es := by have := (List.getElem?_eq_some_iff.1 hx).1; omega
                  simp [hj] at hv
                  subst hv
                  exact ((hus j hj).2 x hx).1
                have hone : ((m.cells.drop coff).take (len * es)).all PV.oneCell = true := by
                  rw [List.all_eq_true]
                  intro x hx
                  obtain ⟨j, hj⟩ := List.getElem?_of_mem hx
                  have hj' : j < len * es := by have := (List.getElem?_eq_some_iff.1 hj).1; omega
                  exact ((hus j hj').2 x hj).2
                obtain ⟨Γ2, r2, o2, s2, p2⟩ := sealCells_ok fuel r1 hcs hrc hone
                have hws1 : Reps Γ2 ρ rest ws := (hws.mono p1.le).mono p2.le
                simp only [List.all_cons, Bool.and_eq_true] at h1
                obtain ⟨Γ3, r3, o3, s3, p3⟩ := sealCells_ok fuel s2 hrs hws1 h1.2
                refine ⟨Γ3, .cons ?_ r3, by simp [o3, PV.oneCell], s3, (p1.trans p2).trans p3⟩
                have hcl : cs.length = len * es := by have := r2.1; simp at this; omega
                have hval : ∀ (j : Nat) (x : PV), cs[j]? = some x -> Γ3 l.block (coff + j) = some (us j) /\ x.oneCell = true /\ Rep Γ3 ρ x (us j) := fun j x hx => by
                  have hj : j < len * es := by have := (List.getElem?_eq_some_iff.1 hx).1; omega
                  exact ⟨p3.le.fix _ _ _ (p2.le.fix _ _ _ (hus j hj).1), List.all_eq_true.1 o2 x (List.mem_of_getElem? hx), (r2.2 j x (us j) hx (by simp [hj])).mono p3.le⟩
                exact .sl ⟨l.block, coff, none⟩ cap us hcl k3 (fun c hc => by cases hc) (fun j x hx => ⟨rfl, (hval j x hx).1, (hval j x hx).2.1⟩) (fun j x hx => (hval j x hx).2.2)
            . cases hs
          . cases hs
        . cases hs
      . cases hs
    . rename_i x rest hno
      split at hs
      . rename_i rs σ2 hrs
        cases hs
        obtain ⟨v, ws, rfl, hv, hws⟩ := hr.inv_cons
        simp only [List.all_cons, Bool.and_eq_true] at h1
        obtain ⟨Γ3, r3, o3, s3, p3⟩ := sealCells_ok fuel h hrs hws h1.2
        exact ⟨Γ3, .cons (hv.mono p3.le) r3, by simp [o3, h1.1], s3, p3⟩
      . cases hs
theorem sealList_ok (h : Rel E fl Γ ρ σ w) {xs ys : List PV} {vs : List Value} {σ' : Store} (hs : sealList σ xs = some (ys, σ')) (hr : Reps Γ ρ xs vs) (h1 : xs.all PV.oneCell = true) :
    ∃ Γ', Reps Γ' ρ ys vs /\ ys.all PV.oneCell = true /\ Rel E fl Γ' ρ σ' w /\ Post fl Γ ρ σ w Γ' ρ σ' w := by
  unfold sealList at hs
  split at hs
  . cases hs; exact ⟨Γ, hr, h1, h, .refl _ _ _ _ _⟩
  . exact sealCells_ok _ h hs hr h1
theorem sealV_ok (h : Rel E fl Γ ρ σ w) {x y : PV} {v : Value} {σ' : Store} (hs : sealV σ x = some (y, σ')) (hr : Rep Γ ρ x v) :
    ∃ Γ', Rep Γ' ρ y v /\ Rel E fl Γ' ρ σ' w /\ Post fl Γ ρ σ w Γ' ρ σ' w := by
  unfold sealV at hs
  split at hs
  . rename_i cs
    split at hs
    . rename_i h1
      cases hl : sealList σ cs with
      | none => simp [hl] at hs
      | some r =>
        obtain ⟨ys, σ1⟩ := r
        simp [hl] at hs
        obtain ⟨rfl, rfl⟩ := hs
        obtain ⟨vs, rfl, hvs⟩ := Reps.of_agg hr
        obtain ⟨Γ', k1, k2, k3, k4⟩ := sealList_ok h hl hvs h1
        exact ⟨Γ', by simpa using k1.agg, k3, k4⟩
    . cases hs
  . split at hs
    . rename_i y' σ1 hl
      cases hs
      obtain ⟨Γ', k1, k2, k3, k4⟩ := sealList_ok h hl (Reps.cons hr Reps.nil) (by rfl)
      obtain ⟨v', ws, e, k5, _⟩ := k1.inv_cons
      cases e
      exact ⟨Γ', k5, k3, k4⟩
    . cases hs
  . cases hs
    exact ⟨Γ, hr, h, .refl _ _ _ _ _⟩
end
end
section
section
variable {E : Env} {fl : Nat} {Γ : Sealed} {ρ : Ren} {σ : Store} {w : World}
theorem sealParts_ok : ∀ {ps qs : List (Nat × PV)} {vs : List (Nat × Value)} {σ σ' : Store} {Γ : Sealed}, Rel E fl Γ ρ σ w -> sealParts σ ps = some (qs, σ') -> RepParts Γ ρ ps vs ->
    ∃ Γ', RepParts Γ' ρ qs vs /\ Rel E fl Γ' ρ σ' w /\ Post fl Γ ρ σ w Γ' ρ σ' w
  | [], qs, vs, σ, σ', Γ, h, hs, hr => by
    cases hs
    exact ⟨Γ, hr, h, .refl _ _ _ _ _⟩
  | (i, x) :: ps, qs, vs, σ, σ', Γ, h, hs, hr => by
    unfold sealParts at hs
    split at hs
    . rename_i y σ1 hy
      split at hs
      . rename_i ys σ2 hys
        cases hs
        match vs, hr with
        | (j, v) :: vs, ⟨e, hv, hvs⟩ =>
          obtain ⟨Γ1, k1, k2, k3⟩ := sealV_ok h hy hv
          obtain ⟨Γ2, m1, m2, m3⟩ := sealParts_ok k2 hys (hvs.mono k3.le)
          exact ⟨Γ2, ⟨e, k1.mono m3.le, m1⟩, m2, k3.trans m3⟩
      . cases hs
    . cases hs
theorem sealArgs_ok : ∀ {ps qs : List PV} {vs : List Value} {σ σ' : Store} {Γ : Sealed}, Rel E fl Γ ρ σ w -> sealArgs σ ps = some (qs, σ') -> Reps Γ ρ ps vs ->
    ∃ Γ', Reps Γ' ρ qs vs /\ Rel E fl Γ' ρ σ' w /\ Post fl Γ ρ σ w Γ' ρ σ' w
  | [], qs, vs, σ, σ', Γ, h, hs, hr => by
    cases hs
    exact ⟨Γ, hr, h, .refl _ _ _ _ _⟩
  | x :: ps, qs, vs, σ, σ', Γ, h, hs, hr => by
    unfold sealArgs at hs
    split at hs
    . rename_i y σ1 hy
      split at hs
      . rename_i ys σ2 hys
        cases hs
        obtain ⟨v, ws, rfl, hv, hvs⟩ := hr.inv_cons
        obtain ⟨Γ1, k1, k2, k3⟩ := sealV_ok h hy hv
        obtain ⟨Γ2, m1, m2, m3⟩ := sealArgs_ok k2 hys (hvs.mono k3.le)
        exact ⟨Γ2, .cons (k1.mono m3.le) m1, m2, k3.trans m3⟩
      . cases hs
    . cases hs
theorem sealP_ok {x y : PV} {v : Value} {σ' : Store} {Γ : Sealed} (h : Rel E fl Γ ρ σ w) (hs : sealP σ x = some (y, σ')) (hr : Rep Γ ρ x v) :
    ∃ Γ', Rep Γ' ρ y v /\ Rel E fl Γ' ρ σ' w /\ Post fl Γ ρ σ w Γ' ρ σ' w := by
  unfold sealP at hs
  split at hs
  . rename_i id blen off
    split at hs
    . rename_i m hm
      split at hs
      . rename_i hc
        cases hs
        have hid : ∃ l, ρ id = some l := by cases hr <;> exact ⟨_, by assumption⟩
        obtain ⟨l, hl⟩ := hid
        obtain ⟨hget, hok⟩ := h.memAt hl hm
        obtain ⟨Γ', k1, k2, k3⟩ := ice_ok h hl hget
        have hf : freezeId σ id = σ.set id (.mem { m with ice := true }) := by simp [freezeId, hget]
        rw [hf]
        refine ⟨Γ', ?_, k1, k2⟩
        cases hr with
        | ptr l' h' hl' =>
          rw [hl] at h'
          cases h'
          have e : (Value.pointer (some ⟨l.block, off, none⟩)) = .pointer (some ⟨l.block, 0 + off, none⟩) := by rw [Nat.zero_add]
          rw [e]
          refine .eptr l.block 0 (fun j => (Γ' l.block j).getD (.bool false)) (fun j x hx => ?_) (fun j x hx => ?_)
          . obtain ⟨u, u1, u2, u3⟩ := k3 j x hx
            rw [Nat.zero_add, u1]
            exact ⟨rfl, u3⟩
          . obtain ⟨u, u1, u2, u3⟩ := k3 j x hx
            rw [u1]
            exact u2
        | ptrOld l' h' hl' a =>
          rw [hl] at h'
          cases h'
          have := hok.1
          omega
      . cases hs
    . cases hs
  . exact sealV_ok h hs hr
theorem sealPA_ok : ∀ {ps qs : List PV} {vs : List Value} {σ σ' : Store} {Γ : Sealed}, Rel E fl Γ ρ σ w -> sealPA σ ps = some (qs, σ') -> Reps Γ ρ ps vs ->
    ∃ Γ', Reps Γ' ρ qs vs /\ Rel E fl Γ' ρ σ' w /\ Post fl Γ ρ σ w Γ' ρ σ' w
  | [], qs, vs, σ, σ', Γ, h, hs, hr => by
    cases hs
    exact ⟨Γ, hr, h, .refl _ _ _ _ _⟩
  | x :: ps, qs, vs, σ, σ', Γ, h, hs, hr => by
    unfold sealPA at hs
    split at hs
    . rename_i y σ1 hy
      split at hs
      . rename_i ys σ2 hys
        cases hs
        obtain ⟨v, ws, rfl, hv, hvs⟩ := hr.inv_cons
        obtain ⟨Γ1, k1, k2, k3⟩ := sealP_ok h hy hv
        obtain ⟨Γ2, m1, m2, m3⟩ := sealPA_ok k2 hys (hvs.mono k3.le)
        exact ⟨Γ2, .cons (k1.mono m3.le) m1, m2, k3.trans m3⟩
      . cases hs
    . cases hs
theorem repCells_length (z : List PV) : ∀ n, (repCells z n).length = n * z.length
  | 0 => by simp [repCells]
  | n + 1 => by simp only [repCells, List.length_append, repCells_length z n, Nat.add_mul]; omega
theorem repCells_get (z : List PV) (hz : 0 < z.length) : ∀ n j, j < n * z.length -> (repCells z n)[j]? = z[j % z.length]?
  | 0, j, h => by omega
  | n + 1, j, h => by
    simp only [repCells]
    by_cases hj : j < z.length
    . rw [List.getElem?_append_left hj, Nat.mod_eq_of_lt hj]
    . rw [List.getElem?_append_right (by omega), repCells_get z hz n _ (by rw [Nat.add_mul] at h; omega)]
      congr 1
      rw [Nat.mod_eq_sub_mod (by omega : z.length <= j)]
theorem repCells_all {z : List PV} (h : z.all PV.oneCell = true) : ∀ n, (repCells z n).all PV.oneCell = true
  | 0 => rfl
  | n + 1 => by simp only [repCells, List.all_append, h, repCells_all h n, Bool.and_self]
theorem made_reps {z : List PV} {zv : Array Value} (h : Reps Γ ρ z zv.toList) (hz : 0 < z.length) (n : Nat) : Reps Γ ρ (repCells z n) ((Array.range (n * z.length)).map (zv[· % zv.size]!)).toList := by
  have hsz : zv.size = z.length := by simpa using h.1
  refine ⟨by simp [repCells_length], fun j x v hx hv => ?_⟩
  have hj : j < n * z.length := by have := (List.getElem?_eq_some_iff.1 hx).1; rw [repCells_length] at this; exact this
  rw [repCells_get z hz n j hj] at hx
  have hm : j % zv.size < zv.size := by rw [hsz]; exact Nat.mod_lt _ hz
  have hv' : zv[j % zv.size] = v := by
    simp only [Array.toList_map, Array.toList_range, List.getElem?_map, List.getElem?_range hj, Option.map_some, Option.some.injEq] at hv
    rw [getElem!_pos zv (j % zv.size) hm] at hv
    exact hv
  refine h.2 (j % z.length) x v hx ?_
  rw [<- hv', <- hsz]
  simp [hm]
theorem buildSliceA_ok (h : Rel E fl Γ ρ σ w) {t : TypeId} {n : Nat} {parts : List (Nat × PV)} {vs : List (Nat × Value)} {p : PV} {σ' : Store} (hb : buildSliceA E σ t n parts = some (p, σ')) (hr : RepParts Γ ρ parts vs) :
    ∃ r w', (Instr.buildSlice t n vs.toArray).run E.P w = .ok r w' /\ Moves E fl Γ ρ σ w p σ' r w' := by
  unfold buildSliceA at hb
  split at hb
  . rename_i e hu
    split at hb
    . rename_i s z ps σ1 hs hz hps
      split at hb
      . rename_i hc
        obtain ⟨c1, c2, c3⟩ := hc
        cases hf : fillL (fun i => some (i * s, s)) (repCells z.cells n) ps with
        | none => simp [hf] at hb
        | some cells =>
          simp [hf] at hb
          obtain ⟨rfl, rfl⟩ := hb
          obtain ⟨Γ1, k1, k2, k3⟩ := sealParts_ok h hps hr
          obtain ⟨i, zv, hi, hzv, hrz, h1⟩ := zeroT_rep (Γ := Γ1) (ρ := ρ) hz
          have his : i.size = s := by obtain ⟨i', hi', e⟩ := sizeT_info hs; rw [hi] at hi'; cases hi'; exact e
          have hmade := made_reps hrz.cells (by omega) n
          rw [c3] at hmade
          obtain ⟨C', e1, e2, e3, e4⟩ := fill_ok (place' := fun i => some (i * s, s)) (fun i r h => h) hf k1 hmade (repCells_all h1 n)
          have hrun : (Instr.buildSlice t n vs.toArray).run E.P w = .ok (.slice (some ⟨w.heap.size, 0, none⟩) n n) (w.alloc (.cells C' e)) := by
            have hze : n * s = 0 -> C' = #[] := fun hz0 => by
              have : C'.size = n * s := by have := e2.1; simp at this; rw [this, e4, repCells_length, c3]
              exact Array.eq_empty_of_size_eq_zero (by omega)
            by_cases hn : n * s = 0
            . rw [hn] at e1
              simp only [Array.range_zero', Array.map_empty] at e1
              simp [Instr.buildSlice, run_underlying hu, run_sizeT hs, hn, Array.range_zero', e1, newRow]
            . have := run_buildSlice w t e n vs.toArray C' i zv hu hi hzv (by rw [his]; omega) (by rw [his]; exact hn) (by rw [his]; simpa using e1)
              exact this
          refine ⟨_, _, hrun, ?_⟩
          obtain ⟨m1, m2, m3⟩ := seal_new k2 (Same.alloc w (.cells C' e)) (heap_alloc_lt w _) (Nat.le_refl _) (heap_alloc_new w _)
          have hlen : cells.length = n * s := by rw [e4, repCells_length, c3]
          refine ⟨_, ρ, ?_, m1, k3.trans m2⟩
          refine .sl ⟨w.heap.size, 0, none⟩ n (fun j => (C'[j]?).getD undef) hlen (Nat.le_refl _) (fun c hc => by cases hc; rfl) (fun j x hj => ⟨rfl, ?_, List.all_eq_true.1 e3 x (List.mem_of_getElem? hj)⟩) (fun j x hj => ?_)
          . obtain ⟨v, hv, _⟩ := e2.at hj
            have hv' : C'[j]? = some v := by simpa using hv
            simp [hv']
          . obtain ⟨v, hv, hx⟩ := e2.at hj
            have hv' : C'[j]? = some v := by simpa using hv
            simp only [hv', Option.getD_some]
            exact hx.mono m2.le
      . cases hb
    . cases hb
  . cases hb
theorem makeSliceA_ok (h : Rel E fl Γ ρ σ w) (hfl : fl <= σ.length) {t : TypeId} {x y p : PV} {v u : Value} {σ' : Store} (hb : makeSliceA E σ t x y = some (p, σ')) (hx : Rep Γ ρ x v) (hy : Rep Γ ρ y u) :
    ∃ r w', (Instr.makeSlice t v u).run E.P w = .ok r w' /\ Moves E fl Γ ρ σ w p σ' r w' := by
  unfold makeSliceA at hb
  split at hb
  . rename_i e kl l kc c hu
    cases hx; cases hy
    split at hb
    . rename_i i z hi hz
      split at hb
      . rename_i hc
        obtain ⟨c1, c2, c3, c4, c5, c6⟩ := hc
        cases hb
        obtain ⟨i', zv, hi', hzv, hrz, h1⟩ := zeroT_rep (Γ := Γ) (ρ := ρ) hz
        rw [hi] at hi'
        cases hi'
        have hbytes : (i.bytes : Int) * c <= 281474976710656 := by
          have : (i.bytes : Int) * c <= 65536 * 1048576 := Int.mul_le_mul (by omega) (by omega) (by omega) (by omega)
          omega
        have hrun := run_make (P := E.P) w t e i zv hu hi hzv kl kc l c c1 c2 hbytes (by omega)
        refine ⟨_, _, hrun, ?_⟩
        have hmade := made_reps hrz.cells (by omega) c.toNat
        rw [c6] at hmade
        have hmd : madeCells zv.cells (c.toNat * i.size) = (Array.range (c.toNat * i.size)).map (zv.cells[· % zv.cells.size]!) := rfl
        have hn := new_ok h hfl (Same.alloc w (.cells (madeCells zv.cells (c.toNat * i.size)) e)) (heap_alloc_lt w _) (m := ⟨repCells z.cells c.toNat, i.size, c.toNat, true, false, false⟩) (cap := c.toNat) (Nat.le_refl _) (heap_alloc_new w _)
          (by rw [size_madeCells]) (by simp [repCells_length, c6]) (Nat.le_refl _) (fun _ => rfl) (repCells_all h1 _) (by
            rw [hmd, List.take_of_length_le (by simp [repCells_length, c6])]; exact hmade)
        refine ⟨Γ, _, Rep.osl (id := σ.length) ⟨w.heap.size, c.toNat, c.toNat, i.size⟩ c.toNat hn.2.2 rfl (by omega) (fun q hq => by cases hq) (fun _ => ⟨rfl, by simp⟩), hn.1, hn.2.1⟩
      . cases hb
    . cases hb
  . cases hb
theorem boundA_ok {x : PV} {v : Value} {y n : Nat} (h : boundA x y = some n) (hx : Rep Γ ρ x v) : ∃ (k : IntKind) (i : Int), v = .int k i /\ 0 <= i /\ i <= y /\ n = i.toNat /\ n <= y := by
  unfold boundA at h
  split at h
  . rename_i k i
    split at h
    . rename_i hb
      cases h
      cases hx
      exact ⟨k, i, rfl, hb.1, hb.2, rfl, by omega⟩
    . cases h
  . cases h
def RepOpt (Γ : Sealed) (ρ : Ren) : Option PV -> Option Value -> Prop
  | none, none => True
  | some x, some v => Rep Γ ρ x v
  | _, _ => False
theorem bounds_ok {P : Program} {isSlice : Bool} {len cap room m hh l : Nat} {lo hi mx : Option PV} {lv hv mv : Option Value} (hl : RepOpt Γ ρ lo lv) (hhi : RepOpt Γ ρ hi hv) (hm : RepOpt Γ ρ mx mv)
    (hroom : room <= cap) (hno : (hi.isNone && mx.isSome) = false) (em : optBound mx room room = some m) (eh : optBound hi len m = some hh) (el : optBound lo 0 hh = some l) (hlen : mx = none -> hi = none -> len <= room) :
    (∀ w, (Instr.sliceBounds isSlice len cap lv hv mv).run P w = .ok (l, hh, match mx with | some _ => m | none => cap) w) /\ l <= hh /\ m <= room /\ hh <= m := by
  have key : ∀ (a b : Nat), optBound mx room room = some m -> m <= room := fun _ _ e => by
    unfold optBound at e
    split at e
    . cases e; exact Nat.le_refl _
    . unfold boundA at e
      split at e
      . split at e
        . cases e; omega
        . cases e
      . cases e
  have hmr := key 0 0 em
  cases mx with
  | none =>
    cases mv with
    | some _ => exact hm.elim
    | none =>
      simp only [optBound, Option.some.injEq] at em
      subst em
      cases hi with
      | none =>
        cases hv with
        | some _ => exact hhi.elim
        | none =>
          simp only [optBound, Option.some.injEq] at eh
          subst eh
          have := hlen rfl rfl
          cases lo with
          | none =>
            cases lv with
            | some _ => exact hl.elim
            | none =>
              simp only [optBound, Option.some.injEq] at el
              subst el
              exact ⟨fun w => by simp [Instr.sliceBounds], by omega, by omega, by omega⟩
          | some lo =>
            cases lv with
            | none => exact hl.elim
            | some lv =>
              obtain ⟨k, i, rfl, h0, h1, rfl, h2⟩ := boundA_ok el hl
              exact ⟨fun w => by simp [Instr.sliceBounds, run_sliceBound w k i len _ h0 h1], by omega, by omega, by omega⟩
      | some hi =>
        cases hv with
        | none => exact hhi.elim
        | some hv =>
          obtain ⟨kh, ih, rfl, g0, g1, rfl, g2⟩ := boundA_ok eh hhi
          have g3 : ih <= (cap : Int) := by omega
          cases lo with
          | none =>
            cases lv with
            | some _ => exact hl.elim
            | none =>
              simp only [optBound, Option.some.injEq] at el
              subst el
              exact ⟨fun w => by simp [Instr.sliceBounds, run_sliceBound w kh ih cap _ g0 g3], by omega, by omega, by omega⟩
          | some lo =>
            cases lv with
            | none => exact hl.elim
            | some lv =>
              obtain ⟨k, i, rfl, h0, h1, rfl, h2⟩ := boundA_ok el hl
              exact ⟨fun w => by simp [Instr.sliceBounds, run_sliceBound w kh ih cap _ g0 g3, run_sliceBound w k i ih.toNat _ h0 h1], by omega, by omega, by omega⟩
  | some mx =>
    cases mv with
    | none => exact hm.elim
    | some mv =>
      obtain ⟨km, im, rfl, f0, f1, rfl, f2⟩ := boundA_ok em hm
      have f3 : im <= (cap : Int) := by omega
      cases hi with
      | none => simp at hno
      | some hi =>
        cases hv with
        | none => exact hhi.elim
        | some hv =>
          obtain ⟨kh, ih, rfl, g0, g1, rfl, g2⟩ := boundA_ok eh hhi
          cases lo with
          | none =>
            cases lv with
            | some _ => exact hl.elim
            | none =>
              simp only [optBound, Option.some.injEq] at el
              subst el
              exact ⟨fun w => by simp [Instr.sliceBounds, run_sliceBound w km im cap _ f0 f3, run_sliceBound w kh ih im.toNat _ g0 g1], by omega, by omega, by omega⟩
          | some lo =>
            cases lv with
            | none => exact hl.elim
            | some lv =>
              obtain ⟨k, i, rfl, h0, h1, rfl, h2⟩ := boundA_ok el hl
              exact ⟨fun w => by simp [Instr.sliceBounds, run_sliceBound w km im cap _ f0 f3, run_sliceBound w kh ih im.toNat _ g0 g1, run_sliceBound w k i ih.toNat _ h0 h1], by omega, by omega, by omega⟩
end
end
section
section
variable {E : Env} {fl : Nat} {Γ : Sealed} {ρ : Ren} {σ : Store} {w : World}
theorem run_slice_of {P : Program} {t e : TypeId} {s len cap l h m : Nat} {a : Option Addr} {lv hv mv : Option Value} (hu : P.underlying t = some (.slice e)) (hs : sizeT P e = some s)
    (hb : ∀ w, (Instr.sliceBounds true len cap lv hv mv).run P w = .ok (l, h, m) w) (w : World) :
    (Instr.sliceAt t (.slice a len cap) lv hv mv).run P w = .ok (.slice (if m = l then a else a.map (·.add (l * s))) (h - l) (m - l)) w := by
  simp [Instr.sliceAt, Instr.slice, run_underlying hu, hb w, run_sizeT hs]
theorem sub_rep {cells : List PV} {a : Addr} {vs : Nat -> Value} {len l h s capv : Nat} {xc : Option Nat} (hn : cells.length = len * s) (hlh : l <= h) (hh : h <= len)
    (hc : ∀ (j : Nat) (x : PV), cells[j]? = some x -> a.spot = none /\ Γ a.block (a.off + j) = some (vs j) /\ x.oneCell = true) (hr : ∀ (j : Nat) (x : PV), cells[j]? = some x -> Rep Γ ρ x (vs j))
    (b : Addr) (hb : l < h -> b = a.add (l * s)) (hcap : h - l <= capv) (hx : ∀ c, xc = some c -> capv = c) :
    Rep Γ ρ (.sl ((cells.drop (l * s)).take ((h - l) * s)) s (h - l) xc) (.slice (some b) (h - l) capv) := by
  have hmul : l * s + (h - l) * s = h * s := by rw [<- Nat.add_mul]; congr 1; omega
  have hle : h * s <= len * s := Nat.mul_le_mul_right _ hh
  have hlen : ((cells.drop (l * s)).take ((h - l) * s)).length = (h - l) * s := by simp; omega
  have key : ∀ (j : Nat) (x : PV), ((cells.drop (l * s)).take ((h - l) * s))[j]? = some x -> l < h := fun j x hj => by
    have : j < (h - l) * s := by have := (List.getElem?_eq_some_iff.1 hj).1; omega
    rcases Nat.lt_or_ge l h with h' | h'
    . exact h'
    . have : h - l = 0 := by omega
      rw [this] at hlen
      simp_all
  refine .sl b capv (fun j => vs (l * s + j)) hlen hcap hx (fun j x hj => ?_) (fun j x hj => hr _ x (drop_take_get hj))
  have h1 := hc _ x (drop_take_get hj)
  rw [hb (key j x hj), add_spot h1.1]
  exact ⟨rfl, by rw [Nat.add_assoc]; exact h1.2.1, h1.2.2⟩
theorem sliceSl_ok (h : Rel E fl Γ ρ σ w) {t e : TypeId} {s : Nat} (hu : E.P.underlying t = some (.slice e)) (hs : sizeT E.P e = some s) (hpos : 0 < s) {x p : PV} {lo hi mx : Option PV} {v : Value} {lv hv mv : Option Value}
    (hno : (hi.isNone && mx.isSome) = false) (hc : sliceSl σ s x lo hi mx = some p) (hx : Rep Γ ρ x v) (hl : RepOpt Γ ρ lo lv) (hh : RepOpt Γ ρ hi hv) (hm : RepOpt Γ ρ mx mv) :
    ∃ r, Rep Γ ρ p r /\ (Instr.sliceAt t v lv hv mv).run E.P w = .ok r w := by
  unfold sliceSl at hc
  split at hc
  . -- nil
    cases hx
    split at hc
    . rename_i m em
      split at hc
      . rename_i hh' eh
        split at hc
        . rename_i l el
          cases hc
          obtain ⟨k1, k2, k3, k4⟩ := bounds_ok (P := E.P) (isSlice := true) (cap := 0) hl hh hm (Nat.le_refl 0) hno em eh el (fun _ _ => Nat.le_refl 0)
          have hm0 : m = 0 := by omega
          have hh0 : hh' = 0 := by omega
          have hl0 : l = 0 := by omega
          subst hm0 hh0 hl0
          refine ⟨.slice none 0 0, .nils, ?_⟩
          rw [run_slice_of hu hs k1]
          cases mx <;> simp
        . cases hc
      . cases hc
    . cases hc
  . rename_i cells es len xc
    split at hc
    . cases hc
    . rename_i hes
      simp only [ne_eq, Decidable.not_not] at hes
      subst hes
      split at hc
      . rename_i m em
        split at hc
        . rename_i hh' eh
          split at hc
          . rename_i l el
            cases hc
            cases hx with
            | slNil hx0 =>
              obtain ⟨k1, k2, k3, k4⟩ := bounds_ok (P := E.P) (isSlice := true) (cap := 0) hl hh hm (Nat.le_refl 0) hno em eh el (fun _ _ => Nat.le_refl 0)
              have hm0 : m = 0 := by omega
              have hh0 : hh' = 0 := by omega
              have hl0 : l = 0 := by omega
              subst hm0 hh0 hl0
              refine ⟨.slice none 0 0, ?_, ?_⟩
              . simp only [List.drop_nil, List.take_nil, Nat.sub_self]
                refine .slNil fun c hc => ?_
                unfold capA at hc
                cases mx with
                | none =>
                  cases xc with
                  | none => cases hc
                  | some c0 => simp at hc; rw [<- hc]; exact hx0 c0 rfl
                | some mx => simp at hc; exact hc.symm
              . rw [run_slice_of hu hs k1]
                cases mx <;> simp
            | sl a cap vs hn hcap hxc h1 hr =>
              obtain ⟨k1, k2, k3, k4⟩ := bounds_ok (P := E.P) (isSlice := true) (cap := cap) hl hh hm hcap hno em eh el (fun _ _ => Nat.le_refl _)
              refine ⟨_, ?_, run_slice_of hu hs k1 w⟩
              unfold capA
              cases mx with
              | none =>
                simp only
                refine Eq.mpr ?_ (sub_rep (b := if cap = l then a else a.add (l * es)) (capv := cap - l) (xc := xc.map (· - l)) hn k2 (by omega) h1 hr ?_ ?_ ?_)
                . congr 1
                  split <;> simp_all
                . intro hlt
                  rw [if_neg (by omega)]
                . omega
                . intro c hcc
                  cases xc with
                  | none => cases hcc
                  | some c0 => simp at hcc; rw [<- hcc, hxc c0 rfl]
              | some mx =>
                simp only
                refine Eq.mpr ?_ (sub_rep (b := if m = l then a else a.add (l * es)) (capv := m - l) (xc := some (m - l)) hn k2 (by omega) h1 hr ?_ ?_ ?_)
                . congr 1
                  split <;> simp_all
                . intro hlt
                  rw [if_neg (by omega)]
                . omega
                . intro c hcc
                  cases hcc
                  rfl
          . cases hc
        . cases hc
      . cases hc
  . rename_i es
    split at hc
    . cases hc
    . rename_i hes
      simp only [ne_eq, Decidable.not_not] at hes
      subst hes
      split at hc
      . rename_i mx
        split at hc
        . rename_i m em
          split at hc
          . rename_i hh' eh
            split at hc
            . rename_i l el
              cases hc
              cases hx with
              | sln a cap =>
                obtain ⟨k1, k2, k3, k4⟩ := bounds_ok (P := E.P) (isSlice := true) (cap := cap) hl hh hm (Nat.zero_le _) hno em eh el (fun h => by cases h)
                have hh0 : m = 0 := by omega
                have hh1 : hh' = 0 := by omega
                have hl0 : l = 0 := by omega
                subst hh0 hh1 hl0
                refine ⟨_, ?_, run_slice_of hu hs k1 w⟩
                exact .sl (cells := []) _ _ (fun _ => undef) (by simp) (Nat.zero_le _) (fun c hc => by cases hc; simp) (fun j x hj => by simp at hj) (fun j x hj => by simp at hj)
            . cases hc
          . cases hc
        . cases hc
      . cases hc
  . rename_i id blen coff es len xc
    split at hc
    . cases hc
    . rename_i hes
      simp only [ne_eq, Decidable.not_not] at hes
      subst hes
      split at hc
      . rename_i mm hmm
        split at hc
        . rename_i hb
          obtain ⟨b1, b2⟩ := hb
          cases hx with
          | oslOld l k1 k2 a cap hc' hx' =>
            have := (h.memAt k1 hmm).2.1
            omega
          | osl loc cap k1 k2 hcap hxc ho =>
            obtain ⟨e1, e2, e3, e4, e5, e6, _⟩ := (h.memAt k1 hmm).2
            generalize hroom : roomA xc mm es coff len = room at hc
            unfold roomA at hroom
            have hr1 : room <= cap /\ (xc = none -> len <= room) := by
              cases xc with
              | some c => simp at hroom; rw [<- hroom, hxc c rfl]; exact ⟨Nat.le_refl _, fun e => by cases e⟩
              | none =>
                obtain ⟨o1, o2⟩ := ho rfl
                have hsz : mm.size = es := by rw [<- e2]; exact o1.symm
                simp only [hsz, if_true] at hroom
                have hdiv : coff % es = 0 := by
                  have h1 : coff = loc.cap * es - cap * es := by omega
                  rw [h1, <- Nat.sub_mul]
                  exact Nat.mul_mod_left _ _
                have hco : coff / es * es = coff := by have := Nat.div_add_mod coff es; rw [Nat.mul_comm]; omega
                have hcap2 : cap + coff / es = loc.cap := by
                  have : (cap + coff / es) * es = loc.cap * es := by rw [Nat.add_mul, hco]; exact o2
                  exact Nat.eq_of_mul_eq_mul_right hpos this
                have hlen2 : coff / es + len <= mm.len := by
                  have : (coff / es + len) * es <= mm.len * es := by rw [Nat.add_mul, hco]; rw [e3, hsz] at b2; exact b2
                  exact Nat.le_of_mul_le_mul_right this hpos
                omega
            split at hc
            . rename_i q em
              split at hc
              . rename_i hh' eh
                split at hc
                . rename_i l el
                  obtain ⟨k1', k2', k3', k4'⟩ := bounds_ok (P := E.P) (isSlice := true) (cap := cap) hl hh hm hr1.1 hno em eh el (fun e1 e2 => by
                    cases xc with
                    | none => exact hr1.2 rfl
                    | some c => simp at hroom; rw [<- hroom, <- hxc c rfl]; exact hcap)
                  have hrun := run_slice_of (a := some (⟨loc.block, coff, none⟩ : Addr)) hu hs k1' w
                  by_cases hempty : l = hh' /\ 0 < l
                  . rw [if_pos hempty] at hc
                    cases hc
                    refine ⟨_, ?_, hrun⟩
                    obtain ⟨rfl, hl0⟩ := hempty
                    simp only [Nat.sub_self]
                    unfold capA
                    cases mx with
                    | none =>
                      simp only
                      refine Eq.mpr ?_ (Rep.sl (Γ := Γ) (ρ := ρ) (cells := []) (es := es) (len := 0) (xc := xc.map (· - l)) (if cap = l then ⟨loc.block, coff, none⟩ else (⟨loc.block, coff, none⟩ : Addr).add (l * es)) (cap - l) (fun _ => undef) (by simp) (by omega) ?_ (fun j x hj => by simp at hj) (fun j x hj => by simp at hj))
                      . congr 1
                        split <;> simp_all
                      . intro c hcc
                        cases xc with
                        | none => cases hcc
                        | some c0 => simp at hcc; rw [<- hcc, hxc c0 rfl]
                    | some mx =>
                      simp only
                      refine Eq.mpr ?_ (Rep.sl (Γ := Γ) (ρ := ρ) (cells := []) (es := es) (len := 0) (xc := some (q - l)) (if q = l then ⟨loc.block, coff, none⟩ else (⟨loc.block, coff, none⟩ : Addr).add (l * es)) (q - l) (fun _ => undef) (by simp) (by omega) ?_ (fun j x hj => by simp at hj) (fun j x hj => by simp at hj))
                      . congr 1
                        split <;> simp_all
                      . intro c hcc
                        cases hcc
                        rfl
                  . rw [if_neg hempty] at hc
                    cases hc
                    refine ⟨_, ?_, hrun⟩
                    have haddr : ∀ M, hh' <= M -> (if M = l then some (⟨loc.block, coff, none⟩ : Addr) else (some (⟨loc.block, coff, none⟩ : Addr)).map (·.add (l * es))) = some ⟨loc.block, coff + l * es, none⟩ := fun M hM => by
                      by_cases hz : M = l
                      . have : l = 0 := by
                          rcases Nat.eq_zero_or_pos l with h0 | h0
                          . exact h0
                          . exact absurd ⟨by omega, h0⟩ hempty
                        subst this
                        simp [hz]
                      . rw [if_neg hz]
                        simp [add_mk]
                    unfold capA
                    cases mx with
                    | none =>
                      simp only
                      rw [haddr cap (by omega)]
                      refine .osl loc (cap - l) k1 k2 (by omega) ?_ ?_
                      . intro c hcc
                        cases xc with
                        | none => cases hcc
                        | some c0 => simp at hcc; rw [<- hcc, hxc c0 rfl]
                      . intro hcc
                        cases xc with
                        | some c0 => cases hcc
                        | none =>
                          obtain ⟨o1, o2⟩ := ho rfl
                          refine ⟨o1, ?_⟩
                          have : (cap - l) * es + l * es = cap * es := by rw [<- Nat.add_mul]; congr 1; omega
                          omega
                    | some mx =>
                      simp only
                      rw [haddr q (by omega)]
                      refine .osl loc (q - l) k1 k2 (by omega) ?_ ?_
                      . intro c hcc
                        cases hcc
                        rfl
                      . intro hcc
                        cases hcc
                . cases hc
              . cases hc
            . cases hc
        . cases hc
      . cases hc
  . cases hc
end
end
end Go.Proofs.YtaofbpldflcjmaaDoor.Am
