/- The operations that neither read nor write the store: the machine does what the interpreter does. -/
import Derived.Test.YtfpjlkkeelgffaaDoorMove
import Derived.ChangeKeysEq
import Derived.Laws.StructEq
import Derived.Laws.Slices
set_option linter.unusedVariables false
set_option linter.unusedSimpArgs false
namespace Go.Proofs.YtfpjlkkeelgffaaDoor.Am

/-- A value, a store and a world behind a step. -/
def Moves (E : Env) (fl : Nat) (Γ : Sealed) (ρ : Ren) (σ : Store) (w : World) (p : PV) (σ' : Store) (r : Value) (w' : World) : Prop :=
  ∃ Γ' ρ', Rep Γ' ρ' p r ∧ Rel E fl Γ' ρ' σ' w' ∧ Post fl Γ ρ σ w Γ' ρ' σ' w'

structure Env.Ok (E : Env) : Prop where
  plain : ∀ t, E.plain.contains t = true → E.P.stoodInHeld t = false ∧ E.P.eqGuardType E.P.depth t = false
  ext : ∀ f, E.ext f = some .compare → ∃ fn, E.P.funcs[f]? = some fn ∧ (fn.name == "runtime.NumGoroutine") = false ∧ fn.body.isNone = true ∧ Extern.findNext fn = none ∧ Extern.find fn = some Extern.BytealgCompare.compare
  mixed : E.P.follows .mixedOrders = true
  glob : ∀ g cells, E.G g = some cells → oldL 0 cells = true
  pure : ∀ f args r, E.pure f args = some r → oldV 0 r = true ∧ ∀ (Γ : Sealed) (w : World) (vs : List Value), Rel E 0 Γ (fun _ => none) [] w → Reps Γ (fun _ => none) args vs →
    Calls E.P f vs.toArray w fun e w' => ∃ v, e = .returned v ∧ Moves E 0 Γ (fun _ => none) [] w r [] v w'
  clone : ∀ f es, E.clone f = some es → ∀ (cells : List PV) (n : Nat) (xc : Option Nat) (fl : Nat) (Γ : Sealed) (ρ : Ren) (σ : Store) (w : World) (v : Value), Rel E fl Γ ρ σ w → fl ≤ σ.length →
    Rep Γ ρ (.sl cells es n xc) v → n ≤ 1048576 → cells.all PV.oneCell = true →
    Calls E.P f #[v] w fun e w' => ∃ r, e = .returned r ∧ Moves E fl Γ ρ σ w (cloneR cells es n σ).1 (cloneR cells es n σ).2 r w'
  prim : ∀ f args σ fl p σ', E.prim f args σ fl = some (true, p, σ') → fl ≤ σ.length → ∀ (Γ : Sealed) (ρ : Ren) (w : World) (vs : List Value), Rel E fl Γ ρ σ w → Reps Γ ρ args vs →
    Calls E.P f vs.toArray w fun e w' => ∃ r, e = .returned r ∧ Moves E fl Γ ρ σ w p σ' r w'

section
variable {E : Env} {fl : Nat} {Γ : Sealed} {ρ : Ren} {σ : Store} {w : World}

theorem sizeT_info {P : Program} {t : TypeId} {s : Nat} (h : sizeT P t = some s) : ∃ i, P.info? t = some i ∧ i.size = s := by
  unfold sizeT at h
  cases hi : P.info? t with
  | none => simp [hi] at h
  | some i => exact ⟨i, rfl, by simpa [hi] using h⟩

theorem run_sizeT {P : Program} {t : TypeId} {s : Nat} (h : sizeT P t = some s) (w : World) : (sizeOf t).run P w = .ok s w := by
  obtain ⟨i, hi, hs⟩ := sizeT_info h
  simp [sizeOf, typeInfo, hi, hs]

theorem run_aggT {P : Program} {t : TypeId} {b : Bool} (h : aggT P t = some b) (w : World) : (isAgg t).run P w = .ok b w := by
  unfold aggT at h
  unfold isAgg
  cases hu : P.underlying t with
  | none => simp [hu] at h
  | some d =>
    rw [hu] at h
    rw [Sem.run_bind, run_underlying hu w]
    cases d <;> simp_all

theorem ofCell_rep {v : Value} {x : PV} (h : ofCell v = some x) : Rep Γ ρ x v ∧ x.oneCell = true ∧ x.isAgg = false := by
  unfold ofCell at h
  split at h <;> first
    | (cases h; refine ⟨?_, rfl, rfl⟩; first | constructor | exact .str _)
    | cases h

theorem ofCells_rep : ∀ {vs : List Value} {xs : List PV}, ofCells vs = some xs → Reps Γ ρ xs vs ∧ xs.all PV.oneCell = true
  | [], xs, h => by cases h; exact ⟨.nil, rfl⟩
  | v :: vs, xs, h => by
    unfold ofCells at h
    split at h
    · rename_i x xs' hx hxs
      cases h
      have h1 := ofCell_rep (Γ := Γ) (ρ := ρ) hx
      have h2 := ofCells_rep hxs
      exact ⟨.cons h1.1 h2.1, by simp [h1.2.1, h2.2]⟩
    · cases h

theorem ofConst_rep {v : Value} {x : PV} (h : ofConst v = some x) : Rep Γ ρ x v ∧ x.cells.all PV.oneCell = true := by
  unfold ofConst at h
  split at h
  · rename_i cs
    cases hc : ofCells cs.toList with
    | none => simp [hc] at h
    | some xs =>
      simp [hc] at h
      subst h
      have := ofCells_rep (Γ := Γ) (ρ := ρ) hc
      exact ⟨by simpa using this.1.agg, this.2⟩
  · have := ofCell_rep (Γ := Γ) (ρ := ρ) h
    refine ⟨this.1, ?_⟩
    cases x <;> simp_all [PV.cells, PV.isAgg]

theorem zeroT_rep {P : Program} {t : TypeId} {x : PV} (h : zeroT P t = some x) : ∃ i z, P.info? t = some i ∧ i.zero = some z ∧ Rep Γ ρ x z ∧ x.cells.all PV.oneCell = true := by
  unfold zeroT at h
  split at h
  · rename_i i hi
    cases hz : i.zero with
    | none => simp [hz] at h
    | some z =>
      simp [hz] at h
      exact ⟨i, z, hi, hz, ofConst_rep h⟩
  · cases h

/-- Operands: what the interpreter says of them. -/
def EnvOk (Γ : Sealed) (ρ : Ren) (ev : Operand → Option PV) (a : Act) : Prop := ∀ x p, ev x = some p → Rep Γ ρ p (a.eval x)

theorem evalAll_ok {ev : Operand → Option PV} {a : Act} (he : EnvOk Γ ρ ev a) : ∀ {xs : List Operand} {ps : List PV}, evalAll ev xs = some ps → Reps Γ ρ ps (xs.map a.eval)
  | [], ps, h => by cases h; exact .nil
  | x :: xs, ps, h => by
    unfold evalAll at h
    split at h
    · rename_i p ps' hp hps
      cases h
      exact .cons (he x p hp) (evalAll_ok he hps)
    · cases h

/-- Numbered parts. -/
def RepParts (Γ : Sealed) (ρ : Ren) : List (Nat × PV) → List (Nat × Value) → Prop
  | [], [] => True
  | (i, x) :: xs, (j, v) :: vs => i = j ∧ Rep Γ ρ x v ∧ RepParts Γ ρ xs vs
  | _, _ => False

theorem evalParts_ok {ev : Operand → Option PV} {a : Act} (he : EnvOk Γ ρ ev a) : ∀ {xs : List (Nat × Operand)} {ps : List (Nat × PV)}, evalParts ev xs = some ps → RepParts Γ ρ ps (xs.map fun (i, x) => (i, a.eval x))
  | [], ps, h => by cases h; exact trivial
  | (i, x) :: xs, ps, h => by
    unfold evalParts at h
    split at h
    · rename_i p ps' hp hps
      cases h
      exact ⟨rfl, he x p hp, evalParts_ok he hps⟩
    · cases h

theorem RepParts.mono {Γ' ρ'} (hle : Le Γ ρ Γ' ρ') : ∀ {ps : List (Nat × PV)} {vs : List (Nat × Value)}, RepParts Γ ρ ps vs → RepParts Γ' ρ' ps vs
  | [], [], h => trivial
  | (i, x) :: xs, (j, v) :: vs, h => ⟨h.1, h.2.1.mono hle, RepParts.mono hle h.2.2⟩
  | [], _ :: _, h => h.elim
  | _ :: _, [], h => h.elim

theorem foldl_set (new : List Value) : ∀ (k off : Nat) (cells : Array Value), off + k + new.length ≤ cells.size →
    ((new.zipIdx k).foldl (fun cs (x : Value × Nat) => cs.setIfInBounds (off + x.2) x.1) cells).toList = cells.toList.take (off + k) ++ (new ++ cells.toList.drop (off + k + new.length)) := by
  induction new with
  | nil => intro k off cells h; simp
  | cons v new ih =>
    intro k off cells h
    simp only [List.zipIdx_cons, List.foldl_cons]
    simp only [List.length_cons] at h
    rw [ih (k + 1) off _ (by simp; omega)]
    have e := list_seg_step cells.toList (off + k) v new (by simp; omega)
    simp only [Array.toList_setIfInBounds]
    rw [List.append_assoc, List.append_assoc] at e
    have e1 : off + (k + 1) = off + k + 1 := by omega
    have e2 : off + k + (v :: new).length = off + k + (new.length + 1) := by simp
    rw [e1, e2]
    exact e

theorem fill_ok {place place' : Nat → Option (Nat × Nat)} (hp : ∀ i r, place i = some r → place' i = some r) : ∀ {parts : List (Nat × PV)} {vs : List (Nat × Value)} {cells out : List PV} {C : Array Value},
    fillL place cells parts = some out → RepParts Γ ρ parts vs → Reps Γ ρ cells C.toList → cells.all PV.oneCell = true →
    ∃ C', Instr.fill place' C vs = some C' ∧ Reps Γ ρ out C'.toList ∧ out.all PV.oneCell = true ∧ out.length = cells.length
  | [], [], cells, out, C, h, _, hc, h1 => by cases h; exact ⟨C, rfl, hc, h1, rfl⟩
  | (i, x) :: parts, (j, v) :: vs, cells, out, C, h, hr, hc, h1 => by
    obtain ⟨rfl, hx, hr⟩ := hr
    unfold fillL at h
    split at h
    · cases h
    · rename_i off size hpl
      split at h
      · cases h
      · rename_i hcond
        have hxc := hx.cells
        have hsz : v.cells.size = x.cells.length := by simpa using hxc.1
        have hCs : C.size = cells.length := by simpa using hc.1
        simp only [not_or, Nat.not_lt, Bool.not_eq_false, ne_eq, Decidable.not_not] at hcond
        obtain ⟨c1, c2, c3⟩ := hcond
        simp only [Instr.fill, hp _ _ hpl]
        have hne : ¬ (v.cells.size ≠ size || decide (off + v.cells.size > C.size)) = true := by
          simp; omega
        rw [if_neg (by simpa using hne)]
        have hfold : (v.cells.zipIdx.foldl (fun cs (c, j) => cs.setIfInBounds (off + j) c) C).toList = C.toList.take off ++ (v.cells.toList ++ C.toList.drop (off + v.cells.toList.length)) := by
          have := foldl_set v.cells.toList 0 off C (by simp; omega)
          rw [← Array.foldl_toList, Array.toList_zipIdx]
          simpa using this
        have hs := hc.splice (off := off) hxc
        have hlen : (splice cells off x.cells).length = cells.length := by simp [splice]; omega
        have hone : (splice cells off x.cells).all PV.oneCell = true := by
          rw [List.all_eq_true] at h1 c3 ⊢
          intro y hy
          simp only [splice, List.mem_append] at hy
          rcases hy with hy | hy | hy
          · exact h1 y (List.mem_of_mem_take hy)
          · exact c3 y hy
          · exact h1 y (List.mem_of_mem_drop hy)
        obtain ⟨C', e1, e2, e3, e4⟩ := fill_ok hp (parts := parts) (vs := vs) (C := v.cells.zipIdx.foldl (fun cs (c, j) => cs.setIfInBounds (off + j) c) C) h hr (by rw [hfold]; exact hs) hone
        exact ⟨C', e1, e2, e3, e4.trans hlen⟩
  | [], _ :: _, _, _, _, _, h, _, _ => h.elim
  | _ :: _, [], _, _, _, _, h, _, _ => h.elim

end
end Go.Proofs.YtfpjlkkeelgffaaDoor.Am
