/- The operations that neither read nor write the store: the machine does what the interpreter does. -/
import Derived.Test.YtaofbpldflcjmaaDoorMMRp
import Derived.ChangeKeysEq
import Derived.Laws.StructEq
import Derived.Laws.Slices
set_option linter.unusedVariables false
set_option linter.unusedSimpArgs false
namespace Go.Proofs.YtaofbpldflcjmaaDoor.Am
section
def Moves (E : Env) (fl : Nat) (Γ : Sealed) (ρ : Ren) (σ : Store) (w : World) (p : PV) (σ' : Store) (r : Value) (w' : World) : Prop :=
  ∃ Γ' ρ', Rep Γ' ρ' p r /\ Rel E fl Γ' ρ' σ' w' /\ Post fl Γ ρ σ w Γ' ρ' σ' w'
structure Env.Ok (E : Env) : Prop where
  plain : ∀ t, E.plain.contains t = true -> E.P.stoodInHeld t = false /\ E.P.eqGuardType E.P.depth t = false
  ext : ∀ f, E.ext f = some .compare -> ∃ fn, E.P.funcs[f]? = some fn /\ (fn.name == "runtime.NumGoroutine") = false /\ fn.body.isNone = true /\ Extern.findNext fn = none /\ Extern.find fn = some Extern.BytealgCompare.compare
  mixed : E.P.follows .mixedOrders = true
  glob : ∀ g cells, E.G g = some cells -> oldL 0 cells = true
  pure : ∀ f args r, E.pure f args = some r -> oldV 0 r = true /\ ∀ (Γ : Sealed) (w : World) (vs : List Value), Rel E 0 Γ (fun _ => none) [] w -> Reps Γ (fun _ => none) args vs ->
    Calls E.P f vs.toArray w fun e w' => ∃ v, e = .returned v /\ Moves E 0 Γ (fun _ => none) [] w r [] v w'
  clone : ∀ f es, E.clone f = some es -> ∀ (cells : List PV) (n : Nat) (xc : Option Nat) (fl : Nat) (Γ : Sealed) (ρ : Ren) (σ : Store) (w : World) (v : Value), Rel E fl Γ ρ σ w -> fl <= σ.length ->
    Rep Γ ρ (.sl cells es n xc) v -> n <= 1048576 -> cells.all PV.oneCell = true ->
    Calls E.P f #[v] w fun e w' => ∃ r, e = .returned r /\ Moves E fl Γ ρ σ w (cloneR cells es n σ).1 (cloneR cells es n σ).2 r w'
  prim : ∀ f args σ fl p σ', E.prim f args σ fl = some (true, p, σ') -> fl <= σ.length -> ∀ (Γ : Sealed) (ρ : Ren) (w : World) (vs : List Value), Rel E fl Γ ρ σ w -> Reps Γ ρ args vs ->
    Calls E.P f vs.toArray w fun e w' => ∃ r, e = .returned r /\ Moves E fl Γ ρ σ w p σ' r w'
section
variable {E : Env} {fl : Nat} {Γ : Sealed} {ρ : Ren} {σ : Store} {w : World}
theorem sizeT_info {P : Program} {t : TypeId} {s : Nat} (h : sizeT P t = some s) : ∃ i, P.info? t = some i /\ i.size = s := by
  unfold sizeT at h
  cases hi : P.info? t with
  | none => simp [hi] at h
  | some i => exact ⟨i, rfl, by simpa [hi] using h⟩
theorem run_sizeT {P : Program} {t : TypeId} {s : Nat} (h : sizeT P t = some s) (w : World) : (sizeOf t).run P w = .ok s w := by
  obtain ⟨i, hi, hs⟩ := sizeT_info h
  simp [sizeOf, typeInfo, hi, hs]
theorem run_aggT {P : Program} {t : TypeId} {b : Bool} (h : aggT P t = some b) (w : World) : (isAgg t).run P w = .ok b w := by
  unfold aggT at h
  unfold isAgg
  cases hu : P.underlying t with
  | none => simp [hu] at h
  | some d =>
    rw [hu] at h
    rw [Sem.run_bind, run_underlying hu w]
    cases d <;> simp_all
theorem ofCell_rep {v : Value} {x : PV} (h : ofCell v = some x) : Rep Γ ρ x v /\ x.oneCell = true /\ x.isAgg = false := by
  unfold ofCell at h
  split at h <;> first
    | (cases h; refine ⟨?_, rfl, rfl⟩; first | constructor | exact .str _)
    | cases h
theorem ofCells_rep : ∀ {vs : List Value} {xs : List PV}, ofCells vs = some xs -> Reps Γ ρ xs vs /\ xs.all PV.oneCell = true
  | [], xs, h => by cases h; exact ⟨.nil, rfl⟩
  | v :: vs, xs, h => by
    unfold ofCells at h
    split at h
    . rename_i x xs' hx hxs
      cases h
      have h1 := ofCell_rep (Γ := Γ) (ρ := ρ) hx
      have h2 := ofCells_rep hxs
      exact ⟨.cons h1.1 h2.1, by simp [h1.2.1, h2.2]⟩
    . cases h
theorem ofConst_rep {v : Value} {x : PV} (h : ofConst v = some x) : Rep Γ ρ x v /\ x.cells.all PV.oneCell = true := by
  unfold ofConst at h
  split at h
  . rename_i cs
    cases hc : ofCells cs.toList with
    | none => simp [hc] at h
    | some xs =>
      simp [hc] at h
      subst h
      have := ofCells_rep (Γ := Γ) (ρ := ρ) hc
      exact ⟨by simpa using this.1.agg, this.2⟩
  . have := ofCell_rep (Γ := Γ) (ρ := ρ) h
    refine ⟨this.1, ?_⟩
    cases x <;> simp_all [PV.cells, PV.isAgg]
theorem zeroT_rep {P : Program} {t : TypeId} {x : PV} (h : zeroT P t = some x) : ∃ i z, P.info? t = some i /\ i.zero = some z /\ Rep Γ ρ x z /\ x.cells.all PV.oneCell = true := by
  unfold zeroT at h
  split at h
  . rename_i i hi
    cases hz : i.zero with
    | none => simp [hz] at h
    | some z =>
      simp [hz] at h
      exact ⟨i, z, hi, hz, ofConst_rep h⟩
  . cases h
def EnvOk (Γ : Sealed) (ρ : Ren) (ev : Operand -> Option PV) (a : Act) : Prop := ∀ x p, ev x = some p -> Rep Γ ρ p (a.eval x)
theorem evalAll_ok {ev : Operand -> Option PV} {a : Act} (he : EnvOk Γ ρ ev a) : ∀ {xs : List Operand} {ps : List PV}, evalAll ev xs = some ps -> Reps Γ ρ ps (xs.map a.eval)
  | [], ps, h => by cases h; exact .nil
  | x :: xs, ps, h => by
    unfold evalAll at h
    split at h
    . rename_i p ps' hp hps
      cases h
      exact .cons (he x p hp) (evalAll_ok he hps)
    . cases h
def RepParts (Γ : Sealed) (ρ : Ren) : List (Nat × PV) -> List (Nat × Value) -> Prop
  | [], [] => True
  | (i, x) :: xs, (j, v) :: vs => i = j /\ Rep Γ ρ x v /\ RepParts Γ ρ xs vs
  | _, _ => False
theorem evalParts_ok {ev : Operand -> Option PV} {a : Act} (he : EnvOk Γ ρ ev a) : ∀ {xs : List (Nat × Operand)} {ps : List (Nat × PV)}, evalParts ev xs = some ps -> RepParts Γ ρ ps (xs.map fun (i, x) => (i, a.eval x))
  | [], ps, h => by cases h; exact trivial
  | (i, x) :: xs, ps, h => by
    unfold evalParts at h
    split at h
    . rename_i p ps' hp hps
      cases h
      exact ⟨rfl, he x p hp, evalParts_ok he hps⟩
    . cases h
theorem RepParts.mono {Γ' ρ'} (hle : Le Γ ρ Γ' ρ') : ∀ {ps : List (Nat × PV)} {vs : List (Nat × Value)}, RepParts Γ ρ ps vs -> RepParts Γ' ρ' ps vs
  | [], [], h => trivial
  | (i, x) :: xs, (j, v) :: vs, h => ⟨h.1, h.2.1.mono hle, RepParts.mono hle h.2.2⟩
  | [], _ :: _, h => h.elim
  | _ :: _, [], h => h.elim
theorem foldl_set (new : List Value) : ∀ (k off : Nat) (cells : Array Value), off + k + new.length <= cells.size ->
    ((new.zipIdx k).foldl (fun cs (x : Value × Nat) => cs.setIfInBounds (off + x.2) x.1) cells).toList = cells.toList.take (off + k) ++ (new ++ cells.toList.drop (off + k + new.length)) := by
  induction new with
  | nil => intro k off cells h; simp
  | cons v new ih =>
    intro k off cells h
    simp only [List.zipIdx_cons, List.foldl_cons]
    simp only [List.length_cons] at h
    rw [ih (k + 1) off _ (by simp; omega)]
    have e := list_seg_step cells.toList (off + k) v new (by simp; omega)
    simp only [Array.toList_setIfInBounds]
    rw [List.append_assoc, List.append_assoc] at e
    have e1 : off + (k + 1) = off + k + 1 := by omega
    have e2 : off + k + (v :: new).length = off + k + (new.length + 1) := by simp
    rw [e1, e2]
    exact e
theorem fill_ok {place place' : Nat -> Option (Nat × Nat)} (hp : ∀ i r, place i = some r -> place' i = some r) : ∀ {parts : List (Nat × PV)} {vs : List (Nat × Value)} {cells out : List PV} {C : Array Value},
    fillL place cells parts = some out -> RepParts Γ ρ parts vs -> Reps Γ ρ cells C.toList -> cells.all PV.oneCell = true ->
    ∃ C', Instr.fill place' C vs = some C' /\ Reps Γ ρ out C'.toList /\ out.all PV.oneCell = true /\ out.length = cells.length
  | [], [], cells, out, C, h, _, hc, h1 => by cases h; exact ⟨C, rfl, hc, h1, rfl⟩
  | (i, x) :: parts, (j, v) :: vs, cells, out, C, h, hr, hc, h1 => by
    obtain ⟨rfl, hx, hr⟩ := hr
    unfold fillL at h
    split at h
    . cases h
    . rename_i off size hpl
      split at h
      . cases h
      . rename_i hcond
        have hxc := hx.cells
        have hsz : v.cells.size = x.cells.length := by simpa using hxc.1
        have hCs : C.size = cells.length := by simpa using hc.1
        simp only [not_or, Nat.not_lt, Bool.not_eq_false, ne_eq, Decidable.not_not] at hcond
        obtain ⟨c1, c2, c3⟩ := hcond
        simp only [Instr.fill, hp _ _ hpl]
        have hne : ¬ (v.cells.size ≠ size || decide (off + v.cells.size > C.size)) = true := by
          simp; omega
        rw [if_neg (by simpa using hne)]
        have hfold : (v.cells.zipIdx.foldl (fun cs (c, j) => cs.setIfInBounds (off + j) c) C).toList = C.toList.take off ++ (v.cells.toList ++ C.toList.drop (off + v.cells.toList.length)) := by
          have := foldl_set v.cells.toList 0 off C (by simp; omega)
          rw [<- Array.foldl_toList, Array.toList_zipIdx]
          simpa using this
        have hs := hc.splice (off := off) hxc
        have hlen : (splice cells off x.cells).length = cells.length := by simp [splice]; omega
        have hone : (splice cells off x.cells).all PV.oneCell = true := by
          rw [List.all_eq_true] at h1 c3 ⊢
          intro y hy
          simp only [splice, List.mem_append] at hy
          rcases hy with hy | hy | hy
          . exact h1 y (List.mem_of_mem_take hy)
          . exact c3 y hy
          . exact h1 y (List.mem_of_mem_drop hy)
        obtain ⟨C', e1, e2, e3, e4⟩ := fill_ok hp (parts := parts) (vs := vs) (C := v.cells.zipIdx.foldl (fun cs (c, j) => cs.setIfInBounds (off + j) c) C) h hr (by rw [hfold]; exact hs) hone
        exact ⟨C', e1, e2, e3, e4.trans hlen⟩
  | [], _ :: _, _, _, _, _, h, _, _ => h.elim
  | _ :: _, [], _, _, _, _, h, _, _ => h.elim
end
end
section
section
variable {E : Env} {fl : Nat} {Γ : Sealed} {ρ : Ren} {σ : Store}
theorem toList_mk (l : List UInt8) : (⟨⟨l⟩⟩ : ByteArray).toList = l := by rw [ByteArray.toList_eq]
theorem intOp_ok {op : BinOp} {k : IntKind} {a b : Int} {p : PV} (h : intOp op k a b = some p) (t : TypeId) (hop : op ≠ .shl /\ op ≠ .shr) :
    ∃ v, Rep Γ ρ p v /\ ∀ (P : Program) (w : World), (binOp op t (.int k a) (.int k b)).run P w = .ok v w := by
  cases op <;> simp only [intOp] at h <;> first
    | (cases h; refine ⟨_, .int _ _, fun P w => ?_⟩; simp [binOp, Op.intArith, Op.intBits, Op.intCmp]; done)
    | (cases h; refine ⟨_, .bool _, fun P w => ?_⟩; simp [binOp, Op.intCmp]; done)
    | (split at h
       . cases h
       . rename_i hz; cases h; refine ⟨_, .int _ _, fun P w => ?_⟩; simp [binOp, Op.intDiv, hz])
    | (simp at hop; done)
    | cases h
theorem shiftOp_ok {op : BinOp} {k kb : IntKind} {a b : Int} {p : PV} (h : shiftOp op k a b = some p) (t : TypeId) :
    ∃ v, Rep Γ ρ p v /\ ∀ (P : Program) (w : World), (binOp op t (.int k a) (.int kb b)).run P w = .ok v w := by
  unfold shiftOp at h
  split at h
  . cases h
  . rename_i hb
    split at h
    . cases h; refine ⟨_, .int _ _, fun P w => ?_⟩; simp [binOp, Op.shift, hb]
    . cases h; refine ⟨_, .int _ _, fun P w => ?_⟩; simp [binOp, Op.shift, hb]
    . cases h
theorem strOp_ok {op : BinOp} {a b : List UInt8} {p : PV} (h : strOp op a b = some p) (t : TypeId) :
    ∃ v, Rep Γ ρ p v /\ ∀ (P : Program) (w : World), (binOp op t (.string ⟨⟨a⟩⟩) (.string ⟨⟨b⟩⟩)).run P w = .ok v w := by
  cases op <;> simp only [strOp] at h
  case add =>
    split at h
    . rename_i hl
      cases h
      refine ⟨_, .str _, fun P w => ?_⟩
      have hn : ¬ (IntKind.i64.max < ((a.length + b.length : Nat) : Int)) := by
        have : IntKind.i64.max = 9223372036854775807 := by decide
        omega
      have hsz : ((⟨⟨a⟩⟩ : ByteArray).size + (⟨⟨b⟩⟩ : ByteArray).size) = a.length + b.length := rfl
      have happ : (⟨⟨a⟩⟩ : ByteArray) ++ (⟨⟨b⟩⟩ : ByteArray) = ⟨⟨a ++ b⟩⟩ := by
        apply ByteArray.ext
        simp [ByteArray.data_append]
      simp only [binOp, Op.stringOp, gt_iff_lt, hsz]
      rw [if_neg hn, happ]
      rfl
    . cases h
  all_goals first
    | (cases h; refine ⟨_, .bool _, fun P w => ?_⟩; simp only [binOp, Op.stringOp, toList_mk]; rfl)
    | cases h
theorem run_part_agg {P : Program} {t : TypeId} {n : Nat} (ha : aggT P t = some true) (hs : sizeT P t = some n) (cs : Array Value) (off : Nat) (w : World) :
    (part t cs off).run P w = .ok (.agg (cs.extract off (off + n))) w := by
  simp [part, run_aggT ha, run_sizeT hs]
theorem run_part_one {P : Program} {t : TypeId} (ha : aggT P t = some false) {cs : Array Value} {off : Nat} {v : Value} (hv : cs[off]? = some v) (w : World) :
    (part t cs off).run P w = .ok v w := by
  simp [part, run_aggT ha, hv]
theorem Reps.extract {xs : List PV} {vs : Array Value} (h : Reps Γ ρ xs vs.toList) (off n : Nat) (hl : off + n <= xs.length) :
    Rep Γ ρ (.agg ((xs.drop off).take n)) (.agg (vs.extract off (off + n))) := by
  have := ((h.drop off).take n).agg
  have e : ((vs.toList.drop off).take n).toArray = vs.extract off (off + n) := by
    apply Array.ext'
    simp [Array.toList_extract, List.extract]
  rwa [e] at this
theorem Reps.at {xs : List PV} {vs : List Value} (h : Reps Γ ρ xs vs) {j : Nat} {x : PV} (hx : xs[j]? = some x) : ∃ v, vs[j]? = some v /\ Rep Γ ρ x v := by
  have hj : j < vs.length := by have := (List.getElem?_eq_some_iff.1 hx).1; have := h.1; omega
  exact ⟨vs[j], List.getElem?_eq_getElem hj, h.2 j x _ hx (List.getElem?_eq_getElem hj)⟩
theorem eqFields_ok {P : Program} {d D : Nat} (ih : ∀ (t : TypeId) (x y : PV) (v u : Value) (r : Bool), eqA E d t x y = some r -> Rep Γ ρ x v -> Rep Γ ρ y u -> ∀ w, (Op.equalIn D t v u).run E.P w = .ok r w) :
    ∀ (fs : List Field) {xs ys : List PV} {vs us : Array Value} {r : Bool}, eqFields (eqA E d) E.P xs ys fs = some r -> Reps Γ ρ xs vs.toList -> Reps Γ ρ ys us.toList ->
      ∀ w, (Op.eqFields D vs us fs).run E.P w = .ok r w
  | [], xs, ys, vs, us, r, h, _, _, w => by cases h; simp [Op.eqFields]
  | f :: fs, xs, ys, vs, us, r, h, hx, hy, w => by
    unfold eqFields at h
    split at h
    . cases h
    . rename_i hname
      simp only [Op.eqFields, ne_eq, hname, not_false_eq_true, if_true]
      split at h
      . rename_i s hs ha
        split at h
        . rename_i hl
          cases he : eqA E d f.type (.agg ((xs.drop f.offset).take s)) (.agg ((ys.drop f.offset).take s)) with
          | none => simp [he, andB] at h
          | some q =>
            have hq := ih _ _ _ _ _ q he (hx.extract f.offset s hl.1) (hy.extract f.offset s hl.2) w
            simp only [Sem.run_bind, run_part_agg ha hs, Result.andThen_ok, hq]
            cases he2 : eqFields (eqA E d) E.P xs ys fs with
            | none => simp [he, he2, andB] at h
            | some q2 =>
              simp [he, he2, andB] at h
              cases q with
              | false => simp at h; subst h; simp
              | true => simp at h; subst h; simp only [Bool.not_true, Bool.false_eq_true, if_false]; exact eqFields_ok (P := P) ih fs he2 hx hy w
        . cases h
      . rename_i s hs ha
        split at h
        . rename_i x y hxo hyo
          obtain ⟨v, hv, rv⟩ := hx.at hxo
          obtain ⟨u, hu, ru⟩ := hy.at hyo
          cases he : eqA E d f.type x y with
          | none => simp [he, andB] at h
          | some q =>
            have hq := ih _ _ _ _ _ q he rv ru w
            simp only [Sem.run_bind, run_part_one ha (by simpa using hv), run_part_one ha (by simpa using hu), Result.andThen_ok, hq]
            cases he2 : eqFields (eqA E d) E.P xs ys fs with
            | none => simp [he, he2, andB] at h
            | some q2 =>
              simp [he, he2, andB] at h
              cases q with
              | false => simp at h; subst h; simp
              | true => simp at h; subst h; simp only [Bool.not_true, Bool.false_eq_true, if_false]; exact eqFields_ok (P := P) ih fs he2 hx hy w
        . cases h
      . cases h
theorem eqElems_ok {d D : Nat} {e : TypeId} {g : Bool} {s : Nat} (ha : aggT E.P e = some g) (hs : sizeT E.P e = some s)
    (ih : ∀ (t : TypeId) (x y : PV) (v u : Value) (r : Bool), eqA E d t x y = some r -> Rep Γ ρ x v -> Rep Γ ρ y u -> ∀ w, (Op.equalIn D t v u).run E.P w = .ok r w) :
    ∀ (n i : Nat) {xs ys : List PV} {vs us : Array Value} {r : Bool}, eqElems (eqA E d e) g s xs ys i n = some r -> Reps Γ ρ xs vs.toList -> Reps Γ ρ ys us.toList ->
      ∀ w, (Op.eqItems D e s vs us (List.range' i n)).run E.P w = .ok r w
  | 0, i, xs, ys, vs, us, r, h, _, _, w => by cases h; simp [Op.eqItems]
  | n + 1, i, xs, ys, vs, us, r, h, hx, hy, w => by
    unfold eqElems at h
    simp only [List.range'_succ, Op.eqItems]
    cases g with
    | true =>
      simp only [if_true] at h
      split at h
      . rename_i hl
        cases he : eqA E d e (.agg ((xs.drop (i * s)).take s)) (.agg ((ys.drop (i * s)).take s)) with
        | none => simp [he, andB] at h
        | some q =>
          have hq := ih _ _ _ _ _ q he (hx.extract (i * s) s hl.1) (hy.extract (i * s) s hl.2) w
          simp only [Sem.run_bind, run_part_agg ha hs, Result.andThen_ok, hq]
          cases he2 : eqElems (eqA E d e) true s xs ys (i + 1) n with
          | none => simp [he, he2, andB] at h
          | some q2 =>
            simp [he, he2, andB] at h
            cases q with
            | false => simp at h; subst h; simp
            | true => simp at h; subst h; simp only [Bool.not_true, Bool.false_eq_true, if_false]; exact eqElems_ok ha hs ih n (i + 1) he2 hx hy w
      . cases h
    | false =>
      simp only [Bool.false_eq_true, if_false] at h
      split at h
      . rename_i x y hxo hyo
        obtain ⟨v, hv, rv⟩ := hx.at hxo
        obtain ⟨u, hu, ru⟩ := hy.at hyo
        cases he : eqA E d e x y with
        | none => simp [he, andB] at h
        | some q =>
          have hq := ih _ _ _ _ _ q he rv ru w
          simp only [Sem.run_bind, run_part_one ha (by simpa using hv), run_part_one ha (by simpa using hu), Result.andThen_ok, hq]
          cases he2 : eqElems (eqA E d e) false s xs ys (i + 1) n with
          | none => simp [he, he2, andB] at h
          | some q2 =>
            simp [he, he2, andB] at h
            cases q with
            | false => simp at h; subst h; simp
            | true => simp at h; subst h; simp only [Bool.not_true, Bool.false_eq_true, if_false]; exact eqElems_ok ha hs ih n (i + 1) he2 hx hy w
      . cases h
set_option maxHeartbeats 2000000 in
theorem eqA_ok (hE : E.Ok) : ∀ (d D : Nat), d <= D -> ∀ (t : TypeId) (x y : PV) (v u : Value) (r : Bool), eqA E d t x y = some r -> Rep Γ ρ x v -> Rep Γ ρ y u -> ∀ w, (Op.equalIn D t v u).run E.P w = .ok r w
  | 0, _, _, t, x, y, v, u, r, h, _, _, w => by cases h
  | d + 1, 0, hD, _, _, _, _, _, _, _, _, _, _ => by omega
  | d + 1, D + 1, hD, t, x, y, v, u, r, h, hx, hy, w => by
    have ih := eqA_ok hE d D (by omega)
    unfold eqA at h
    split at h
    case h_3 =>
      rename_i a b hu
      cases hx; cases hy
      cases h
      rw [run_equalIn_string w D t _ _ hu, toList_mk, toList_mk]
    case h_29 =>
      rename_i fs xs ys hu
      split at h
      . rename_i hp
        obtain ⟨vs, rfl, hvs⟩ := Reps.of_agg hx
        obtain ⟨us, rfl, hus⟩ := Reps.of_agg hy
        have hf : E.P.fieldsOf t = fs := by simp [Program.fieldsOf, hu]
        rw [run_equalIn_struct w D t vs us (by rw [hf]; exact hu) (hE.plain t hp).1, hf]
        exact eqFields_ok (P := E.P) ih fs.toList h hvs hus w
      . cases h
    case h_30 =>
      rename_i n e xs ys hu
      split at h
      . rename_i s g hs ha
        obtain ⟨vs, rfl, hvs⟩ := Reps.of_agg hx
        obtain ⟨us, rfl, hus⟩ := Reps.of_agg hy
        obtain ⟨i, hi, hsz⟩ := sizeT_info hs
        have hc : E.P.cellsOf e = s := by simp [Program.cellsOf, hi, hsz]
        rw [run_equalIn_array w D vs us hu hi, hc, List.range_eq_range']
        exact eqElems_ok ha hs ih n 0 h hvs hus w
      . cases h
    all_goals first
      | (cases h; done)
      | (rename_i hu; cases hx <;> cases hy <;> first
          | (cases h; simp [Op.equalIn, run_underlying hu]; done)
          | (split at h
             . rename_i hk; cases h; simp [Op.equalIn, run_underlying hu, hk]; done
             . cases h)
          | (split at h
             . cases h
             . first
               | (cases h; simp [Op.equalIn, run_underlying hu]; done)
               | (rename_i hk; exact absurd rfl hk)))
end
end
section
section
variable {E : Env} {fl : Nat} {Γ : Sealed} {ρ : Ren} {σ : Store}
theorem eqGuard_ok (hE : E.Ok) {op : BinOp} {t : TypeId} {x y : Operand} {a b : PV} {v u : Value} (h : eqGuardOk E t x y a b = true) (ha : Rep Γ ρ a v) (hb : Rep Γ ρ b u) (w : World) :
    (eqGuard op t x y v u).run E.P w = .ok () w := by
  cases op
  case eql | neq =>
    cases ha <;> cases hb <;> first
      | (simp [eqGuard]; done)
      | (simp [eqGuardOk] at h
         cases x <;> cases y <;> first
           | (simp [isConst] at h; done)
           | (simp [eqGuard]; done))
      | (simp only [eqGuardOk] at h
         simp [eqGuard, (hE.plain t h).2])
  all_goals simp [eqGuard]
def other : Value -> Bool
  | .int .. | .float .. | .complex .. | .string _ => false
  | _ => true
theorem binOp_other (P : Program) (t : TypeId) {v u : Value} (h : other v = true ∨ other u = true) (w : World) :
    (binOp .eql t v u).run P w = ((Op.equal t v u).run P w).andThen (fun b w' => .ok (.bool b) w') /\
    (binOp .neq t v u).run P w = ((Op.equal t v u).run P w).andThen (fun b w' => .ok (.bool !b) w') := by
  cases v <;> cases u <;> first
    | (constructor <;> (simp only [binOp]; simp; done))
    | (simp [other] at h; done)
theorem eqA_other {d : Nat} {t : TypeId} {a b : PV} {r : Bool} (h : eqA E d t a b = some r) {v u : Value} (ha : Rep Γ ρ a v) (hb : Rep Γ ρ b u)
    (hn3 : ∀ (k : IntKind) (x : Int) (k' : IntKind) (y : Int), a = PV.int k x -> b = PV.int k' y -> False) (hn4 : ∀ (x y : List UInt8), a = PV.str x -> b = PV.str y -> False) : other v = true ∨ other u = true := by
  cases d with
  | zero => cases h
  | succ d =>
    unfold eqA at h
    split at h <;> first
      | (cases h; done)
      | (cases ha <;> exact .inl rfl)
      | (exact (hn3 _ _ _ _ rfl rfl).elim)
      | (exact (hn4 _ _ rfl rfl).elim)
set_option maxHeartbeats 1000000 in
theorem binA_ok (hE : E.Ok) {op : BinOp} {t : TypeId} {x y : Operand} {a b p : PV} {v u : Value} (h : binA E op t x y a b = some p) (ha : Rep Γ ρ a v) (hb : Rep Γ ρ b u) :
    ∃ r, Rep Γ ρ p r /\ ∀ w, (do eqGuard op t x y v u; binOp op t v u : Sem Value).run E.P w = .ok r w := by
  unfold binA at h
  split at h
  case h_1 | h_2 =>
    rename_i k a kb b
    cases ha; cases hb
    obtain ⟨r, h1, h2⟩ := shiftOp_ok (Γ := Γ) (ρ := ρ) (kb := kb) h t
    exact ⟨r, h1, fun w => by simp [eqGuard, h2]⟩
  case h_3 =>
    rename_i k a k' b hn1 hn2
    cases ha; cases hb
    split at h
    . rename_i hk
      subst hk
      obtain ⟨r, h1, h2⟩ := intOp_ok (Γ := Γ) (ρ := ρ) h t ⟨fun e => by simp_all, fun e => by simp_all⟩
      exact ⟨r, h1, fun w => by cases op <;> simp [eqGuard, h2]⟩
    . cases h
  case h_4 =>
    cases ha; cases hb
    obtain ⟨r, h1, h2⟩ := strOp_ok (Γ := Γ) (ρ := ρ) h t
    exact ⟨r, h1, fun w => by cases op <;> simp [eqGuard, h2]⟩
  case h_5 =>
    rename_i hn1 hn2
    split at h
    . rename_i hg
      cases he : eqA E 50 t a b with
      | none => simp [he] at h
      | some r =>
        simp [he] at h
        subst h
        refine ⟨.bool r, .bool r, fun w => ?_⟩
        have h1 := eqA_ok hE 50 10000 (by omega) t a b v u r he ha hb w
        have h2 := eqGuard_ok hE (op := .eql) hg ha hb w
        have h3 := (binOp_other E.P t (eqA_other he ha hb hn1 hn2) w).1
        simp [h2, h3, Op.equal, Op.maxDepth, h1]
    . cases h
  case h_6 =>
    rename_i hn1 hn2
    split at h
    . rename_i hg
      cases he : eqA E 50 t a b with
      | none => simp [he] at h
      | some r =>
        simp [he] at h
        subst h
        refine ⟨.bool !r, .bool _, fun w => ?_⟩
        have h1 := eqA_ok hE 50 10000 (by omega) t a b v u r he ha hb w
        have h2 := eqGuard_ok hE (op := .neq) hg ha hb w
        have h3 := (binOp_other E.P t (eqA_other he ha hb hn1 hn2) w).2
        simp [h2, h3, Op.equal, Op.maxDepth, h1]
    . cases h
  case h_7 => cases h
theorem unA_ok {op : UnOp} {a p : PV} {v : Value} (h : unA op a = some p) (ha : Rep Γ ρ a v) : ∃ r, Rep Γ ρ p r /\ ∀ (P : Program) (w : World), (Op.unary op v).run P w = .ok r w := by
  unfold unA at h
  split at h
  . cases ha
    simp only [intOp] at h
    cases h
    exact ⟨_, .int _ _, fun P w => by simp [Op.unary, Op.intArith]⟩
  . cases ha
    simp only [intOp] at h
    cases h
    exact ⟨_, .int _ _, fun P w => by simp [Op.unary, Op.intBits]⟩
  . cases ha
    cases h
    exact ⟨_, .bool _, fun P w => by simp [Op.unary]⟩
  . cases h
theorem addOff_ok {a p : PV} {v : Value} {n : Nat} (h : addOff a n = some p) (ha : Rep Γ ρ a v) : ∃ ad : Addr, v = .pointer (some ad) /\ Rep Γ ρ p (.pointer (some (ad.add n))) := by
  have hadd : ∀ (b o : Nat), (⟨b, o, none⟩ : Addr).add n = ⟨b, o + n, none⟩ := fun b o => by unfold Addr.add; split <;> simp_all
  unfold addOff at h
  split at h
  . cases h
    cases ha with
    | ptr l h1 h2 => exact ⟨_, rfl, by rw [hadd]; exact .ptr l h1 h2⟩
    | ptrOld l h1 h2 a => exact ⟨_, rfl, .ptrOld l h1 h2 _⟩
  . cases h
    cases ha with
    | eptr b o vs h1 h2 => exact ⟨_, rfl, by rw [hadd, Nat.add_assoc]; exact .eptr b o vs h1 h2⟩
  . cases h
    cases ha with
    | glob => exact ⟨_, rfl, by rw [hadd]; exact .glob _ _⟩
  . cases h
theorem run_fieldPlaces (P : Program) (w : World) : ∀ (fs : List Field), fs.all (fun f => (sizeT P f.type).isSome) = true ->
    (fs.mapM (fun f => (sizeOf f.type).bind fun s => Sem.pure (f.offset, s) : Field -> Sem (Nat × Nat))).run P w = .ok (fs.map fun f => (f.offset, P.cellsOf f.type)) w
  | [], _ => by simp
  | f :: fs, h => by
    simp only [List.all_cons, Bool.and_eq_true] at h
    obtain ⟨s, hs⟩ := Option.isSome_iff_exists.1 h.1
    have hc : P.cellsOf f.type = s := by
      obtain ⟨i, hi, e⟩ := sizeT_info hs
      simp [Program.cellsOf, hi, e]
    rw [List.mapM_cons, Sem.run_bind, Sem.run_bind', run_sizeT hs]
    simp only [Result.andThen_ok, Sem.run_pure', Sem.run_bind, run_fieldPlaces P w fs h.2, Sem.run_pure, List.map_cons, hc]
theorem buildA_ok {t : TypeId} {parts : List (Nat × PV)} {vs : List (Nat × Value)} {p : PV} (h : buildA E t parts = some p) (hr : RepParts Γ ρ parts vs) :
    ∃ r, Rep Γ ρ p r /\ ∀ w, (Instr.build t vs.toArray).run E.P w = .ok r w := by
  unfold buildA at h
  split at h
  . rename_i z fs hz hu
    obtain ⟨i, zv, hi, hzv, hrz, h1⟩ := zeroT_rep (Γ := Γ) (ρ := ρ) hz
    split at h
    . rename_i hall
      cases hf : fillL (fieldPlaces E.P fs) z.cells parts with
      | none => simp [hf] at h
      | some cells =>
        simp [hf] at h
        subst h
        have hpl : ∀ i r, fieldPlaces E.P fs i = some r -> (fs.map fun f => (f.offset, E.P.cellsOf f.type))[i]? = some r := fun i r hi => by
          unfold fieldPlaces at hi
          split at hi
          . rename_i f hf
            cases hs : sizeT E.P f.type with
            | none => simp [hs] at hi
            | some s =>
              simp [hs] at hi
              obtain ⟨i, hi', e⟩ := sizeT_info hs
              have hc : E.P.cellsOf f.type = s := by simp [Program.cellsOf, hi', e]
              simp [hf, <- hi, hc]
          . cases hi
        obtain ⟨C', e1, e2, e3, e4⟩ := fill_ok hpl hf hr hrz.cells h1
        refine ⟨.agg C', by simpa using e2.agg, fun w => ?_⟩
        have hm := run_fieldPlaces E.P w fs.toList hall
        have hm2 : (fs.mapM (fun f => do pure (f.offset, <- sizeOf f.type) : Field -> Sem (Nat × Nat))).run E.P w = .ok (fs.map fun f => (f.offset, E.P.cellsOf f.type)) w := by
          show (fs.mapM (fun f => (sizeOf f.type).bind fun s => Sem.pure (f.offset, s) : Field -> Sem (Nat × Nat))).run E.P w = _
          rw [Array.mapM_eq_mapM_toList, Sem.run_map, hm]
          simp only [Result.andThen_ok]
          congr 1
          apply Array.ext'
          simp
        unfold Instr.build
        simp only [zeroValue, typeInfo, Sem.run_bind, run_program, Result.andThen_ok, hi, Sem.run_pure, hzv, run_underlying hu]
        rw [hm2]
        simp only [Result.andThen_ok]
        rw [e1]
        simp
    . cases h
  . rename_i z n e hz hu
    obtain ⟨i, zv, hi, hzv, hrz, h1⟩ := zeroT_rep (Γ := Γ) (ρ := ρ) hz
    split at h
    . rename_i s hs
      cases hf : fillL (fun i => some (i * s, s)) z.cells parts with
      | none => simp [hf] at h
      | some cells =>
        simp [hf] at h
        subst h
        obtain ⟨C', e1, e2, e3, e4⟩ := fill_ok (place' := fun i => some (i * s, s)) (fun i r h => h) hf hr hrz.cells h1
        refine ⟨.agg C', by simpa using e2.agg, fun w => ?_⟩
        simp [Instr.build, zeroValue, typeInfo, hi, hzv, run_underlying hu, run_sizeT hs, e1]
    . cases h
  . cases h
end
end
section
section
variable {E : Env} {fl : Nat} {Γ : Sealed} {ρ : Ren} {σ : Store}
theorem fieldAddrA_ok {t : TypeId} {a p : PV} {f : Nat} {v : Value} (h : fieldAddrA E t a f = some p) (ha : Rep Γ ρ a v) :
    ∃ r, Rep Γ ρ p r /\ ∀ w, (Instr.fieldAt t v f).run E.P w = .ok r w := by
  unfold fieldAddrA at h
  split at h
  . rename_i fs hu
    split at h
    . rename_i fd hf
      split at h
      . rename_i s hs
        split at h
        . cases h
        . rename_i hz
          obtain ⟨ad, rfl, hr⟩ := addOff_ok h ha
          refine ⟨_, hr, fun w => ?_⟩
          simp [Instr.fieldAt, run_underlying hu, hf, Instr.sureAddr, fieldPlace, run_sizeT hs, hz]
      . cases h
    . cases h
  . cases h
theorem partA_ok {t : TypeId} {cs : List PV} {off : Nat} {p : PV} {vs : Array Value} (h : partA E t cs off = some p) (hr : Reps Γ ρ cs vs.toList) :
    ∃ r, Rep Γ ρ p r /\ ∀ w, (part t vs off).run E.P w = .ok r w := by
  unfold partA at h
  split at h
  . rename_i n ha hs
    split at h
    . rename_i hl
      cases h
      exact ⟨_, hr.extract off n hl, fun w => run_part_agg ha hs vs off w⟩
    . cases h
  . rename_i n ha hs
    obtain ⟨v, hv, rv⟩ := hr.at h
    exact ⟨v, rv, fun w => run_part_one ha (by simpa using hv) w⟩
  . cases h
theorem fieldA_ok {t : TypeId} {a p : PV} {f : Nat} {v : Value} (h : fieldA E t a f = some p) (ha : Rep Γ ρ a v) :
    ∃ r, Rep Γ ρ p r /\ ∀ w, (Instr.field t v f).run E.P w = .ok r w := by
  unfold fieldA at h
  split at h
  . rename_i fs cs hu
    split at h
    . rename_i fd hf
      obtain ⟨vs, rfl, hvs⟩ := Reps.of_agg ha
      obtain ⟨r, h1, h2⟩ := partA_ok h hvs
      exact ⟨r, h1, fun w => by simp [Instr.field, run_underlying hu, hf, asAgg, h2]⟩
    . cases h
  . cases h
theorem indexAddrA_ok {t : TypeId} {a i p : PV} {v u : Value} (h : indexAddrA E t a i = some p) (ha : Rep Γ ρ a v) (hi : Rep Γ ρ i u) :
    ∃ r, Rep Γ ρ p r /\ ∀ w, (Instr.indexAt t v u).run E.P w = .ok r w := by
  unfold indexAddrA at h
  split at h
  . rename_i k i n e hu
    cases hi
    split at h
    . rename_i s hs
      split at h
      . rename_i hb
        obtain ⟨ad, rfl, hr⟩ := addOff_ok h ha
        refine ⟨_, hr, fun w => ?_⟩
        simp [Instr.indexAt, asIntOf, run_underlying hu, Instr.sureAddr, hb, run_sizeT hs]
      . cases h
    . cases h
  . rename_i k i e cells es len xc hu
    cases hi
    split at h
    . rename_i s hs
      split at h
      . rename_i hb
        cases h
        cases ha with
        | slNil hx =>
          obtain ⟨hb0, hb1, rfl, hpos⟩ := hb
          exact absurd hb1 (by omega)
        | sl a cap vs hn hc hx h1 hr =>
          obtain ⟨hb0, hb1, rfl, hpos⟩ := hb
          refine ⟨.pointer (some (a.add (i.toNat * es))), ?_, fun w => ?_⟩
          . by_cases he : cells = []
            . subst he
              have h0 : 0 < len * es := Nat.mul_pos (by omega) hpos
              rw [<- hn] at h0
              simp at h0
            . obtain ⟨x0, hx0⟩ : ∃ x, cells[0]? = some x := ⟨cells[0]'(List.length_pos_iff.2 he), List.getElem?_eq_getElem _⟩
              have hsp := (h1 0 x0 hx0).1
              have hadd : a.add (i.toNat * es) = ⟨a.block, a.off + i.toNat * es, none⟩ := by
                unfold Addr.add
                split
                . rename_i hz; cases a; simp_all
                . cases a; rfl
              rw [hadd]
              exact .eptr a.block a.off vs (fun j x hj => ⟨(h1 j x hj).2.1, (h1 j x hj).2.2⟩) hr
          . simp [Instr.indexAt, asIntOf, run_underlying hu, hb0, hb1, run_sizeT hs]
      . cases h
    . cases h
  . rename_i k i e id blen coff es len xc hu
    cases hi
    split at h
    . rename_i s hs
      split at h
      . rename_i hb
        cases h
        obtain ⟨hb0, hb1, rfl⟩ := hb
        cases ha with
        | osl l cap h1 h2 hc hx ho =>
          refine ⟨.pointer (some ((⟨l.block, coff, none⟩ : Addr).add (i.toNat * es))), ?_, fun w => ?_⟩
          . have hadd : (⟨l.block, coff, none⟩ : Addr).add (i.toNat * es) = ⟨l.block, coff + i.toNat * es, none⟩ := by
              unfold Addr.add; split <;> simp_all
            rw [hadd]
            exact .ptr l h1 h2
          . simp [Instr.indexAt, asIntOf, run_underlying hu, hb0, hb1, run_sizeT hs]
        | oslOld l h1 h2 a cap hc' hx' =>
          refine ⟨.pointer (some (a.add (i.toNat * es))), .ptrOld l h1 h2 _, fun w => ?_⟩
          simp [Instr.indexAt, asIntOf, run_underlying hu, hb0, hb1, run_sizeT hs]
      . cases h
    . cases h
  . cases h
theorem indexA_ok {t : TypeId} {a i p : PV} {v u : Value} (h : indexA E t a i = some p) (ha : Rep Γ ρ a v) (hi : Rep Γ ρ i u) :
    ∃ r, Rep Γ ρ p r /\ ∀ w, (Instr.index t v u).run E.P w = .ok r w := by
  unfold indexA at h
  split at h
  . rename_i k i n e cs hu
    cases hi
    obtain ⟨vs, rfl, hvs⟩ := Reps.of_agg ha
    split at h
    . rename_i s hs
      split at h
      . rename_i hb
        obtain ⟨r, h1, h2⟩ := partA_ok h hvs
        exact ⟨r, h1, fun w => by simp [Instr.index, asIntOf, run_underlying hu, hb, run_sizeT hs, h2]⟩
      . cases h
    . cases h
  . rename_i k i s hu
    cases hi; cases ha
    split at h
    . rename_i hb
      cases hc : s[i.toNat]? with
      | none => simp [hc] at h
      | some b =>
        simp [hc] at h
        subst h
        refine ⟨_, .int _ _, fun w => ?_⟩
        have hlt : i.toNat < s.length := (List.getElem?_eq_some_iff.1 hc).1
        have hg : (⟨⟨s⟩⟩ : ByteArray)[i.toNat]? = some b := by
          have hsz : i.toNat < (⟨⟨s⟩⟩ : ByteArray).size := hlt
          rw [getElem?_pos (⟨⟨s⟩⟩ : ByteArray) i.toNat hsz]
          have : s[i.toNat] = b := by simpa [List.getElem?_eq_getElem hlt] using hc
          exact congrArg some this
        simp [Instr.index, asIntOf, run_underlying hu, hb, hg]
    . cases h
  . cases h
set_option maxHeartbeats 1000000 in
theorem pureA_ok (hE : E.Ok) {o : Oper} {a : Act} {ev : Operand -> Option PV} (he : EnvOk Γ ρ ev a) {p : PV} (h : pureA E ev o.op = some p) :
    ∃ r, Rep Γ ρ p r /\ ∀ w, (execOp a.eval o).run E.P w = .ok (.value r) w := by
  unfold pureA at h
  unfold execOp
  split at h
  case h_1 | h_2 => rename_i x ho; exact ⟨_, he x p h, fun w => by simp [ho]⟩
  case h_3 =>
    rename_i c x y ho
    split at h
    . rename_i hc
      have hcv := he c _ hc
      generalize hg : a.eval c = vc at hcv
      cases hcv
      exact ⟨_, he x p h, fun w => by simp [ho, hg, asBool]⟩
    . rename_i hc
      have hcv := he c _ hc
      generalize hg : a.eval c = vc at hcv
      cases hcv
      exact ⟨_, he y p h, fun w => by simp [ho, hg, asBool]⟩
    . cases h
  case h_4 =>
    rename_i t parts ho
    split at h
    . rename_i ps hps
      obtain ⟨r, h1, h2⟩ := buildA_ok h (evalParts_ok he hps)
      refine ⟨r, h1, fun w => ?_⟩
      have e : (parts.map fun (i, x) => (i, a.eval x)) = (parts.toList.map fun (i, x) => (i, a.eval x)).toArray := by apply Array.ext'; simp
      simp only [ho]
      rw [e]
      simp [h2]
    . cases h
  case h_5 =>
    rename_i x ho
    split at h
    . rename_i hx
      have hv := he x _ hx
      generalize hg : a.eval x = vx at hv
      cases h
      refine ⟨vx, hv, fun w => ?_⟩
      cases hv <;> simp [ho, hg]
    . rename_i hx
      have hv := he x _ hx
      generalize hg : a.eval x = vx at hv
      cases h
      refine ⟨vx, hv, fun w => ?_⟩
      cases hv <;> simp [ho, hg]
    . rename_i hx
      have hv := he x _ hx
      generalize hg : a.eval x = vx at hv
      cases h
      refine ⟨vx, hv, fun w => ?_⟩
      cases hv <;> simp [ho, hg]
    . rename_i hx
      have hv := he x _ hx
      generalize hg : a.eval x = vx at hv
      cases h
      refine ⟨vx, hv, fun w => ?_⟩
      cases hv <;> simp [ho, hg]
    . rename_i hx
      have hv := he x _ hx
      generalize hg : a.eval x = vx at hv
      cases h
      refine ⟨vx, hv, fun w => ?_⟩
      cases hv <;> simp [ho, hg]
    . cases h
  case h_6 =>
    rename_i op t x y ty ho
    split at h
    . rename_i pa pb ha hb
      obtain ⟨r, h1, h2⟩ := binA_ok hE h (he x _ ha) (he y _ hb)
      refine ⟨r, h1, fun w => ?_⟩
      have h3 := h2 w
      simp only [ho]
      rw [Sem.run_bind, h3]
      simp
    . cases h
  case h_7 =>
    rename_i op t x ho
    split at h
    . rename_i pa ha
      obtain ⟨r, h1, h2⟩ := unA_ok h (he x _ ha)
      exact ⟨r, h1, fun w => by simp [ho, h2]⟩
    . cases h
  case h_8 =>
    rename_i t x ho
    split at h
    . cases h
    . rename_i pa d hni ha hu
      cases h
      refine ⟨.iface t (a.eval x), .iface t (he x _ ha), fun w => ?_⟩
      simp only [ho, Instr.makeInterface, Sem.run_bind, run_underlying hu, Result.andThen_ok]
      cases d <;> simp_all
    . cases h
  case h_9 =>
    rename_i f first captured ho
    split at h
    . rename_i xs ys hx hy
      cases h
      have h1 := evalAll_ok he hx
      have h2 := evalAll_ok he hy
      refine ⟨.func f (first.map a.eval) (captured.map a.eval), .fn f (by simpa using h1.1) (by simpa using h2.1) (fun j x v hx hv => h1.2 j x v hx (by simpa using hv)) (fun j x v hx hv => h2.2 j x v hx (by simpa using hv)), fun w => ?_⟩
      simp [ho, Instr.makeFunc]
    . cases h
  case h_10 =>
    rename_i t x f ho
    split at h
    . rename_i pa ha
      obtain ⟨r, h1, h2⟩ := fieldAddrA_ok h (he x _ ha)
      exact ⟨r, h1, fun w => by simp [ho, h2]⟩
    . cases h
  case h_11 =>
    rename_i t x f ho
    split at h
    . rename_i pa ha
      obtain ⟨r, h1, h2⟩ := fieldA_ok h (he x _ ha)
      exact ⟨r, h1, fun w => by simp [ho, h2]⟩
    . cases h
  case h_12 =>
    rename_i t x i ho
    split at h
    . rename_i pa pb ha hb
      obtain ⟨r, h1, h2⟩ := indexAddrA_ok h (he x _ ha) (he i _ hb)
      exact ⟨r, h1, fun w => by simp [ho, h2]⟩
    . cases h
  case h_13 =>
    rename_i t x i ho
    split at h
    . rename_i pa pb ha hb
      obtain ⟨r, h1, h2⟩ := indexA_ok h (he x _ ha) (he i _ hb)
      exact ⟨r, h1, fun w => by simp [ho, h2]⟩
    . cases h
  case h_14 =>
    rename_i x i ho
    split at h
    . rename_i vs hx
      have hv := he x _ hx
      generalize hg : a.eval x = vx at hv
      cases hv with
      | tup hn hr =>
        rename_i us
        have hlt : i < us.size := by have := (List.getElem?_eq_some_iff.1 h).1; omega
        exact ⟨us[i], hr i p us[i] h (by simp [hlt]), fun w => by simp [ho, hg, Instr.extract, hlt]⟩
    . cases h
  case h_15 =>
    rename_i s d x ho
    split at h
    . rename_i v hx
      have hv := he x _ hx
      unfold convN at h
      split at h
      . rename_i k0 k j n hs hd
        cases h
        generalize hg : a.eval x = vx at hv
        cases hv with
        | int _ _ => exact ⟨_, .int k (k.wrap n), fun w => by simp [ho, hg, convert, run_underlying hs, run_underlying hd, Conv.intToInt]⟩
      . cases h
    . cases h
  case h_16 => cases h
end
end
end Go.Proofs.YtaofbpldflcjmaaDoor.Am
