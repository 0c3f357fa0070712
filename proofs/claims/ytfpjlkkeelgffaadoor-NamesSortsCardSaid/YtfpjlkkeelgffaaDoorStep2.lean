/- One operation, whichever it is: the machine does what the interpreter does. -/
import Derived.Test.YtfpjlkkeelgffaaDoorOld
import Derived.Test.YtfpjlkkeelgffaaDoorFoot
set_option linter.unusedVariables false
set_option linter.unusedSimpArgs false
namespace Go.Proofs.YtfpjlkkeelgffaaDoor.Am
section
variable {E : Env} {fl : Nat} {Γ : Sealed} {ρ : Ren} {σ : Store} {w : World}

theorem extA_ok (hE : E.Ok) (h : Rel E fl Γ ρ σ w) {f : FuncId} {x : Ext} (hf : E.ext f = some x) {args : List PV} {vs : List Value} {p : PV} (he : extA σ x args = some p) (hr : Reps Γ ρ args vs) :
    ∃ r, (callFunc f vs.toArray).run E.P w = .ok (.value r) w ∧ Rep Γ ρ p r := by
  unfold extA at he
  split at he
  · rename_i a b
    obtain ⟨fn, f1, f2, f3, f4, f5⟩ := hE.ext f hf
    obtain ⟨v, ws, rfl, hx, hws⟩ := hr.inv_cons
    obtain ⟨u, us, rfl, hy, hus⟩ := hws.inv_cons
    rw [hus.inv_nil]
    split at he
    · rename_i xs ys n m hxs hys hn hm
      split at he
      · rename_i hlen
        split at he
        · rename_i bs cs hb hc
          cases he
          refine ⟨.int .i64 (cmpBytes bs cs), ?_, .int _ _⟩
          rw [run_callFunc_extern f1 f2 f3 f4 f5]
          have h1 := bytesOf_run h hxs hb (by rw [hn, hlen.1]) hx
          have h2 := bytesOf_run h hys hc (by rw [hm, hlen.2]) hy
          have e : Extern.BytealgCompare.compare [v, u].toArray = Extern.Bytes.bytesOf v >>= fun x => Extern.Bytes.bytesOf u >>= fun y => pure (Go.goInt (Extern.BytealgCompare.cmp x y)) := rfl
          rw [e]
          simp only [Sem.run_bind, h1, h2, Result.andThen_ok, Sem.run_pure]
          rw [Lib.cmp_eq, cmpBytes_eq]
          rfl
        · cases he
      · cases he
    · cases he
  · cases he

theorem run_callFunc_enter {P : Program} {f : FuncId} {fn : Func} (hf : P.funcs[f]? = some fn) (hn : (fn.name == "runtime.NumGoroutine" || fn.body.isNone) = false) (args : Array Value) (w : World) :
    (callFunc f args).run P w = .ok (.enter f args) w := by
  simp only [Bool.or_eq_false_iff] at hn
  have h1 : ¬ fn.name = "runtime.NumGoroutine" := by simpa using hn.1
  have h2 : ¬ fn.body = none := fun e => by rw [e] at hn; simp at hn
  simp [callFunc, hf, h1, h2]

theorem Rep.weakC {x : PV} {v : Value} (h : Rep Γ ρ x v) : Rep Γ ρ (weakC x) v := by
  unfold Am.weakC
  split
  · cases h with
    | sl a cap vs hn hc hx h hr => exact .sl a cap vs hn hc (fun c hc => by cases hc) h hr
    | slNil hx => exact .slNil fun c hc => by cases hc
  · exact h

theorem Rep.weakV {x : PV} {v : Value} (h : Rep Γ ρ x v) : Rep Γ ρ (weakV x) v := by
  unfold Am.weakV
  split
  · cases h with
    | agg hn hr =>
      refine .agg (by simpa using hn) fun j y u hy hu => ?_
      simp only [List.getElem?_map, Option.map_eq_some_iff] at hy
      obtain ⟨x, hx, rfl⟩ := hy
      exact (hr j x u hx hu).weakC
  · exact h.weakC

theorem Reps.viewArgs : ∀ (ts : List TypeId) {xs : List PV} {vs : List Value}, Reps Γ ρ xs vs → Reps Γ ρ (viewArgs E ts xs) vs
  | t :: ts, x :: xs, vs, h => by
    obtain ⟨v, ws, rfl, h1, h2⟩ := h.inv_cons
    exact .cons (h1.viewV _).weakV (Reps.viewArgs ts h2)
  | [], xs, vs, h => by cases xs <;> exact h
  | t :: ts, [], vs, h => h

theorem Reps.weak {xs : List PV} {vs : List Value} (h : Reps Γ ρ xs vs) : Reps Γ ρ (xs.map weakV) vs := by
  refine ⟨by simpa using h.1, fun j y u hy hu => ?_⟩
  simp only [List.getElem?_map, Option.map_eq_some_iff] at hy
  obtain ⟨x, hx, rfl⟩ := hy
  exact (h.2 j x u hx hu).weakV

theorem Rep.norm {x : PV} {v : Value} (f : FuncId) (h : Rep Γ ρ x v) : Rep Γ ρ (normRes E f x) v := by
  unfold normRes
  cases hfn : E.P.funcs[f]? with
  | none => exact h
  | some fn =>
    simp only
    split
    · rename_i vs
      cases h with
      | @tup xs us hn hh =>
        have h1 : Reps Γ ρ vs us.toList := ⟨by simpa using hn, fun j x v hx hv => hh j x v hx (by simpa using hv)⟩
        have h2 := (h1.viewArgs (E := E) fn.resultTypes.toList).weak
        exact .tup (by simpa using h2.1) (fun j x v hx hv => h2.2 j x v hx (by simpa using hv))
    · split
      · exact (h.viewV _).weakV
      · exact h

theorem sealRes_ok (h : Rel E fl Γ ρ σ w) {x y : PV} {v : Value} {σ' : Store} (hs : sealRes σ x = some (y, σ')) (hr : Rep Γ ρ x v) : ∃ Γ', Rep Γ' ρ y v ∧ Rel E fl Γ' ρ σ' w ∧ Post fl Γ ρ σ w Γ' ρ σ' w := by
  unfold sealRes at hs
  split at hs
  · rename_i vs
    cases ha : sealArgs σ vs with
    | none => simp [ha] at hs
    | some q =>
      obtain ⟨as, σ1⟩ := q
      simp [ha] at hs
      obtain ⟨rfl, rfl⟩ := hs
      cases hr with
      | @tup xs us hn hh =>
        obtain ⟨Γ1, k1, k2, k3⟩ := sealArgs_ok h ha (vs := us.toList) ⟨by simpa using hn, fun j x v hx hv => hh j x v hx (by simpa using hv)⟩
        exact ⟨Γ1, .tup (by simpa using k1.1) (fun j x v hx hv => k1.2 j x v hx (by simpa using hv)), k2, k3⟩
  · exact sealV_ok h hs hr

theorem apartA_ok (hE : E.Ok) {rec : Rec} (hrec : SoundRec E rec) {f : FuncId} {args : List PV} {r : PV} (h : apartA E rec f args = some r) :
    ∃ σ2, oldV 0 r = true ∧ ∀ (Γ : Sealed) (w : World) (vs : List Value), Rel E 0 Γ (fun _ => none) [] w → Reps Γ (fun _ => none) args vs →
      Calls E.P f vs.toArray w fun e w' => ∃ v, e = .returned v ∧ Moves E 0 Γ (fun _ => none) [] w r σ2 v w' := by
  unfold apartA at h
  split at h
  · rename_i q hq
    cases h
    obtain ⟨h1, h2⟩ := hE.pure f args r hq
    exact ⟨[], h1, h2⟩
  split at h
  · rename_i v σ1 hv
    split at h
    · rename_i r' σ2 hs
      split at h
      · rename_i ho
        cases h
        refine ⟨σ2, ho, fun Γ w vs hR hr => (hrec f args [] 0 v σ1 hv (Nat.le_refl _) Γ (fun _ => none) w vs hR hr).mono fun e w' he => ?_⟩
        obtain ⟨u, e1, Γ1, ρ1, m1, m2, m3⟩ := he
        obtain ⟨Γ2, k1, k2, k3⟩ := sealRes_ok m2 hs m1
        exact ⟨u, e1, Γ2, ρ1, k1.norm f, k2, m3.trans k3⟩
      · cases h
    · cases h
  · cases h

/-- A call apart that answers with what says nothing of any memory leaves all as it was. -/
theorem peek_ok (h : Rel E fl Γ ρ σ w) {Γ1 : Sealed} {p : PV} {σ2 : Store} {r : Value} {w1 : World} (hm : Moves E 0 Γ1 (fun _ => none) [] w p σ2 r w1) (hs : scalV p = true) : Moves E fl Γ ρ σ w p σ r w1 := by
  obtain ⟨Γ2, ρ2, hr, _, hp⟩ := hm
  have hheap : ∀ b, b < w.heap.size → w1.heap[b]? = w.heap[b]? := fun b hb => hp.frame b hb fun id l hl => by cases hl
  refine ⟨Γ, ρ, ?_, h.world hheap, { Post.refl fl Γ ρ σ w with frame := fun b hb _ => hheap b hb, size := hp.size, os := hp.os, tape := hp.tape, output := hp.output }⟩
  cases hr <;> first | (cases hs; done) | constructor

theorem callA_ok (hE : E.Ok) {rec : Rec} (hrec : SoundRec E rec) (h : Rel E fl Γ ρ σ w) (hfl : fl ≤ σ.length) {o : Oper} {a : Act} {f : FuncId} {args : List PV} {vs : List Value} {p : PV} {σ' : Store}
    (hc : callA E rec fl σ f args = some (p, σ')) (hr : Reps Γ ρ args vs) (ho : ∀ w, (execOp a.eval o).run E.P w = (callFunc f vs.toArray).run E.P w) :
    StepOk E.P o a w (Moves E fl Γ ρ σ w p σ') := by
  unfold callA at hc
  split at hc
  · rename_i x hx
    cases he : extA σ x args with
    | none => simp [he] at hc
    | some q =>
      simp [he] at hc
      obtain ⟨rfl, rfl⟩ := hc
      obtain ⟨r, h1, h2⟩ := extA_ok hE h hx he hr
      exact StepOk.value ((ho w).trans h1) (Moves.stay h h2)
  · split at hc
    · rename_i fn hfn
      split at hc
      · cases hc
      · rename_i hn
        have hn' : (fn.name == "runtime.NumGoroutine" || fn.body.isNone) = false := by rw [← Bool.not_eq_true]; exact hn
        have hent := run_callFunc_enter hfn hn' vs.toArray w
        split at hc
        · split at hc
          · rename_i as σ1 has
            split at hc
            · rename_i hold
              cases hq : apartA E rec f (viewArgs E fn.params.toList as) with
              | none => simp [hq] at hc
              | some q =>
                simp [hq] at hc
                obtain ⟨rfl, rfl⟩ := hc
                obtain ⟨Γ1, k1, k2, k3⟩ := sealPA_ok h has hr
                obtain ⟨σ2, q1, q2⟩ := apartA_ok hE hrec hq
                refine StepOk.enter ((ho w).trans hent) ((q2 Γ1 w vs (k2.bare hE) ((k1.viewArgs _).old (n := 0) (fun id hid => absurd hid (Nat.not_lt_zero id)) hold)).mono fun e w' he => ?_)
                obtain ⟨r, e1, hm⟩ := he
                cases hpk : E.seals f && scalV q with
                | false =>
                  have e2 : pickS (E.seals f) q σ σ1 = σ1 := by unfold pickS; rw [hpk]; rfl
                  rw [e2]
                  obtain ⟨Γ', ρ', m1, m2, m3⟩ := bare_ok k2 hm q1
                  exact ⟨r, e1, Γ', ρ', m1, m2, k3.trans m3⟩
                | true =>
                  have e2 : pickS (E.seals f) q σ σ1 = σ := by unfold pickS; rw [hpk]; rfl
                  rw [e2]
                  exact ⟨r, e1, peek_ok h hm (by simp only [Bool.and_eq_true] at hpk; exact hpk.2)⟩
            · cases hc
          · cases hc
        · split at hc
          · exact StepOk.enter ((ho w).trans hent) (foot_ok hE hrec h hfl hc hr)
          · split at hc
            · split at hc
              · rename_i as σ1 has
                obtain ⟨Γ1, k1, k2, k3⟩ := sealArgs_ok h has hr
                split at hc
                · rename_i q hq
                  cases hc
                  unfold cloneA at hq
                  split at hq
                  · rename_i es cells es' n xc hes
                    split at hq
                    · rename_i hcc
                      obtain ⟨rfl, c2, c3⟩ := hcc
                      obtain ⟨v, ws, rfl, hv, hws⟩ := k1.inv_cons
                      rw [hws.inv_nil] at hent ho
                      refine StepOk.enter ((ho w).trans hent) ((hE.clone f es hes cells n xc fl Γ1 ρ σ1 w v k2 (Nat.le_trans hfl k3.len) hv c2 c3).mono fun e w' he => ?_)
                      obtain ⟨r, e1, Γ', ρ', m1, m2, m3⟩ := he
                      have e2 : cloneR cells es n σ1 = (p, σ') := Option.some.inj hq
                      rw [e2] at m1 m2 m3
                      exact ⟨r, e1, Γ', ρ', m1, m2, k3.trans m3⟩
                    · cases hq
                  · cases hq
                refine StepOk.enter ((ho w).trans hent) ((hrec f as σ1 fl p σ' hc (Nat.le_trans hfl k3.len) Γ1 ρ w vs k2 k1).mono fun e w' he => ?_)
                obtain ⟨r, e1, Γ', ρ', m1, m2, m3⟩ := he
                exact ⟨r, e1, Γ', ρ', m1, m2, k3.trans m3⟩
              · cases hc
            · exact StepOk.enter ((ho w).trans hent) (hrec f args σ fl p σ' hc hfl Γ ρ w vs h hr)
    · cases hc

theorem evalOpt_ok {ev : Operand → Option PV} {a : Act} (he : EnvOk Γ ρ ev a) {x : Option Operand} {p : Option PV} (h : evalOpt ev x = some p) : RepOpt Γ ρ p (x.map a.eval) := by
  cases x with
  | none => cases h; trivial
  | some x =>
    simp only [evalOpt, Option.map_eq_some_iff] at h
    obtain ⟨q, hq, rfl⟩ := h
    exact he x q hq

set_option maxHeartbeats 1000000 in
theorem memA_ok (hE : E.Ok) {rec : Rec} (hrec : SoundRec E rec) (h : Rel E fl Γ ρ σ w) (hfl : fl ≤ σ.length) {o : Oper} {a : Act} {ev : Operand → Option PV} (he : EnvOk Γ ρ ev a) {p : PV} {σ' : Store}
    (hm : memA E rec fl ev σ o.op = some (p, σ')) : StepOk E.P o a w (Moves E fl Γ ρ σ w p σ') := by
  unfold memA at hm
  split at hm
  case h_1 =>
    rename_i t ho
    split at hm
    · rename_i z hz
      cases hm
      obtain ⟨i, zv, hi, hzv, hrz, h1⟩ := zeroT_rep (Γ := Γ) (ρ := ρ) hz
      have := newObj_ok h hfl hrz.cells h1 t
      refine StepOk.value (r := .pointer (some ⟨w.heap.size, 0, none⟩)) (w' := w.alloc (.cells zv.cells t)) ?_ this
      simp [execOp, ho, Instr.alloc, zeroValue, typeInfo, hi, hzv, newVar, newRow]
    · cases hm
  case h_2 =>
    rename_i t x ho
    split at hm
    · rename_i v hv
      split at hm
      · rename_i h1
        cases hm
        have hr := he x v hv
        have := newObj_ok h hfl hr.cells h1 t
        refine StepOk.value (r := .pointer (some ⟨w.heap.size, 0, none⟩)) (w' := w.alloc (.cells (a.eval x).cells t)) ?_ this
        simp [execOp, ho, Instr.box, newVar, newRow]
      · cases hm
    · cases hm
  case h_3 =>
    rename_i t n parts ho
    split at hm
    · rename_i ps hps
      obtain ⟨r, w', h1, h2⟩ := buildSliceA_ok h hm (evalParts_ok he hps)
      refine StepOk.value ?_ h2
      have e : (parts.map fun (i, x) => (i, a.eval x)) = (parts.toList.map fun (i, x) => (i, a.eval x)).toArray := by apply Array.ext'; simp
      simp only [execOp, ho]
      rw [e]
      simp [h1]
    · cases hm
  case h_4 =>
    rename_i t x ho
    split at hm
    · rename_i ad hx
      cases hl : loadAt E σ t ad with
      | none => simp [hl] at hm
      | some q =>
        simp [hl] at hm
        obtain ⟨rfl, rfl⟩ := hm
        obtain ⟨r, h1, ⟨ad', e1, e2⟩, _⟩ := loadAt_ok h hl (he x _ hx)
        refine StepOk.value (r := r) (w' := w) ?_ (Moves.stay h h1)
        simp [execOp, ho, e1, run_loadAt e2]
    · cases hm
  case h_5 =>
    rename_i t x y ho
    split at hm
    · rename_i ad v hx hy
      cases hs : storeAt E fl σ t ad v with
      | none => simp [hs] at hm
      | some σ1 =>
        simp [hs] at hm
        obtain ⟨rfl, rfl⟩ := hm
        obtain ⟨w', ρ', h1, h2, h3⟩ := storeAt_ok h hs (he x _ hx) (he y _ hy)
        refine StepOk.skip (w' := w') ?_ ⟨Γ, ρ', .tup (vs := #[]) rfl (fun j x v hx => by simp at hx), h2, h3⟩
        simp [execOp, ho, h1]
    · cases hm
  case h_6 =>
    rename_i s d x ho
    split at hm
    · rename_i v hx
      cases hc : convA E σ s d v with
      | none => simp [hc] at hm
      | some q =>
        simp [hc] at hm
        obtain ⟨rfl, rfl⟩ := hm
        obtain ⟨r, w', h1, h2⟩ := convA_ok h hc (he x _ hx)
        exact StepOk.value (by simp [execOp, ho, h1]) h2
    · cases hm
  case h_7 =>
    rename_i t x lo hi mx ho
    split at hm
    · rename_i v lo' hi' mx' hx hlo hhi hmx
      cases hc : sliceA E σ t v lo' hi' mx' with
      | none => simp [hc] at hm
      | some q =>
        simp [hc] at hm
        obtain ⟨rfl, rfl⟩ := hm
        obtain ⟨r, h1, h2⟩ := sliceA_ok h hc (he x _ hx) (evalOpt_ok he hlo) (evalOpt_ok he hhi) (evalOpt_ok he hmx)
        exact StepOk.value (w' := w) (by simp [execOp, ho, h2]) (Moves.stay h h1)
    · cases hm
  case h_8 =>
    rename_i t l c ho
    split at hm
    · rename_i l' c' hl hc
      obtain ⟨r, w', h1, h2⟩ := makeSliceA_ok h hfl hm (he l _ hl) (he c _ hc)
      exact StepOk.value (by simp [execOp, ho, h1]) h2
    · cases hm
  case h_9 =>
    rename_i c ho
    split at hm
    · rename_i args hargs
      have hr := evalAll_ok he hargs
      split at hm
      · rename_i b hcal
        obtain ⟨r, w', h1, h2⟩ := builtinA_ok (type := o.type) (consts := c.args.map fun | .const _ => true | _ => false) hE h hfl hm hr
        refine StepOk.value ?_ h2
        have e : c.args.map a.eval = (c.args.toList.map a.eval).toArray := by apply Array.ext'; simp
        simp only [execOp, ho, resolve, hcal, Sem.run_bind, Sem.run_pure, Result.andThen_ok, invoke]
        rw [e]
        exact h1
      · rename_i f hcal
        split at hm
        · rename_i g first captured hf
          have hfv := he f _ hf
          generalize hg : a.eval f = vf at hfv
          cases hfv with
          | fn fnn hn hmm hr1 hr2 =>
            rename_i vfirst vcap
            have r1 : Reps Γ ρ first vfirst.toList := ⟨by simpa using hn, fun j x v hx hv => hr1 j x v hx (by simpa using hv)⟩
            have r2 : Reps Γ ρ captured vcap.toList := ⟨by simpa using hmm, fun j x v hx hv => hr2 j x v hx (by simpa using hv)⟩
            refine callA_ok hE hrec h hfl hm ((r1.append hr).append r2) fun w => ?_
            have e : vfirst ++ c.args.map a.eval ++ vcap = (vfirst.toList ++ c.args.toList.map a.eval ++ vcap.toList).toArray := by apply Array.ext'; simp
            simp only [execOp, ho, resolve, hcal, hg, Deferred.ofValue, Sem.run_bind, Sem.run_pure, Result.andThen_ok, invoke]
            rw [e]
        · cases hm
      · cases hm
    · cases hm
  case h_10 =>
    rename_i t r ho
    split at hm
    · rename_i kt hk hr
      cases hm
      have := evalOpt_ok he hr
      obtain ⟨u, w', h1, h2⟩ := makeMapA_ok h hfl hk this (.inl rfl)
      exact StepOk.value (by simp [execOp, ho, h1]) h2
    · rename_i kt k n hk hr
      cases hm
      have := evalOpt_ok he hr
      obtain ⟨u, w', h1, h2⟩ := makeMapA_ok h hfl hk this (.inr ⟨_, _, rfl⟩)
      exact StepOk.value (by simp [execOp, ho, h1]) h2
    · cases hm
  case h_11 =>
    rename_i t x k ok ho
    split at hm
    · rename_i xv kv hx hk
      cases hl : lookA E σ t xv kv ok with
      | none => simp [hl] at hm
      | some q =>
        simp [hl] at hm
        obtain ⟨rfl, rfl⟩ := hm
        obtain ⟨r, h1, h2⟩ := lookA_ok hE h hl (he x _ hx) (he k _ hk)
        exact StepOk.value (w' := w) (by simp [execOp, ho, h1]) (Moves.stay h h2)
    · cases hm
  case h_12 =>
    rename_i t x k v ho
    split at hm
    · rename_i xv kv vv hx hk hv
      cases hu : updateA E fl σ t xv kv vv with
      | none => simp [hu] at hm
      | some q =>
        simp [hu] at hm
        obtain ⟨rfl, rfl⟩ := hm
        obtain ⟨w', h1, h2, h3⟩ := updateA_ok hE h hu (he x _ hx) (he k _ hk) (he v _ hv)
        refine StepOk.skip (w' := w') ?_ ⟨Γ, ρ, rep_none, h2, h3⟩
        simp [execOp, ho, h1]
    · cases hm
  case h_13 =>
    rename_i t x k v ho
    split at hm
    · rename_i xv kv vv hx hk hv
      cases hu : updateA E fl σ t xv kv vv with
      | none => simp [hu] at hm
      | some q =>
        simp [hu] at hm
        obtain ⟨rfl, rfl⟩ := hm
        obtain ⟨w', h1, h2, h3⟩ := updateA_ok hE h hu (he x _ hx) (he k _ hk) (he v _ hv)
        refine StepOk.skip (w' := w') ?_ ⟨Γ, ρ, rep_none, h2, h3⟩
        simp [execOp, ho, h1]
    · cases hm
  case h_14 =>
    rename_i t x k ho
    split at hm
    · rename_i xv kv hx hk
      obtain ⟨r, w', h1, h2⟩ := entryA_ok hE h hm (he x _ hx) (he k _ hk)
      exact StepOk.value (by simp [execOp, ho, h1]) h2
    · cases hm
  case h_15 =>
    rename_i t x b v ho
    split at hm
    · rename_i xv bv vv hx hb hv
      cases hu : entryStoreA fl σ xv bv vv with
      | none => simp [hu] at hm
      | some q =>
        simp [hu] at hm
        obtain ⟨rfl, rfl⟩ := hm
        obtain ⟨w', h1, h2, h3⟩ := entryStoreA_ok (E := E) (t := t) h hu (he x _ hx) (he b _ hb) (he v _ hv)
        refine StepOk.skip (w' := w') ?_ ⟨Γ, ρ, rep_none, h2, h3⟩
        simp [execOp, ho, h1]
    · cases hm
  case h_16 =>
    rename_i t x ho
    split at hm
    · rename_i xv hx
      obtain ⟨r, w', h1, h2⟩ := rangeA_ok h hfl hm (he x _ hx)
      exact StepOk.value (by simp [execOp, ho, h1]) h2
    · cases hm
  case h_17 =>
    rename_i x ho
    split at hm
    · rename_i xv hx
      obtain ⟨r, w', h1, h2⟩ := nextA_ok (ty := o.type) h hm (he x _ hx)
      exact StepOk.value (by simp [execOp, ho, h1]) h2
    · cases hm
  case h_18 =>
    rename_i x ho
    split at hm
    · rename_i xv hx
      cases hl : entryIterA σ xv with
      | none => simp [hl] at hm
      | some q =>
        simp [hl] at hm
        obtain ⟨rfl, rfl⟩ := hm
        obtain ⟨r, h1, h2⟩ := entryIterA_ok h hl (he x _ hx)
        exact StepOk.value (w' := w) (by simp [execOp, ho, h1]) (Moves.stay h h2)
    · cases hm
  case h_19 => cases hm

theorem stepA_ok (hE : E.Ok) {rec : Rec} (hrec : SoundRec E rec) (h : Rel E fl Γ ρ σ w) (hfl : fl ≤ σ.length) {o : Oper} {a : Act} {ev : Operand → Option PV} (he : EnvOk Γ ρ ev a) {p : PV} {σ' : Store}
    (hm : stepA E rec fl ev σ o.op = some (p, σ')) : StepOk E.P o a w (Moves E fl Γ ρ σ w p σ') := by
  unfold stepA at hm
  split at hm
  · cases hp : pureA E ev o.op with
    | none => simp [hp] at hm
    | some q =>
      simp [hp] at hm
      obtain ⟨rfl, rfl⟩ := hm
      obtain ⟨r, h1, h2⟩ := pureA_ok hE he hp
      exact StepOk.value (h2 w) (Moves.stay h h1)
  · exact memA_ok hE hrec h hfl he hm

end
end Go.Proofs.YtfpjlkkeelgffaaDoor.Am
