/- One operation: the machine does what the interpreter does. -/
import Derived.Test.YtaofbpldflcjmaaDoorMMMp
import Derived.Test.YtaofbpldflcjmaaDoorMMAm
set_option linter.unusedVariables false
set_option linter.unusedSimpArgs false
namespace Go.Proofs.YtaofbpldflcjmaaDoor.Am
section
section
variable {E : Env} {fl : Nat} {Γ : Sealed} {ρ : Ren} {σ : Store} {w : World}
def StepOk (P : Program) (o : Oper) (a : Act) (w : World) (K : Value -> World -> Prop) : Prop :=
  ∀ (next : Act -> World -> Prop) (Q : Exit -> Act -> World -> Prop), (∀ r w', K r w' -> next (a.put o.dst r) w') -> o.wp P a w next Q
theorem StepOk.value {P : Program} {o : Oper} {a : Act} {K : Value -> World -> Prop} {r : Value} {w' : World} (h : (execOp a.eval o).run P w = .ok (.value r) w') (hk : K r w') : StepOk P o a w K := by
  intro next Q hn
  unfold Oper.wp
  rw [h]
  exact hn r w' hk
theorem StepOk.skip {P : Program} {o : Oper} {a : Act} {K : Value -> World -> Prop} {w' : World} (h : (execOp a.eval o).run P w = .ok .skip w') (hk : K undef w') : StepOk P o a w K := by
  intro next Q hn
  unfold Oper.wp
  rw [h]
  exact hn undef w' hk
theorem StepOk.enter {P : Program} {o : Oper} {a : Act} {K : Value -> World -> Prop} {f : FuncId} {args : Array Value} (h : (execOp a.eval o).run P w = .ok (.enter f args) w)
    (hc : Calls P f args w fun e w' => ∃ r, e = .returned r /\ K r w') : StepOk P o a w K := by
  intro next Q hn
  unfold Oper.wp
  rw [h]
  refine Calls.mono hc fun e w' he => ?_
  obtain ⟨r, rfl, hk⟩ := he
  exact hn r w' hk
theorem StepOk.mono {P : Program} {o : Oper} {a : Act} {K K' : Value -> World -> Prop} (h : StepOk P o a w K) (hk : ∀ r w', K r w' -> K' r w') : StepOk P o a w K' :=
  fun next Q hn => h next Q fun r w' k => hn r w' (hk r w' k)
def SoundRec (E : Env) (rec : Rec) : Prop :=
  ∀ (f : FuncId) (args : List PV) (σ : Store) (fl : Nat) (p : PV) (σ' : Store), rec f args σ fl = some (p, σ') -> fl <= σ.length ->
    ∀ (Γ : Sealed) (ρ : Ren) (w : World) (vs : List Value), Rel E fl Γ ρ σ w -> Reps Γ ρ args vs -> Calls E.P f vs.toArray w fun e w' => ∃ r, e = .returned r /\ Moves E fl Γ ρ σ w p σ' r w'
set_option maxHeartbeats 1000000 in
theorem builtinA_ok (hE : E.Ok) (h : Rel E fl Γ ρ σ w) (hfl : fl <= σ.length) {b : Builtin} {argTypes : Array TypeId} {type : TypeId} {consts : Array Bool} {args : List PV} {vs : List Value} {p : PV} {σ' : Store}
    (hb : builtinA E fl σ b argTypes args = some (p, σ')) (hr : Reps Γ ρ args vs) : ∃ r w', (builtin b argTypes type consts vs.toArray).run E.P w = .ok (.value r) w' /\ Moves E fl Γ ρ σ w p σ' r w' := by
  unfold builtinA at hb
  split at hb
  case h_1 =>
    rename_i x
    obtain ⟨v, ws, rfl, hx, hws⟩ := hr.inv_cons
    rw [hws.inv_nil]
    split at hb
    . rename_i t ht
      split at hb
      . rename_i s hu
        cases hb; cases hx
        have hsz : (⟨⟨s⟩⟩ : ByteArray).size = s.length := rfl
        exact ⟨_, w, by simp [builtin, Builtin.len_, ht, run_underlying hu, hsz]; rfl, Moves.stay h (.int _ _)⟩
      . rename_i n e hu
        cases hb
        refine ⟨Go.goInt n, w, ?_, Moves.stay h (.int _ _)⟩
        cases v <;> simp [builtin, Builtin.len_, ht, run_underlying hu]
      . rename_i e hu
        have : ∃ n a cap, p = goInt n /\ σ' = σ /\ v = .slice a n cap := by
          split at hb
          . cases hx; cases hb; exact ⟨0, none, 0, rfl, rfl, rfl⟩
          . cases hb
            cases hx with
            | sl a cap vs hn hc hx h1 hr => exact ⟨_, _, _, rfl, rfl, rfl⟩
            | slNil hx => exact ⟨_, _, _, rfl, rfl, rfl⟩
          . cases hb
            cases hx with
            | osl l cap h1 h2 hc hx ho => exact ⟨_, _, _, rfl, rfl, rfl⟩
            | oslOld l h1 h2 a cap hc hx => exact ⟨_, _, _, rfl, rfl, rfl⟩
          . cases hb
        obtain ⟨n, a, cap, rfl, rfl, rfl⟩ := this
        exact ⟨Go.goInt n, w, by simp [builtin, Builtin.len_, ht, run_underlying hu], Moves.stay h (.int _ _)⟩
      . rename_i k e hu
        cases hb; cases hx
        exact ⟨Go.goInt 0, w, by simp [builtin, Builtin.len_, ht, run_underlying hu], Moves.stay h (.int _ _)⟩
      . rename_i k e id hu
        cases hx with
        | mp l h1 hz =>
          split at hb
          . rename_i m hgm
            cases hb
            obtain ⟨_, _, _, _, A, a1, a2, a3⟩ := h.mapAt h1 hgm
            have hl := a3.1
            refine ⟨Go.goInt m.es.length, w, ?_, Moves.stay h (.int _ _)⟩
            rw [<- hl]
            simp [builtin, Builtin.len_, ht, run_underlying hu, MapKept.run_getObj_map a1]
          . cases hb
      . cases hb
    . cases hb
  case h_2 =>
    rename_i x
    obtain ⟨v, ws, rfl, hx, hws⟩ := hr.inv_cons
    rw [hws.inv_nil]
    split at hb
    . rename_i t ht
      split at hb
      . rename_i e hu
        cases hb; cases hx
        exact ⟨Go.goInt 0, w, by simp [builtin, Builtin.cap_, ht, run_underlying hu], Moves.stay h (.int _ _)⟩
      . rename_i e cells es len c hu
        cases hb
        cases hx with
        | slNil hx =>
          rw [hx c rfl]
          exact ⟨Go.goInt 0, w, by simp [builtin, Builtin.cap_, ht, run_underlying hu], Moves.stay h (.int _ _)⟩
        | sl a cap vs hn hc hx h1 hr =>
          rw [hx c rfl]
          exact ⟨Go.goInt c, w, by simp [builtin, Builtin.cap_, ht, run_underlying hu], Moves.stay h (.int _ _)⟩
      . rename_i e id blen coff es len c hu
        cases hb
        cases hx with
        | osl l cap h1 h2 hc hx ho =>
          rw [hx c rfl]
          exact ⟨Go.goInt c, w, by simp [builtin, Builtin.cap_, ht, run_underlying hu], Moves.stay h (.int _ _)⟩
        | oslOld l h1 h2 a cap hc hx =>
          rw [hx c rfl]
          exact ⟨Go.goInt c, w, by simp [builtin, Builtin.cap_, ht, run_underlying hu], Moves.stay h (.int _ _)⟩
      . rename_i e id blen coff es len hu
        split at hb
        . rename_i m hm
          split at hb
          . rename_i hc
            obtain ⟨c1, c2, c3, c4, c5, c6⟩ := hc
            cases hb
            cases hx with
            | oslOld l k1 k2 a cap hc' hx' =>
              have := (h.memAt k1 hm).2.1
              omega
            | osl l cap k1 k2 hcap hxc ho =>
              obtain ⟨e1, e2, e3, e4, e5, e6, _⟩ := (h.memAt k1 hm).2
              obtain ⟨o1, o2⟩ := ho rfl
              have hco : coff / es * es = coff := by have := Nat.div_add_mod coff es; rw [Nat.mul_comm]; omega
              have hcap2 : cap + coff / es = l.cap := by
                have : (cap + coff / es) * es = l.cap * es := by rw [Nat.add_mul, hco]; exact o2
                exact Nat.eq_of_mul_eq_mul_right c4 this
              have hcc : cap = m.len - coff / es := by have := e5 c2; omega
              rw [<- hcc]
              exact ⟨Go.goInt cap, w, by simp [builtin, Builtin.cap_, ht, run_underlying hu], Moves.stay h (.int _ _)⟩
          . cases hb
        . cases hb
      . cases hb
    . cases hb
  case h_3 =>
    rename_i x rest
    obtain ⟨v, ws, rfl, hx, hws⟩ := hr.inv_cons
    cases hm : minA x rest with
    | none => simp [hm] at hb
    | some q =>
      simp [hm] at hb
      obtain ⟨rfl, rfl⟩ := hb
      obtain ⟨r, h1, h2⟩ := minA_ok rest x q hm hx hws
      exact ⟨r, w, by simp [builtin, Builtin.min_, h2], Moves.stay h h1⟩
  case h_4 =>
    rename_i x rest
    obtain ⟨v, ws, rfl, hx, hws⟩ := hr.inv_cons
    cases hm : maxA x rest with
    | none => simp [hm] at hb
    | some q =>
      simp [hm] at hb
      obtain ⟨rfl, rfl⟩ := hb
      obtain ⟨r, h1, h2⟩ := maxA_ok rest x q hm hx hws
      exact ⟨r, w, by simp [builtin, Builtin.max_, h2], Moves.stay h h1⟩
  case h_5 =>
    rename_i x y
    obtain ⟨v, ws, rfl, hx, hws⟩ := hr.inv_cons
    obtain ⟨u, us, rfl, hy, hus⟩ := hws.inv_cons
    rw [hus.inv_nil]
    split at hb
    . rename_i t zeros ht hz
      split at hb
      . rename_i e hu
        split at hb
        . rename_i n new hs
          obtain ⟨r, w', h1, h2⟩ := appendA_ok (ty := type) h hfl ht hu hz hs hb hx hy
          exact ⟨r, w', by simp [builtin, h1], h2⟩
        . cases hb
      . cases hb
    . cases hb
  case h_6 =>
    rename_i d y
    obtain ⟨v, ws, rfl, hx, hws⟩ := hr.inv_cons
    obtain ⟨u, us, rfl, hy, hus⟩ := hws.inv_cons
    rw [hus.inv_nil]
    split at hb
    . rename_i t ht
      split at hb
      . rename_i e hu
        split at hb
        . rename_i s n new hs hsrc
          obtain ⟨i, hi, hsz⟩ := sizeT_info hs
          split at hb
          . rename_i hlen
            have hmin0 : Nat.min n 0 = 0 := Nat.min_zero n
            split at hb
            . cases hb; cases hx
              obtain ⟨q1, cs, q2, q3, q4⟩ := source_first h hsrc hy hlen 0 (Nat.zero_le _)
              refine ⟨Go.goInt 0, w, ?_, Moves.stay h (.int _ _)⟩
              simp [builtin, Builtin.copy_, ht, run_underlying hu, q1, hmin0, sizeOf, typeInfo, hi, hsz, q4]
            . cases hb
              cases hx with
              | slNil hx =>
                obtain ⟨q1, cs, q2, q3, q4⟩ := source_first h hsrc hy hlen 0 (Nat.zero_le _)
                refine ⟨Go.goInt 0, w, ?_, Moves.stay h (.int _ _)⟩
                simp [builtin, Builtin.copy_, ht, run_underlying hu, q1, hmin0, sizeOf, typeInfo, hi, hsz, q4]
              | sl a cap vs hn hc hx h1 hr =>
                obtain ⟨q1, cs, q2, q3, q4⟩ := source_first h hsrc hy hlen 0 (Nat.zero_le _)
                have hcs : cs = #[] := Array.eq_empty_of_size_eq_zero (by have := q2.1; simpa using this)
                subst hcs
                refine ⟨Go.goInt 0, w, ?_, Moves.stay h (.int _ _)⟩
                simp [builtin, Builtin.copy_, ht, run_underlying hu, q1, hmin0, sizeOf, typeInfo, hi, hsz, q4, storeCells]
            . rename_i id blen coff es len xc
              split at hb
              . rename_i hes
                subst hes
                cases hw : writeCells fl σ id blen coff (new.take (Nat.min n len * es)) with
                | none => simp [hw] at hb
                | some σ1 =>
                  simp [hw] at hb
                  obtain ⟨rfl, rfl⟩ := hb
                  obtain ⟨q1, cs, q2, q3, q4⟩ := source_first h hsrc hy hlen (Nat.min n len) (Nat.min_le_left _ _)
                  have hone : (new.take (Nat.min n len * es)).all PV.oneCell = true := by
                    rw [List.all_eq_true] at q3 ⊢
                    exact fun x hx => q3 x (List.mem_of_mem_take hx)
                  obtain ⟨b, cap, w', ρ', rfl, k2, k3, k4⟩ := writeCells_ok h hw hx q2 hone
                  refine ⟨Go.goInt (Nat.min n len), w', ?_, Γ, ρ', .int _ _, k3, k4⟩
                  simp [builtin, Builtin.copy_, ht, run_underlying hu, q1, sizeOf, typeInfo, hi, hsz, q4, k2]
              . cases hb
            . cases hb
          . cases hb
        . cases hb
      . cases hb
    . cases hb
  case h_7 =>
    rename_i x
    obtain ⟨v, ws, rfl, hx, hws⟩ := hr.inv_cons
    rw [hws.inv_nil]
    split at hb
    . rename_i t ht
      split at hb
      . rename_i e hu
        split at hb
        . cases hb; cases hx
          exact ⟨.tuple #[], w, by simp [builtin, Builtin.clear_, ht, run_underlying hu], Moves.stay h (.tup (vs := #[]) rfl (fun j x v hx => by simp at hx))⟩
        . cases hb
          cases hx with
          | slNil hx => exact ⟨.tuple #[], w, by simp [builtin, Builtin.clear_, ht, run_underlying hu], Moves.stay h (.tup (vs := #[]) rfl (fun j x v hx => by simp at hx))⟩
          | sl a cap vs hn hc hx h1 hr =>
            exact ⟨.tuple #[], w, by simp [builtin, Builtin.clear_, ht, run_underlying hu], Moves.stay h (.tup (vs := #[]) rfl (fun j x v hx => by simp at hx))⟩
        . cases hb
          have : ∃ a cap, v = .slice (some a) 0 cap := by cases hx <;> exact ⟨_, _, rfl⟩
          obtain ⟨a, cap, rfl⟩ := this
          exact ⟨.tuple #[], w, by simp [builtin, Builtin.clear_, ht, run_underlying hu], Moves.stay h (.tup (vs := #[]) rfl (fun j x v hx => by simp at hx))⟩
        . rename_i id blen coff es len xc hne
          split at hb
          . rename_i s z hs hz
            split at hb
            . rename_i hc
              obtain ⟨rfl, c2, c3⟩ := hc
              obtain ⟨i, zv, hi, hzv, hrz, hz1⟩ := zeroT_rep (Γ := Γ) (ρ := ρ) hz
              cases hw : writeCells fl σ id blen coff (repCells z.cells len) with
              | none => simp [hw] at hb
              | some σ1 =>
                simp [hw] at hb
                obtain ⟨rfl, rfl⟩ := hb
                have hmade := made_reps hrz.cells (by omega) len
                have hzc : (Builtin.zeroCells zv.cells len) = (Array.range (len * z.cells.length)).map (zv.cells[· % zv.cells.size]!) := by
                  have : zv.cells.size = z.cells.length := by have := hrz.cells.1; simpa using this
                  unfold Builtin.zeroCells
                  rw [this]
                rw [<- hzc] at hmade
                obtain ⟨b, cap, w', ρ', rfl, k2, k3, k4⟩ := writeCells_ok h hw hx hmade (repCells_all hz1 _)
                refine ⟨.tuple #[], w', ?_, Γ, ρ', .tup (vs := #[]) rfl (fun j x v hx => by simp at hx), k3, k4⟩
                have hlen : len ≠ 0 := fun e => by subst e; simp at hne
                obtain ⟨len', rfl⟩ : ∃ k, len = k + 1 := ⟨len - 1, by omega⟩
                simp [builtin, Builtin.clear_, ht, run_underlying hu, zeroValue, typeInfo, hi, hzv, k2]
            . cases hb
          . cases hb
        . cases hb
      . rename_i k e hu
        obtain ⟨r, w', h1, h2⟩ := clearM_ok (ty := type) h ht hu hb hx
        exact ⟨r, w', by simp [builtin, h1], h2⟩
      . cases hb
    . cases hb
  case h_8 =>
    rename_i x k
    obtain ⟨v, ws, rfl, hx, hws⟩ := hr.inv_cons
    obtain ⟨u, us, rfl, hy, hus⟩ := hws.inv_cons
    rw [hus.inv_nil]
    split at hb
    . rename_i t ht
      obtain ⟨r, w', h1, h2⟩ := deleteA_ok (ty := type) hE h ht hb hx hy
      exact ⟨r, w', by simp [builtin, h1], h2⟩
    . cases hb
  case h_9 => cases hb
end
end
section
section
variable {E : Env} {fl : Nat} {Γ : Sealed} {ρ : Ren} {σ : Store} {w : World}
theorem oldL_get {n : Nat} : ∀ {xs : List PV} {j : Nat} {x : PV}, oldL n xs = true -> xs[j]? = some x -> oldV n x = true
  | [], j, x, _, h => by simp at h
  | y :: xs, 0, x, h, hx => by
    simp only [oldL, Bool.and_eq_true] at h
    simp at hx
    subst hx
    exact h.1
  | y :: xs, j + 1, x, h, hx => by
    simp only [oldL, Bool.and_eq_true] at h
    exact oldL_get h.2 (by simpa using hx)
theorem oldL_of {n : Nat} : ∀ {xs : List PV}, (∀ (j : Nat) (x : PV), xs[j]? = some x -> oldV n x = true) -> oldL n xs = true
  | [], _ => rfl
  | y :: xs, h => by
    simp only [oldL, Bool.and_eq_true]
    exact ⟨h 0 y rfl, oldL_of fun j x hx => h (j + 1) x (by simpa using hx)⟩
theorem Rep.old {ρ' : Ren} {n : Nat} (hρ : ∀ id, id < n -> ρ' id = ρ id) {x : PV} {v : Value} (h : Rep Γ ρ' x v) : oldV n x = true -> Rep Γ ρ x v := by
  induction h with
  | bool b => exact fun _ => .bool b
  | int k m => exact fun _ => .int k m
  | str l => exact fun _ => .str l
  | nilp => exact fun _ => .nilp
  | ptr l h hl => exact fun ho => .ptr l ((hρ _ (by simpa [oldV] using ho)).symm.trans h) hl
  | ptrOld l h hl a => exact fun ho => .ptrOld l ((hρ _ (by simpa [oldV] using ho)).symm.trans h) hl a
  | eptr b o vs h hr ih => exact fun ho => .eptr b o vs h fun j x hx => ih j x hx (oldL_get (by simpa [oldV] using ho) hx)
  | glob g off => exact fun _ => .glob g off
  | gptr t a h => exact fun _ => .gptr t a h
  | nils => exact fun _ => .nils
  | sl a cap vs hn hc hx h hr ih => exact fun ho => .sl a cap vs hn hc hx h fun j x hx => ih j x hx (oldL_get (by simpa [oldV] using ho) hx)
  | slNil hx => exact fun _ => .slNil hx
  | sln a cap => exact fun _ => .sln a cap
  | osl l cap h hl hc hx ho' => exact fun ho => .osl l cap ((hρ _ (by simpa [oldV] using ho)).symm.trans h) hl hc hx ho'
  | oslOld l h hl a cap hc hx => exact fun ho => .oslOld l ((hρ _ (by simpa [oldV] using ho)).symm.trans h) hl a cap hc hx
  | agg hn h ih => exact fun ho => .agg hn fun j x v hx hv => ih j x v hx hv (oldL_get (by simpa [oldV] using ho) hx)
  | fn f hn hm h h' ih ih' =>
    intro ho
    simp only [oldV, Bool.and_eq_true] at ho
    exact .fn f hn hm (fun j x v hx hv => ih j x v hx hv (oldL_get ho.1 hx)) (fun j x v hx hv => ih' j x v hx hv (oldL_get ho.2 hx))
  | nilfn => exact fun _ => .nilfn
  | iface t h ih => exact fun ho => .iface t (ih (by simpa [oldV] using ho))
  | nilif => exact fun _ => .nilif
  | tup hn h ih => exact fun ho => .tup hn fun j x v hx hv => ih j x v hx hv (oldL_get (by simpa [oldV] using ho) hx)
  | nilm => exact fun _ => .nilm
  | yld l => exact fun _ => .yld l
  | mp l h hz => exact fun ho => .mp l ((hρ _ (by simpa [oldV] using ho)).symm.trans h) hz
theorem Rep.isOld {n : Nat} (hρ : ∀ id l, ρ id = some l -> id < n) {x : PV} {v : Value} (h : Rep Γ ρ x v) : oldV n x = true := by
  induction h with
  | ptr l h hl => simp [oldV, hρ _ _ h]
  | ptrOld l h hl a => simp [oldV, hρ _ _ h]
  | osl l cap h hl hc hx ho => simp [oldV, hρ _ _ h]
  | oslOld l h hl a cap hc hx => simp [oldV, hρ _ _ h]
  | mp l h hz => simp [oldV, hρ _ _ h]
  | eptr b o vs h hr ih => simpa [oldV] using oldL_of ih
  | sl a cap vs hn hc hx h hr ih => simpa [oldV] using oldL_of ih
  | @agg xs vs hn h ih =>
    simp only [oldV]
    exact oldL_of fun j x hx => by
      have hlt := (List.getElem?_eq_some_iff.1 hx).1
      exact ih j x vs[j] hx (by simp [hn, hlt])
  | @fn f xs ys vs us hn hm h h' ih ih' =>
    simp only [oldV, Bool.and_eq_true]
    refine ⟨oldL_of fun j x hx => ?_, oldL_of fun j x hx => ?_⟩
    . have hlt := (List.getElem?_eq_some_iff.1 hx).1
      exact ih j x vs[j] hx (by simp [hn, hlt])
    . have hlt := (List.getElem?_eq_some_iff.1 hx).1
      exact ih' j x us[j] hx (by simp [hm, hlt])
  | iface t h ih => simpa [oldV] using ih
  | @tup xs vs hn h ih =>
    simp only [oldV]
    exact oldL_of fun j x hx => by
      have hlt := (List.getElem?_eq_some_iff.1 hx).1
      exact ih j x vs[j] hx (by simp [hn, hlt])
  | _ => rfl
theorem Reps.isOld {n : Nat} (hρ : ∀ id l, ρ id = some l -> id < n) {xs : List PV} {vs : List Value} (h : Reps Γ ρ xs vs) : oldL n xs = true :=
  oldL_of fun j x hx => by
    have hlt := (List.getElem?_eq_some_iff.1 hx).1
    have := h.1
    exact (h.2 j x vs[j] hx (by simp [this, hlt])).isOld hρ
theorem Reps.old {ρ' : Ren} {n : Nat} (hρ : ∀ id, id < n -> ρ' id = ρ id) {xs : List PV} {vs : List Value} (h : Reps Γ ρ' xs vs) (ho : oldL n xs = true) : Reps Γ ρ xs vs :=
  ⟨h.1, fun j x v hx hv => (h.2 j x v hx hv).old hρ (oldL_get ho hx)⟩
mutual
theorem oldV_le {n m : Nat} (hnm : n <= m) : ∀ (x : PV), oldV n x = true -> oldV m x = true
  | .ptr id _ _, h => by simp only [oldV, decide_eq_true_eq] at h ⊢; omega
  | .osl id _ _ _ _ _, h => by simp only [oldV, decide_eq_true_eq] at h ⊢; omega
  | .mp id, h => by simp only [oldV, decide_eq_true_eq] at h ⊢; omega
  | .eptr cells _, h => by simp only [oldV] at h ⊢; exact oldL_le hnm cells h
  | .sl cells _ _ _, h => by simp only [oldV] at h ⊢; exact oldL_le hnm cells h
  | .agg cells, h => by simp only [oldV] at h ⊢; exact oldL_le hnm cells h
  | .tup cells, h => by simp only [oldV] at h ⊢; exact oldL_le hnm cells h
  | .fn _ a b, h => by simp only [oldV, Bool.and_eq_true] at h ⊢; exact ⟨oldL_le hnm a h.1, oldL_le hnm b h.2⟩
  | .iface _ v, h => by simp only [oldV] at h ⊢; exact oldV_le hnm v h
  | .bool _, _ => rfl
  | .int _ _, _ => rfl
  | .str _, _ => rfl
  | .nilp, _ => rfl
  | .glob _ _, _ => rfl
  | .gptr _, _ => rfl
  | .nils, _ => rfl
  | .sln _, _ => rfl
  | .nilfn, _ => rfl
  | .nilif, _ => rfl
  | .nilm, _ => rfl
  | .yld, _ => rfl
theorem oldL_le {n m : Nat} (hnm : n <= m) : ∀ (xs : List PV), oldL n xs = true -> oldL m xs = true
  | [], _ => rfl
  | x :: xs, h => by
    simp only [oldL, Bool.and_eq_true] at h ⊢
    exact ⟨oldV_le hnm x h.1, oldL_le hnm xs h.2⟩
end
def obOld (n : Nat) : Ob -> Bool
  | .mem m => oldL n m.cells
  | .map m => match m.iter with
    | none => oldE n m.es
    | some (some id, _) => decide (id < n)
    | some (none, _) => true
theorem oldE_get {n : Nat} : ∀ {es : List (PV × PV)} {j : Nat} {e : PV × PV}, oldE n es = true -> es[j]? = some e -> oldV n e.1 = true /\ oldV n e.2 = true
  | [], j, e, _, h => by simp at h
  | (k, v) :: es, 0, e, h, hx => by
    simp only [oldE, Bool.and_eq_true] at h
    simp at hx
    subst hx
    exact ⟨h.1, h.2.1⟩
  | (k, v) :: es, j + 1, e, h, hx => by
    simp only [oldE, Bool.and_eq_true] at h
    exact oldE_get h.2.2 (by simpa using hx)
theorem oldE_of {n : Nat} : ∀ {es : List (PV × PV)}, (∀ (j : Nat) (e : PV × PV), es[j]? = some e -> oldV n e.1 = true /\ oldV n e.2 = true) -> oldE n es = true
  | [], _ => rfl
  | (k, v) :: es, h => by
    simp only [oldE, Bool.and_eq_true]
    exact ⟨(h 0 (k, v) rfl).1, (h 0 (k, v) rfl).2, oldE_of fun j e hx => h (j + 1) e (by simpa using hx)⟩
theorem EntsOk.old {ρ' : Ren} {n : Nat} {es : List (PV × PV)} {A : List MapEntry} (hρ : ∀ id, id < n -> ρ' id = ρ id) (h : EntsOk Γ ρ' es A) (ho : oldE n es = true) : EntsOk Γ ρ es A :=
  ⟨h.1, fun j e a h1 h2 => ⟨(h.2 j e a h1 h2).1.old hρ (oldE_get ho h1).1, (h.2 j e a h1 h2).2.old hρ (oldE_get ho h1).2⟩⟩
theorem ObOk.old {ρ' : Ren} {n : Nat} {l : Loc} {ob : Ob} (hρ : ∀ id, id < n -> ρ' id = ρ id) (h : ObOk Γ ρ' w l ob) (ho : obOld n ob = true) : ObOk Γ ρ w l ob := by
  cases ob with
  | mem m =>
    obtain ⟨k1, k2, k3, k4, k5, k6, C, T, k7, k8, k9⟩ := h
    exact ⟨k1, k2, k3, k4, k5, k6, C, T, k7, k8, k9.old hρ ho⟩
  | map m =>
    obtain ⟨k1, k2, k3⟩ := h
    simp only [obOld] at ho
    refine ⟨k1, k2, ?_⟩
    split at k3
    . rename_i hi
      rw [hi] at ho
      obtain ⟨A, a1, a2, a3⟩ := k3
      exact ⟨A, a1, a2, a3.old hρ ho⟩
    . rename_i o since seen last hi
      rw [hi] at ho
      obtain ⟨mo, a1, a2⟩ := k3
      refine ⟨mo, a1, ?_⟩
      cases o with
      | none => exact a2
      | some id =>
        obtain ⟨l', b1, b2⟩ := a2
        exact ⟨l', (hρ id (by simpa using ho)).symm.trans b1, b2⟩
theorem ObOk.isOld {n : Nat} {l : Loc} {ob : Ob} (hρ : ∀ id l, ρ id = some l -> id < n) (h : ObOk Γ ρ w l ob) : obOld n ob = true := by
  cases ob with
  | mem m =>
    obtain ⟨_, _, _, _, _, _, C, T, _, _, k9⟩ := h
    exact k9.isOld hρ
  | map m =>
    obtain ⟨k1, k2, k3⟩ := h
    simp only [obOld]
    split at k3
    . rename_i hi
      rw [hi]
      obtain ⟨A, a1, a2, a3⟩ := k3
      refine oldE_of fun j e he => ?_
      have hlt : j < A.toList.length := by have := (List.getElem?_eq_some_iff.1 he).1; have := a3.1; omega
      have := a3.2 j e _ he (List.getElem?_eq_getElem hlt)
      exact ⟨this.1.isOld hρ, this.2.isOld hρ⟩
    . rename_i o since seen last hi
      rw [hi]
      obtain ⟨mo, a1, a2⟩ := k3
      cases o with
      | none => rfl
      | some id =>
        obtain ⟨l', b1, b2⟩ := a2
        simpa using hρ id l' b1
theorem oldE_le {n m : Nat} (hnm : n <= m) : ∀ (es : List (PV × PV)), oldE n es = true -> oldE m es = true
  | [], _ => rfl
  | (k, v) :: es, h => by
    simp only [oldE, Bool.and_eq_true] at h ⊢
    exact ⟨oldV_le hnm k h.1, oldV_le hnm v h.2.1, oldE_le hnm es h.2.2⟩
theorem obOld_le {n m : Nat} (hnm : n <= m) (ob : Ob) (h : obOld n ob = true) : obOld m ob = true := by
  cases ob with
  | mem x => exact oldL_le hnm _ h
  | map x =>
    simp only [obOld] at h ⊢
    split at h
    . rename_i hi; exact oldE_le hnm _ h
    . rename_i id p hi
      simp only [decide_eq_true_eq] at h ⊢
      omega
    . rename_i p hi; rfl
theorem Rel.bare (hE : E.Ok) (h : Rel E fl Γ ρ σ w) : Rel E 0 Γ (fun _ => none) [] w := by
  refine ⟨h.fix, fun id l hl => (by cases hl), fun id l m hl => (by cases hl), fun i j li lj hi => (by cases hi), fun g cells hg => ?_, h.rock.move h.glob (fun _ _ _ h => h) (fun _ _ _ => rfl) (fun _ _ _ _ _ hl => by cases hl)⟩
  obtain ⟨vs, hv⟩ := h.glob g cells hg
  exact ⟨vs, fun j x hx => ⟨(hv j x hx).1, (hv j x hx).2.1, (hv j x hx).2.2.old (n := 0) (fun id hid => absurd hid (Nat.not_lt_zero id)) (oldL_get (hE.glob g cells hg) hx)⟩⟩
theorem bare_ok (h : Rel E fl Γ ρ σ w) {p : PV} {σ1 : Store} {r : Value} {w1 : World} (hm : Moves E 0 Γ (fun _ => none) [] w p σ1 r w1) (ho : oldV 0 p = true) : Moves E fl Γ ρ σ w p σ r w1 := by
  obtain ⟨Γ1, ρ1, hr1, hR1, hp⟩ := hm
  have hheap : ∀ b, b < w.heap.size -> w1.heap[b]? = w.heap[b]? := fun b hb => hp.frame b hb fun id l hl => by cases hl
  have hfresh : ∀ b o, Γ b o = none -> Γ1 b o ≠ none -> w.heap.size <= b := by
    intro b o h1 h2
    rcases hp.fresh b o h1 h2 with h3 | ⟨id, l, m, h3, _⟩
    . exact h3
    . cases h3
  have hle : Le Γ ρ Γ1 ρ := ⟨hp.le.fix, fun _ l h => ⟨l, h, .inl rfl⟩⟩
  refine ⟨Γ1, ρ, hr1.old (n := 0) (fun id hid => absurd hid (Nat.not_lt_zero id)) ho, ⟨hR1.fix, fun id l hl => ?_, fun id l m hl hid hm hi o => ?_, h.inj, fun g cells hg => ?_, h.rock.move h.glob hle.fix (fun b hb _ => hheap b hb) (fun _ id l _ hn hl => hn id l hl)⟩, ?_⟩
  . obtain ⟨ob, hob, hk⟩ := h.mem id l hl
    exact ⟨ob, hob, hk.move hle (hheap _ (h.block_lt hl))⟩
  . cases hg : Γ1 l.block o with
    | none => rfl
    | some u =>
      have h3 := hfresh l.block o (h.apart id l m hl hid hm hi o) (by simp [hg])
      have := h.block_lt hl
      omega
  . obtain ⟨vs, hv⟩ := h.glob g cells hg
    exact ⟨vs, fun j x hx => ⟨hle.fix _ _ _ (hv j x hx).1, (hv j x hx).2.1, (hv j x hx).2.2.mono hle⟩⟩
  . exact { Post.refl fl Γ ρ σ w with le := hle, fresh := fun b o h1 h2 => .inl (hfresh b o h1 h2), frame := fun b hb _ => hheap b hb, size := hp.size, os := hp.os, tape := hp.tape, output := hp.output }
end
end
section
section
variable {E : Env} {fl : Nat} {Γ : Sealed} {ρ : Ren} {σ : Store} {w : World}
theorem memN_iff (x : Nat) : ∀ l : List Nat, memN x l = true ↔ x ∈ l
  | [] => by simp [memN]
  | y :: ys => by
    simp only [memN, Bool.or_eq_true, memN_iff x ys, List.mem_cons]
    constructor
    . rintro (h | h)
      . exact .inl (Nat.eq_of_beq_eq_true h)
      . exact .inr h
    . rintro (h | h)
      . exact .inl (by rw [h]; exact Nat.beq_refl y)
      . exact .inr h
theorem onceN_ok : ∀ (l acc : List Nat), acc.Nodup -> (onceN acc l).Nodup /\ ∀ x, x ∈ onceN acc l -> x ∈ acc ∨ x ∈ l
  | [], acc, h => ⟨h, fun x hx => .inl hx⟩
  | y :: ys, acc, h => by
    unfold onceN
    split
    . obtain ⟨h1, h2⟩ := onceN_ok ys acc h
      exact ⟨h1, fun x hx => (h2 x hx).imp id fun h => List.mem_cons_of_mem _ h⟩
    . rename_i hm
      have hm : ¬ y ∈ acc := fun e => hm ((memN_iff y acc).2 e)
      obtain ⟨h1, h2⟩ := onceN_ok ys (acc ++ [y]) (by
        rw [List.nodup_append]
        exact ⟨h, by simp, fun a ha b hb => by simp at hb; subst hb; exact fun e => hm (e ▸ ha)⟩)
      refine ⟨h1, fun x hx => ?_⟩
      rcases h2 x hx with h3 | h3
      . rw [List.mem_append, List.mem_singleton] at h3
        exact h3.imp id fun e => by rw [e]; exact List.mem_cons_self
      . exact .inr (List.mem_cons_of_mem _ h3)
mutual
theorem idsV_ge {n : Nat} : ∀ (x : PV) (j : Nat), j ∈ idsV n x -> n <= j
  | .ptr id _ _, j, h => by
    simp only [idsV] at h
    split at h
    . rename_i hb; simp at h; subst h; exact Nat.le_of_ble_eq_true hb
    . simp at h
  | .osl id _ _ _ _ _, j, h => by
    simp only [idsV] at h
    split at h
    . rename_i hb; simp at h; subst h; exact Nat.le_of_ble_eq_true hb
    . simp at h
  | .mp id, j, h => by
    simp only [idsV] at h
    split at h
    . rename_i hb; simp at h; subst h; exact Nat.le_of_ble_eq_true hb
    . simp at h
  | .agg cs, j, h => idsL_ge cs j (by simpa [idsV] using h)
  | .tup cs, j, h => idsL_ge cs j (by simpa [idsV] using h)
  | .fn _ a b, j, h => by
    simp only [idsV, List.mem_append] at h
    exact h.elim (idsL_ge a j) (idsL_ge b j)
  | .iface _ v, j, h => idsV_ge v j (by simpa [idsV] using h)
  | .eptr _ _, j, h => by simp [idsV] at h
  | .sl _ _ _ _, j, h => by simp [idsV] at h
  | .bool _, j, h => by simp [idsV] at h
  | .int _ _, j, h => by simp [idsV] at h
  | .str _, j, h => by simp [idsV] at h
  | .nilp, j, h => by simp [idsV] at h
  | .glob _ _, j, h => by simp [idsV] at h
  | .gptr _, j, h => by simp [idsV] at h
  | .nils, j, h => by simp [idsV] at h
  | .sln _, j, h => by simp [idsV] at h
  | .nilfn, j, h => by simp [idsV] at h
  | .nilif, j, h => by simp [idsV] at h
  | .nilm, j, h => by simp [idsV] at h
  | .yld, j, h => by simp [idsV] at h
theorem idsL_ge {n : Nat} : ∀ (xs : List PV) (j : Nat), j ∈ idsL n xs -> n <= j
  | [], j, h => by simp [idsL] at h
  | x :: xs, j, h => by
    simp only [idsL, List.mem_append] at h
    exact h.elim (idsV_ge x j) (idsL_ge xs j)
end
theorem idsSlots_ge {n : Nat} : ∀ (s : Slots) (j : Nat), j ∈ idsSlots n s -> n <= j
  | [], j, h => by simp [idsSlots] at h
  | none :: s, j, h => idsSlots_ge s j (by simpa [idsSlots] using h)
  | some v :: s, j, h => by
    simp only [idsSlots, List.mem_append] at h
    exact h.elim (idsV_ge v j) (idsSlots_ge s j)
theorem idsStore_ge {n : Nat} : ∀ (k : Nat) (σ : Store) (j : Nat), j ∈ idsStore n k σ -> n <= j
  | 0, σ, j, h => by simp [idsStore] at h
  | k + 1, [], j, h => by simp [idsStore] at h
  | k + 1, .mem m :: σ, j, h => by
    simp only [idsStore, List.mem_append] at h
    rcases h with h | h
    . split at h
      . exact idsL_ge _ j h
      . simp at h
    . exact idsStore_ge k σ j h
  | k + 1, .map _ :: σ, j, h => idsStore_ge k σ j (by simpa [idsStore] using h)
theorem closeGo_ok (n : Nat) (σ : Store) : ∀ (k : Nat) (l acc : List Nat), acc.Nodup -> (closeGo n σ k l acc).Nodup /\ ∀ x, x ∈ closeGo n σ k l acc -> x ∈ acc ∨ x ∈ l ∨ n <= x
  | 0, l, acc, h => ⟨h, fun x hx => .inl hx⟩
  | k + 1, [], acc, h => ⟨h, fun x hx => .inl hx⟩
  | k + 1, y :: ys, acc, h => by
    unfold closeGo
    split
    . obtain ⟨h1, h2⟩ := closeGo_ok n σ k ys acc h
      exact ⟨h1, fun x hx => (h2 x hx).imp id fun h => h.imp (List.mem_cons_of_mem _) id⟩
    . rename_i hm
      have hm : ¬ y ∈ acc := fun e => hm ((memN_iff y acc).2 e)
      have hnd : (acc ++ [y]).Nodup := by
        rw [List.nodup_append]
        exact ⟨h, by simp, fun a ha b hb => by simp at hb; subst hb; exact fun e => hm (e ▸ ha)⟩
      have key : ∀ l2 : List Nat, (∀ x ∈ l2, x ∈ ys ∨ n <= x) -> (closeGo n σ k l2 (acc ++ [y])).Nodup /\ ∀ x, x ∈ closeGo n σ k l2 (acc ++ [y]) -> x ∈ acc ∨ x ∈ y :: ys ∨ n <= x := fun l2 hl2 => by
        obtain ⟨h1, h2⟩ := closeGo_ok n σ k l2 (acc ++ [y]) hnd
        refine ⟨h1, fun x hx => ?_⟩
        rcases h2 x hx with h3 | h3 | h3
        . rw [List.mem_append, List.mem_singleton] at h3
          exact h3.imp id fun e => .inl (by rw [e]; exact List.mem_cons_self)
        . exact .inr ((hl2 x h3).imp (List.mem_cons_of_mem _) id)
        . exact .inr (.inr h3)
      split
      . rename_i m _
        refine key _ fun x hx => ?_
        rw [List.mem_append] at hx
        refine hx.imp id fun hx => ?_
        split at hx
        . exact idsL_ge _ x hx
        . simp at hx
      . exact key ys fun x hx => .inl hx
theorem closeN_ok (n : Nat) (σ : Store) (l : List Nat) : (closeN n σ l).Nodup /\ ∀ x, x ∈ closeN n σ l -> x ∈ ([] : List Nat) ∨ x ∈ l ∨ n <= x := closeGo_ok n σ 2000 l [] List.nodup_nil
theorem liveN_ok (pat : List Bool) (n : Nat) (s : Slots) (σ : Store) : (liveN pat n s σ).Nodup /\ ∀ j ∈ liveN pat n s σ, n <= j := by
  obtain ⟨h1, h2⟩ := closeN_ok n σ (idsSlots n (keepS pat s) ++ idsStore n n σ)
  refine ⟨h1, fun j hj => ?_⟩
  rcases h2 j hj with h | h | h
  . simp at h
  . rw [List.mem_append] at h
    exact h.elim (idsSlots_ge _ j) (idsStore_ge _ _ j)
  . exact h
theorem placeN_ok : ∀ (L : List Nat) (x i j : Nat), placeN x L i = some j -> ∃ q, j = i + q /\ L[q]? = some x
  | [], x, i, j, h => by cases h
  | y :: ys, x, i, j, h => by
    simp only [placeN] at h
    split at h
    . rename_i hb
      cases h
      exact ⟨0, rfl, by rw [Nat.eq_of_beq_eq_true hb]; rfl⟩
    . obtain ⟨q, h1, h2⟩ := placeN_ok ys x (i + 1) j h
      exact ⟨q + 1, by omega, by simpa using h2⟩
def renR (n : Nat) (L : List Nat) (ρ : Ren) : Ren := fun id => if id < n then ρ id else (L[id - n]?).bind ρ
theorem newId_ok {n : Nat} {L : List Nat} {id j : Nat} (h : newId n L id = some j) : renR n L ρ j = ρ id := by
  unfold newId at h
  unfold renR
  split at h
  . rename_i hb
    cases h
    rw [if_pos (show id < n from Nat.le_of_ble_eq_true hb)]
  . obtain ⟨q, rfl, h2⟩ := placeN_ok L id n j h
    rw [if_neg (by omega), Nat.add_sub_cancel_left, h2]
    rfl
theorem renR_old {n : Nat} {L : List Nat} : ∀ id, id < n -> renR n L ρ id = ρ id := fun id h => if_pos h
theorem renL_get {n : Nat} {L : List Nat} : ∀ {xs ys : List PV} {j : Nat} {y : PV}, renL n L xs = some ys -> ys[j]? = some y -> ∃ x, xs[j]? = some x /\ renV n L x = some y
  | [], ys, j, y, h, hy => by cases h; simp at hy
  | x :: xs, ys, j, y, h, hy => by
    simp only [renL] at h
    split at h
    . rename_i x' xs' h1 h2
      cases h
      cases j with
      | zero => simp at hy; subst hy; exact ⟨x, rfl, h1⟩
      | succ j => simpa using renL_get h2 (by simpa using hy)
    . cases h
theorem renL_len {n : Nat} {L : List Nat} : ∀ {xs ys : List PV}, renL n L xs = some ys -> ys.length = xs.length
  | [], ys, h => by cases h; rfl
  | x :: xs, ys, h => by
    simp only [renL] at h
    split at h
    . rename_i x' xs' h1 h2
      cases h
      simp [renL_len h2]
    . cases h
theorem Rep.ren {n : Nat} {L : List Nat} {x : PV} {v : Value} (h : Rep Γ ρ x v) : ∀ {y : PV}, renV n L x = some y -> Rep Γ (renR n L ρ) y v := by
  induction h with
  | bool b => intro y h; cases h; exact .bool b
  | int k m => intro y h; cases h; exact .int k m
  | str l => intro y h; cases h; exact .str l
  | nilp => intro y h; cases h; exact .nilp
  | ptr l h hl =>
    intro y hy
    simp only [renV, Option.map_eq_some_iff] at hy
    obtain ⟨j, hj, rfl⟩ := hy
    exact .ptr l ((newId_ok hj).trans h) hl
  | ptrOld l h hl a =>
    intro y hy
    simp only [renV, Option.map_eq_some_iff] at hy
    obtain ⟨j, hj, rfl⟩ := hy
    exact .ptrOld l ((newId_ok hj).trans h) hl a
  | eptr b o vs h hr ih =>
    intro y hy
    simp only [renV] at hy
    split at hy
    . rename_i ho
      cases hy
      exact .eptr b o vs h fun j x hx => (hr j x hx).old (n := n) (fun id hid => (renR_old id hid).symm) (oldL_get ho hx)
    . cases hy
  | glob g off => intro y h; cases h; exact .glob g off
  | gptr t a h => intro y h2; cases h2; exact .gptr t a h
  | nils => intro y h; cases h; exact .nils
  | sl a cap vs hn hc hx h hr ih =>
    intro y hy
    simp only [renV] at hy
    split at hy
    . rename_i ho
      cases hy
      exact .sl a cap vs hn hc hx h fun j x hx => (hr j x hx).old (n := n) (fun id hid => (renR_old id hid).symm) (oldL_get ho hx)
    . cases hy
  | sln a cap => intro y h; cases h; exact .sln a cap
  | slNil hx =>
    intro y hy
    simp only [renV] at hy
    split at hy
    . cases hy; exact .slNil hx
    . cases hy
  | osl l cap h hl hc hx ho =>
    intro y hy
    simp only [renV, Option.map_eq_some_iff] at hy
    obtain ⟨j, hj, rfl⟩ := hy
    exact .osl l cap ((newId_ok hj).trans h) hl hc hx ho
  | oslOld l h hl a cap hc hx =>
    intro y hy
    simp only [renV, Option.map_eq_some_iff] at hy
    obtain ⟨j, hj, rfl⟩ := hy
    exact .oslOld l ((newId_ok hj).trans h) hl a cap hc hx
  | agg hn h ih =>
    intro y hy
    simp only [renV, Option.map_eq_some_iff] at hy
    obtain ⟨ys, hys, rfl⟩ := hy
    refine .agg (by rw [renL_len hys]; exact hn) fun j y v hy hv => ?_
    obtain ⟨x, hx, e⟩ := renL_get hys hy
    exact ih j x v hx hv e
  | fn f hn hm h h' ih ih' =>
    intro y hy
    simp only [renV] at hy
    split at hy
    . rename_i a b ha hb
      cases hy
      refine .fn f (by rw [renL_len ha]; exact hn) (by rw [renL_len hb]; exact hm) (fun j y v hy hv => ?_) (fun j y v hy hv => ?_)
      . obtain ⟨x, hx, e⟩ := renL_get ha hy
        exact ih j x v hx hv e
      . obtain ⟨x, hx, e⟩ := renL_get hb hy
        exact ih' j x v hx hv e
    . cases hy
  | nilfn => intro y h; cases h; exact .nilfn
  | iface t h ih =>
    intro y hy
    simp only [renV, Option.map_eq_some_iff] at hy
    obtain ⟨y', hy', rfl⟩ := hy
    exact .iface t (ih hy')
  | nilif => intro y h; cases h; exact .nilif
  | tup hn h ih =>
    intro y hy
    simp only [renV, Option.map_eq_some_iff] at hy
    obtain ⟨ys, hys, rfl⟩ := hy
    refine .tup (by rw [renL_len hys]; exact hn) fun j y v hy hv => ?_
    obtain ⟨x, hx, e⟩ := renL_get hys hy
    exact ih j x v hx hv e
  | nilm => intro y h; cases h; exact .nilm
  | yld l => intro y h; cases h; exact .yld l
  | mp l h hz =>
    intro y hy
    simp only [renV, Option.map_eq_some_iff] at hy
    obtain ⟨j, hj, rfl⟩ := hy
    exact .mp l ((newId_ok hj).trans h) hz
mutual
theorem renV_old {n : Nat} {L : List Nat} : ∀ (x : PV), oldV n x = true -> renV n L x = some x
  | .ptr id _ _, h => by
    have h : id < n := by simpa [oldV] using h
    simp [renV, newId, show Nat.blt id n = true from Nat.ble_eq_true_of_le h]
  | .osl id _ _ _ _ _, h => by
    have h : id < n := by simpa [oldV] using h
    simp [renV, newId, show Nat.blt id n = true from Nat.ble_eq_true_of_le h]
  | .mp id, h => by
    have h : id < n := by simpa [oldV] using h
    simp [renV, newId, show Nat.blt id n = true from Nat.ble_eq_true_of_le h]
  | .eptr cells _, h => by simp only [oldV] at h; simp [renV, h]
  | .sl cells _ _ _, h => by simp only [oldV] at h; simp [renV, h]
  | .agg cells, h => by simp only [oldV] at h; simp [renV, renL_old cells h]
  | .tup cells, h => by simp only [oldV] at h; simp [renV, renL_old cells h]
  | .fn _ a b, h => by simp only [oldV, Bool.and_eq_true] at h; simp [renV, renL_old a h.1, renL_old b h.2]
  | .iface _ v, h => by simp only [oldV] at h; simp [renV, renV_old v h]
  | .bool _, _ => rfl
  | .int _ _, _ => rfl
  | .str _, _ => rfl
  | .nilp, _ => rfl
  | .glob _ _, _ => rfl
  | .gptr _, _ => rfl
  | .nils, _ => rfl
  | .sln _, _ => rfl
  | .nilfn, _ => rfl
  | .nilif, _ => rfl
  | .nilm, _ => rfl
  | .yld, _ => rfl
theorem renL_old {n : Nat} {L : List Nat} : ∀ (xs : List PV), oldL n xs = true -> renL n L xs = some xs
  | [], _ => rfl
  | x :: xs, h => by
    simp only [oldL, Bool.and_eq_true] at h
    simp [renL, renV_old x h.1, renL_old xs h.2]
end
theorem renSlots_get {n : Nat} {L : List Nat} : ∀ {s s1 : Slots} {t : Nat} {y : PV}, renSlots n L s = some s1 -> s1[t]? = some (some y) -> ∃ x, s[t]? = some (some x) /\ renV n L x = some y
  | [], s1, t, y, h, hy => by cases h; simp at hy
  | none :: s, s1, t, y, h, hy => by
    simp only [renSlots, Option.map_eq_some_iff] at h
    obtain ⟨s2, h2, rfl⟩ := h
    cases t with
    | zero => simp at hy
    | succ t => simpa using renSlots_get h2 (by simpa using hy)
  | some v :: s, s1, t, y, h, hy => by
    simp only [renSlots] at h
    split at h
    . rename_i v' s2 h1 h2
      cases h
      cases t with
      | zero => simp at hy; subst hy; exact ⟨v, rfl, h1⟩
      | succ t => simpa using renSlots_get h2 (by simpa using hy)
    . cases h
theorem renSlots_len {n : Nat} {L : List Nat} : ∀ {s s1 : Slots}, renSlots n L s = some s1 -> s1.length = s.length
  | [], s1, h => by cases h; rfl
  | none :: s, s1, h => by
    simp only [renSlots, Option.map_eq_some_iff] at h
    obtain ⟨s2, h2, rfl⟩ := h
    simp [renSlots_len h2]
  | some v :: s, s1, h => by
    simp only [renSlots] at h
    split at h
    . rename_i v' s2 h1 h2
      cases h
      simp [renSlots_len h2]
    . cases h
theorem renStore_get {n : Nat} {L : List Nat} : ∀ {os σ1 : Store} {id : Nat}, renStore n L os = some σ1 -> (∀ ob, os[id]? = some ob -> ∃ ob1, σ1[id]? = some ob1 /\ renOb n L ob = some ob1) /\ σ1.length = os.length
  | [], σ1, id, h => by cases h; exact ⟨fun ob ho => by simp at ho, rfl⟩
  | o :: os, σ1, id, h => by
    simp only [renStore] at h
    split at h
    . rename_i o1 os1 h1 h2
      cases h
      refine ⟨fun ob ho => ?_, by simp [(renStore_get (id := 0) h2).2]⟩
      cases id with
      | zero => simp at ho; subst ho; exact ⟨o1, rfl, h1⟩
      | succ id => simpa using (renStore_get (id := id) h2).1 ob (by simpa using ho)
    . cases h
theorem pickObs_get {σ : Store} : ∀ {L : List Nat} {os : List Ob} {q : Nat}, pickObs σ L = some os -> os.length = L.length /\ ∀ id, L[q]? = some id -> ∃ ob, os[q]? = some ob /\ σ[id]? = some ob
  | [], os, q, h => by cases h; exact ⟨rfl, fun id hi => by simp at hi⟩
  | x :: L, os, q, h => by
    simp only [pickObs] at h
    split at h
    . rename_i o os1 h1 h2
      cases h
      refine ⟨by simp [(pickObs_get (q := 0) h2).1], fun id hi => ?_⟩
      cases q with
      | zero => simp at hi; subst hi; exact ⟨o, rfl, h1⟩
      | succ q => simpa using (pickObs_get (q := q) h2).2 id (by simpa using hi)
    . cases h
theorem renOb_ok {n : Nat} {L : List Nat} {m : Mem} {ob1 : Ob} {l : Loc} (h : MemOk Γ ρ w l m) (hr : renOb n L (.mem m) = some ob1) :
    ∃ m1 : Mem, ob1 = .mem m1 /\ m1.ice = m.ice /\ m1.size = m.size /\ m1.len = m.len /\ m1.exact = m.exact /\ (oldL n m.cells = true -> m1.cells = m.cells) /\ MemOk Γ (renR n L ρ) w l m1 := by
  obtain ⟨k1, k2, k3, k4, k5, k6, C, T, k7, k8, k9⟩ := h
  simp only [renOb] at hr
  split at hr
  . simp only [Option.map_eq_some_iff] at hr
    obtain ⟨cs, hcs, rfl⟩ := hr
    have hl := renL_len hcs
    have hrr : Reps Γ (renR n L ρ) cs (C.toList.take m.cells.length) := ⟨by rw [hl]; exact k9.1, fun j y v hy hv => by
      obtain ⟨x, hx, e⟩ := renL_get hcs hy
      exact (k9.2 j x v hx hv).ren e⟩
    refine ⟨_, rfl, rfl, rfl, rfl, rfl, fun ho => ?_, k1, k2, by simpa [hl] using k3, k4, k5, ?_, C, T, k7, k8, by simpa [hl] using hrr⟩
    . rw [renL_old _ ho] at hcs
      cases hcs
      rfl
    . rw [List.all_eq_true]
      intro y hy
      obtain ⟨j, hj⟩ := List.getElem?_of_mem hy
      obtain ⟨x, hx, e⟩ := renL_get hcs hj
      have hlt : j < (C.toList.take m.cells.length).length := by
        have := (List.getElem?_eq_some_iff.1 hx).1
        rw [k9.1]; exact this
      have h1 := (k9.2 j x _ hx (List.getElem?_eq_getElem hlt)).oneCell
      have h2 := (hrr.2 j y _ hj (List.getElem?_eq_getElem hlt)).oneCell
      rw [<- h2, h1]
      exact List.all_eq_true.1 k6 x (List.mem_of_getElem? hx)
  . split at hr
    . rename_i ho
      cases hr
      exact ⟨m, rfl, rfl, rfl, rfl, rfl, fun _ => rfl, k1, k2, k3, k4, k5, k6, C, T, k7, k8, k9.old (n := 0) (fun id hid => absurd hid (Nat.not_lt_zero id)) ho⟩
    . cases hr
theorem renOb_any {n : Nat} {L : List Nat} {ob ob1 : Ob} {l : Loc} (h : ObOk Γ ρ w l ob) (hr : renOb n L ob = some ob1) :
    ObOk Γ (renR n L ρ) w l ob1 /\ (∀ m1 : Mem, ob1 = .mem m1 -> ∃ m : Mem, ob = .mem m /\ m1.ice = m.ice) := by
  cases ob with
  | mem m =>
    obtain ⟨m1, rfl, e1, _, _, _, _, e2⟩ := renOb_ok h hr
    exact ⟨e2, fun m2 e => by cases e; exact ⟨m, rfl, e1⟩⟩
  | map m =>
    simp only [renOb] at hr
    split at hr
    . rename_i hc
      cases hr
      simp only [Bool.and_eq_true, Option.isNone_iff_eq_none] at hc
      refine ⟨h.old (n := 0) (fun id hid => absurd hid (Nat.not_lt_zero id)) (by simp only [obOld, hc.1]; exact hc.2), fun m1 e => by cases e⟩
    . cases hr
theorem Rel.rename (hE : E.Ok) {n fl' : Nat} {L : List Nat} {os : List Ob} {σ1 : Store} (h : Rel E fl Γ ρ σ w) (hnd : L.Nodup) (hge : ∀ j ∈ L, n <= j) (hn : n <= σ.length) (hos : pickObs σ L = some os)
    (hσ1 : renStore n L (σ.take n ++ os) = some σ1) (hf : ∀ id, fl' <= id -> id < n -> fl <= id) (hfL : ∀ j ∈ L, fl <= j) :
    Rel E fl' Γ (renR n L ρ) σ1 w := by
  have hlow : ∀ id, id < n -> (σ.take n ++ os)[id]? = σ[id]? := fun id hid => by
    rw [List.getElem?_append_left (by simp only [List.length_take]; omega), List.getElem?_take, if_pos hid]
  have hhigh : ∀ q, (σ.take n ++ os)[n + q]? = os[q]? := fun q => by
    have : (σ.take n).length = n := by simp only [List.length_take]; omega
    rw [List.getElem?_append_right (by omega), this, Nat.add_sub_cancel_left]
  have hfind : ∀ id l, renR n L ρ id = some l -> ∃ id' ob ob1, ρ id' = some l /\ σ[id']? = some ob /\ ObOk Γ ρ w l ob /\ σ1[id]? = some ob1 /\ renOb n L ob = some ob1 /\ (id < n -> id' = id) /\ (n <= id -> L[id - n]? = some id') := by
    intro id l hl
    unfold renR at hl
    split at hl
    . rename_i hid
      obtain ⟨ob, hm, hok⟩ := h.mem id l hl
      obtain ⟨ob1, h1, h2⟩ := (renStore_get hσ1).1 _ ((hlow id hid).trans hm)
      exact ⟨id, ob, ob1, hl, hm, hok, h1, h2, fun _ => rfl, fun e => absurd hid (by omega)⟩
    . rename_i hid
      cases hq : L[id - n]? with
      | none => simp [hq] at hl
      | some id' =>
        rw [hq] at hl
        obtain ⟨ob0, hm, hok⟩ := h.mem id' l hl
        obtain ⟨ob, ho1, ho2⟩ := (pickObs_get hos).2 id' hq
        rw [hm] at ho2
        cases ho2
        have e : n + (id - n) = id := by omega
        obtain ⟨ob1, h1, h2⟩ := (renStore_get hσ1).1 _ ((hhigh (id - n)).trans ho1)
        rw [e] at h1
        exact ⟨id', ob0, ob1, hl, hm, hok, h1, h2, fun e => absurd e (by omega), fun _ => rfl⟩
  refine ⟨h.fix, fun id l hl => ?_, fun id l m hl hid hm hi o => ?_, fun i j li lj hi hj hb => ?_, fun g cells hg => ?_, h.rock.move h.glob (fun _ _ _ h => h) (fun _ _ _ => rfl) (fun b id l _ hn hl => by
    obtain ⟨id', m0, m1, e1, _⟩ := hfind id l hl
    exact hn id' l e1)⟩
  . obtain ⟨id', ob, ob1, e1, e2, e3, e4, e5, _⟩ := hfind id l hl
    exact ⟨_, e4, (renOb_any e3 e5).1⟩
  . obtain ⟨id', ob, ob1, e1, e2, e3, e4, e5, e6, e7⟩ := hfind id l hl
    rw [e4] at hm
    cases hm
    obtain ⟨m0, rfl, e9⟩ := (renOb_any e3 e5).2 m rfl
    refine h.apart id' l m0 e1 ?_ e2 (by rw [<- e9]; exact hi) o
    by_cases hid' : id < n
    . rw [e6 hid']; exact hf id hid hid'
    . exact hfL id' (List.mem_of_getElem? (e7 (by omega)))
  . obtain ⟨i', _, _, a1, _, _, _, _, a6, a7⟩ := hfind i li hi
    obtain ⟨j', _, _, b1, _, _, _, _, b6, b7⟩ := hfind j lj hj
    have hij := h.inj i' j' li lj a1 b1 hb
    subst hij
    by_cases h1 : i < n
    . have e1 := a6 h1
      by_cases h2 : j < n
      . have e2 := b6 h2; omega
      . have := hge i' (List.mem_of_getElem? (b7 (by omega)))
        omega
    . have e1 := a7 (by omega)
      by_cases h2 : j < n
      . have e2 := b6 h2
        have := hge i' (List.mem_of_getElem? e1)
        omega
      . have e2 := b7 (by omega)
        have k1 := (List.getElem?_eq_some_iff.1 e1).1
        have := (List.getElem?_inj k1 hnd).1 (e1.trans e2.symm)
        omega
  . obtain ⟨vs, hv⟩ := h.glob g cells hg
    exact ⟨vs, fun j x hx => ⟨(hv j x hx).1, (hv j x hx).2.1, (hv j x hx).2.2.old (n := 0) (fun id hid => absurd hid (Nat.not_lt_zero id)) (oldL_get (hE.glob g cells hg) hx)⟩⟩
end
end
section
section
variable {E : Env} {fl : Nat} {Γ : Sealed} {ρ : Ren} {σ : Store} {w : World}
theorem nodupN_ok : ∀ (l : List Nat), nodupN l = true -> l.Nodup
  | [], _ => List.nodup_nil
  | x :: xs, h => by
    simp only [nodupN, Bool.and_eq_true, Bool.not_eq_true'] at h
    refine List.nodup_cons.2 ⟨fun hm => ?_, nodupN_ok xs h.2⟩
    rw [(memN_iff x xs).2 hm] at h
    cases h.1
theorem placeN_none : ∀ (L : List Nat) (x i : Nat), placeN x L i = none -> ∀ q : Nat, L[q]? ≠ some x
  | [], x, i, h, q => by simp
  | y :: ys, x, i, h, q => by
    simp only [placeN] at h
    split at h
    . cases h
    . rename_i hb
      cases q with
      | zero =>
        intro e
        simp at e
        subst e
        exact hb (Nat.beq_refl y)
      | succ q => simpa using placeN_none ys x (i + 1) h q
theorem renOb_ice {n : Nat} {L : List Nat} {m : Mem} {ob1 : Ob} (hr : renOb n L (.mem m) = some ob1) : ∃ m1 : Mem, ob1 = .mem m1 /\ m1.ice = m.ice := by
  simp only [renOb] at hr
  split at hr
  . simp only [Option.map_eq_some_iff] at hr
    obtain ⟨cs, hcs, rfl⟩ := hr
    exact ⟨_, rfl, rfl⟩
  . split at hr
    . cases hr; exact ⟨m, rfl, rfl⟩
    . cases hr
theorem renL_reps {n : Nat} {L : List Nat} {xs ys : List PV} {vs : List Value} (h : Reps Γ ρ xs vs) (hr : renL n L xs = some ys) : Reps Γ (renR n L ρ) ys vs :=
  ⟨by rw [renL_len hr]; exact h.1, fun j y v hy hv => by
    obtain ⟨x, hx, e⟩ := renL_get hr hy
    exact (h.2 j x v hx hv).ren e⟩
theorem Post.rename {Γ0 : Sealed} {ρ0 : Ren} {σ0 : Store} {w0 : World} (h0 : Rel E 0 Γ0 ρ0 σ0 w0) (hp : Post 0 Γ0 ρ0 σ0 w0 Γ ρ σ w) (h : Rel E 0 Γ ρ σ w) {L : List Nat} {os : List Ob} {σ1 : Store}
    (hge : ∀ j ∈ L, σ0.length <= j) (hσ1 : renStore σ0.length L (σ.take σ0.length ++ os) = some σ1) :
    Post 0 Γ0 ρ0 σ0 w0 Γ (renR σ0.length L ρ) σ1 w := by
  have hlen0 : σ0.length <= σ.length := hp.len
  have hlow : ∀ id, id < σ0.length -> (σ.take σ0.length ++ os)[id]? = σ[id]? := fun id hid => by
    rw [List.getElem?_append_left (by simp only [List.length_take]; omega), List.getElem?_take, if_pos hid]
  have hkeep : ∀ id (m : Mem), id < σ0.length -> σ[id]? = some (.mem m) -> ∃ m1 : Mem, σ1[id]? = some (.mem m1) /\ m1.ice = m.ice := by
    intro id m hid hm
    obtain ⟨ob1, h1, h2⟩ := (renStore_get hσ1).1 _ ((hlow id hid).trans hm)
    obtain ⟨m1, rfl, h3⟩ := renOb_ice h2
    exact ⟨m1, h1, h3⟩
  refine { hp with le := ⟨hp.le.fix, fun id l hl => ?_⟩, blocks := fun id l hl => ?_, low := fun id hid => absurd hid (Nat.not_lt_zero id), lowS := fun id hid => absurd hid (Nat.not_lt_zero id), fresh := fun b o h1 h2 => ?_, len := ?_, ice := fun id m hm hi => ?_ }
  . obtain ⟨l', h1, h2⟩ := hp.le.ren id l hl
    exact ⟨l', (renR_old id (h0.id_lt hl)).trans h1, h2⟩
  . unfold renR at hl
    split at hl
    . exact hp.blocks id l hl
    . cases hq : L[id - σ0.length]? with
      | none => simp [hq] at hl
      | some id' =>
        rw [hq] at hl
        rcases hp.blocks id' l hl with ⟨l0, h1, h2⟩ | h1
        . have := h0.id_lt h1
          have := hge id' (List.mem_of_getElem? hq)
          omega
        . exact .inr h1
  . rcases hp.fresh b o h1 h2 with h3 | ⟨id, l, m, h3, h4, h5, h6⟩
    . exact .inl h3
    . obtain ⟨m1, d1, d2⟩ := hkeep id m (h0.id_lt h3) h5
      exact .inr ⟨id, l, m1, h3, h4, d1, d2.trans h6⟩
  . rw [(renStore_get (id := 0) hσ1).2]
    simp only [List.length_append, List.length_take]
    omega
  . obtain ⟨m', h1, h2⟩ := hp.ice id m hm hi
    obtain ⟨m1, d1, d2⟩ := hkeep id m' (List.getElem?_eq_some_iff.1 hm).1 h1
    exact ⟨m1, d1, d2.trans h2⟩
theorem setAll_len : ∀ (L : List Nat) (os : List Ob) (σ : Store), L.length <= os.length -> (setAll σ L os).length = σ.length + (os.length - L.length)
  | [], os, σ, h => by simp [setAll]
  | id :: L, [], σ, h => by simp at h
  | id :: L, o :: os, σ, h => by
    simp only [setAll]
    rw [setAll_len L os (σ.set id o) (by simpa using h)]
    simp
theorem setAll_out : ∀ (L : List Nat) (os : List Ob) (σ : Store) (id : Nat), id < σ.length -> ¬ id ∈ L -> (setAll σ L os)[id]? = σ[id]?
  | [], os, σ, id, h, hm => by simp only [setAll]; exact List.getElem?_append_left h
  | x :: L, [], σ, id, h, hm => rfl
  | x :: L, o :: os, σ, id, h, hm => by
    simp only [setAll]
    rw [List.mem_cons, not_or] at hm
    rw [setAll_out L os (σ.set x o) id (by simpa using h) hm.2, List.getElem?_set_ne (Ne.symm hm.1)]
theorem setAll_in : ∀ (L : List Nat) (os : List Ob) (σ : Store) (q id : Nat), L.Nodup -> L.length <= os.length -> (∀ x ∈ L, x < σ.length) -> L[q]? = some id -> (setAll σ L os)[id]? = os[q]?
  | [], os, σ, q, id, hn, hl, hlt, hq => by simp at hq
  | x :: L, [], σ, q, id, hn, hl, hlt, hq => by simp at hl
  | x :: L, o :: os, σ, q, id, hn, hl, hlt, hq => by
    simp only [setAll]
    obtain ⟨n1, n2⟩ := List.nodup_cons.1 hn
    cases q with
    | zero =>
      simp at hq
      subst hq
      have := hlt x List.mem_cons_self
      rw [setAll_out L os (σ.set x o) x (by simpa using this) n1]
      simp [this]
    | succ q =>
      have := setAll_in L os (σ.set x o) q id n2 (by simpa using hl) (fun y hy => by simpa using hlt y (List.mem_cons_of_mem _ hy)) (by simpa using hq)
      simpa using this
theorem setAll_new : ∀ (L : List Nat) (os : List Ob) (σ : Store) (j : Nat), L.length <= os.length -> (setAll σ L os)[σ.length + j]? = os[L.length + j]?
  | [], os, σ, j, hl => by simp only [setAll, List.length_nil, Nat.zero_add]; rw [List.getElem?_append_right (by omega), Nat.add_sub_cancel_left]
  | x :: L, [], σ, j, hl => by simp at hl
  | x :: L, o :: os, σ, j, hl => by
    simp only [setAll]
    have := setAll_new L os (σ.set x o) j (by simpa using hl)
    rw [List.length_set] at this
    rw [this, List.length_cons, show L.length + 1 + j = L.length + j + 1 from by omega, List.getElem?_cons_succ]
theorem backL_old {L : List Nat} {n k new id : Nat} (h : id < n) : (backL L n k new)[id]? = some ((placeN id L 0).getD (k + new)) := by
  unfold backL
  rw [List.getElem?_append_left (by simpa using h)]
  simp [h]
theorem backL_new {L : List Nat} {n k new id : Nat} (h : n <= id) : (backL L n k new)[id]? = if id - n < new then some (k + (id - n)) else none := by
  unfold backL
  rw [List.getElem?_append_right (by simpa using h)]
  simp only [List.length_map, List.length_range, List.getElem?_map]
  split
  . rename_i h1; simp [h1]
  . rename_i h1; simp [h1]
theorem reach_lt {σ : Store} {L : List Nat} {os : List Ob} (h : pickObs σ L = some os) : ∀ x ∈ L, x < σ.length := by
  intro x hx
  obtain ⟨q, hq⟩ := List.getElem?_of_mem hx
  obtain ⟨ob, _, h2⟩ := (pickObs_get (q := q) h).2 x hq
  exact (List.getElem?_eq_some_iff.1 h2).1
theorem back_ok (hE : E.Ok) (h : Rel E fl Γ ρ σ w) (hfl : fl <= σ.length) {L : List Nat} (hnd : L.Nodup) (hge : ∀ x ∈ L, fl <= x) {os : List Ob} (hos : pickObs σ L = some os) {σs : Store} (hσs : renStore 0 L os = some σs)
    {v p : PV} {r : Value} {Γ1 : Sealed} {ρ2 : Ren} {σ2 σ3 : Store} {w1 : World} (hv : Rep Γ1 ρ2 v r) (h2 : Rel E 0 Γ1 ρ2 σ2 w1) (hp : Post 0 Γ (renR 0 L ρ) σs w Γ1 ρ2 σ2 w1)
    (hpv : renV 0 (backL L σ.length L.length (σ2.length - L.length)) v = some p) (hσ3 : renStore 0 (backL L σ.length L.length (σ2.length - L.length)) σ2 = some σ3) :
    Moves E fl Γ ρ σ w p (setAll σ L σ3) r w1 := by
  have hos_len := (pickObs_get (q := 0) hos).1
  have hσs_len : σs.length = L.length := by rw [(renStore_get (id := 0) hσs).2, hos_len]
  have hk : L.length <= σ2.length := by have := hp.len; omega
  have hσ3_len : σ3.length = σ2.length := (renStore_get (id := 0) hσ3).2
  have hk3 : L.length <= σ3.length := by omega
  have hlt := reach_lt hos
  have hs0 : ∀ q, renR 0 L ρ q = (L[q]?).bind ρ := fun q => by simp [renR]
  have hs : ∀ q l, renR 0 L ρ q = some l -> ∃ id, L[q]? = some id /\ ρ id = some l := fun q l hq => by
    rw [hs0] at hq
    cases e : L[q]? with
    | none => simp [e] at hq
    | some id => exact ⟨id, rfl, by simpa [e] using hq⟩
  have hplace : ∀ q id, L[q]? = some id -> placeN id L 0 = some q := fun q id hq => by
    cases e : placeN id L 0 with
    | none => exact absurd hq (placeN_none L id 0 e q)
    | some q' =>
      obtain ⟨q2, e1, e2⟩ := placeN_ok L id 0 q' e
      have k1 := (List.getElem?_eq_some_iff.1 hq).1
      have := (List.getElem?_inj k1 hnd).1 (hq.trans e2.symm)
      rw [e1, this, Nat.zero_add]
  generalize hB : backL L σ.length L.length (σ2.length - L.length) = B at hpv hσ3
  have hb0 : ∀ id, renR 0 B ρ2 id = (B[id]?).bind ρ2 := fun q => by simp [renR]
  have hnone : ∀ q, σ2.length <= q -> ρ2 q = none := fun q hq => by
    cases e : ρ2 q with
    | none => rfl
    | some l => have := h2.id_lt e; omega
  have hbIn : ∀ q id, L[q]? = some id -> renR 0 B ρ2 id = ρ2 q := fun q id hq => by
    rw [hb0, <- hB, backL_old (hlt id (List.mem_of_getElem? hq)), hplace q id hq]
    rfl
  have hbOut : ∀ id, id < σ.length -> ¬ id ∈ L -> renR 0 B ρ2 id = none := fun id h1 h2' => by
    rw [hb0, <- hB, backL_old h1]
    cases e : placeN id L 0 with
    | none => exact hnone _ (by simp only [Option.getD_none]; omega)
    | some q =>
      obtain ⟨q2, _, e2⟩ := placeN_ok L id 0 q e
      exact absurd (List.mem_of_getElem? e2) h2'
  have hbAll : ∀ id l, renR 0 B ρ2 id = some l -> ∃ q, ρ2 q = some l /\ ((q < L.length /\ L[q]? = some id) ∨ (L.length <= q /\ id = σ.length + (q - L.length))) := by
    intro id l hl
    by_cases h1 : id < σ.length
    . by_cases h3 : id ∈ L
      . obtain ⟨q, hq⟩ := List.getElem?_of_mem h3
        rw [hbIn q id hq] at hl
        exact ⟨q, hl, .inl ⟨(List.getElem?_eq_some_iff.1 hq).1, hq⟩⟩
      . rw [hbOut id h1 h3] at hl; cases hl
    . rw [hb0, <- hB, backL_new (by omega)] at hl
      split at hl
      . exact ⟨L.length + (id - σ.length), hl, .inr ⟨by omega, by omega⟩⟩
      . cases hl
  have hget : ∀ q id, ((q < L.length /\ L[q]? = some id) ∨ (L.length <= q /\ id = σ.length + (q - L.length))) -> (setAll σ L σ3)[id]? = σ3[q]? := by
    rintro q id (⟨_, hq⟩ | ⟨hq, rfl⟩)
    . exact setAll_in L σ3 σ q id hnd hk3 hlt hq
    . rw [setAll_new L σ3 σ _ hk3, show L.length + (q - L.length) = q from by omega]
  let ρ3 : Ren := fun id => if id < σ.length /\ ¬ id ∈ L then ρ id else renR 0 B ρ2 id
  have h3o : ∀ id, id < σ.length -> ¬ id ∈ L -> ρ3 id = ρ id := fun id h1 h2' => if_pos ⟨h1, h2'⟩
  have h3i : ∀ id, id ∈ L -> ρ3 id = renR 0 B ρ2 id := fun id h1 => if_neg fun e => e.2 h1
  have h3 : ∀ id l, ρ3 id = some l -> (id < σ.length /\ ¬ id ∈ L /\ ρ id = some l) ∨ ∃ q, ρ2 q = some l /\ ((q < L.length /\ L[q]? = some id) ∨ (L.length <= q /\ id = σ.length + (q - L.length))) := by
    intro id l hl
    by_cases hc : id < σ.length /\ ¬ id ∈ L
    . exact .inl ⟨hc.1, hc.2, by rw [<- h3o id hc.1 hc.2]; exact hl⟩
    . refine .inr (hbAll id l ?_)
      rw [<- hl]
      exact (if_neg hc).symm
  have leB : Le Γ1 (renR 0 B ρ2) Γ1 ρ3 := by
    refine ⟨fun _ _ _ h => h, fun id l hl => ⟨l, ?_, .inl rfl⟩⟩
    by_cases hc : id < σ.length /\ ¬ id ∈ L
    . rw [hbOut id hc.1 hc.2] at hl; cases hl
    . exact (if_neg hc).trans hl
  have leR : Le Γ ρ Γ1 ρ3 := by
    refine ⟨hp.le.fix, fun id l hl => ?_⟩
    by_cases hm : id ∈ L
    . obtain ⟨q, hq⟩ := List.getElem?_of_mem hm
      obtain ⟨l', e1, e2⟩ := hp.le.ren q l (by rw [hs0, hq]; exact hl)
      exact ⟨l', by rw [h3i id hm, hbIn q id hq]; exact e1, e2⟩
    . exact ⟨l, (h3o id (h.id_lt hl) hm).trans hl, .inl rfl⟩
  have hout : ∀ id l q l', ρ id = some l -> ¬ id ∈ L -> renR 0 L ρ q = some l' -> l'.block ≠ l.block := fun id l q l' hl hm hq e => by
    obtain ⟨i', e1, e2⟩ := hs q l' hq
    have := h.inj i' id l' l e2 hl e
    subst this
    exact hm (List.mem_of_getElem? e1)
  have hframe : ∀ id l, ρ id = some l -> ¬ id ∈ L -> w1.heap[l.block]? = w.heap[l.block]? := fun id l hl hm =>
    hp.frame l.block (h.block_lt hl) fun q l' hq e => absurd e (hout id l q l' hl hm hq)
  have hmem : ∀ q l, ρ2 q = some l -> ∃ m0 m1 : Ob, σ2[q]? = some m0 /\ σ3[q]? = some m1 /\ (∀ n1 : Mem, m1 = .mem n1 -> ∃ n0 : Mem, m0 = .mem n0 /\ n1.ice = n0.ice) /\ ObOk Γ1 ρ3 w1 l m1 := by
    intro q l hl
    obtain ⟨m0, e1, e2⟩ := h2.mem q l hl
    obtain ⟨ob1, e3, e4⟩ := (renStore_get hσ3).1 _ e1
    obtain ⟨e5, e6⟩ := renOb_any e2 e4
    exact ⟨m0, ob1, e1, e3, e6, e5.move leB rfl⟩
  have hblk : ∀ q l id l', ρ2 q = some l -> ρ id = some l' -> ¬ id ∈ L -> l.block ≠ l'.block := fun q l id l' hq hl hm e => by
    rcases hp.blocks q l hq with ⟨l0, e1, e2⟩ | e1
    . exact hout id l' q l0 hl hm e1 (e2.trans e)
    . have := h.block_lt hl; omega
  have hiceS : ∀ (q id : Nat) (m : Mem), L[q]? = some id -> σ[id]? = some (.mem m) -> ∃ ms : Mem, σs[q]? = some (.mem ms) /\ ms.ice = m.ice := by
    intro q id m hq hm
    obtain ⟨ob, e1, e2⟩ := (pickObs_get (q := q) hos).2 id hq
    rw [hm] at e2
    cases e2
    obtain ⟨ob1, e3, e4⟩ := (renStore_get hσs).1 _ e1
    obtain ⟨m1, rfl, e5⟩ := renOb_ice e4
    exact ⟨m1, e3, e5⟩
  have hice3 : ∀ (q : Nat) (m : Mem), σ2[q]? = some (.mem m) -> ∃ m1 : Mem, σ3[q]? = some (.mem m1) /\ m1.ice = m.ice := by
    intro q m hm
    obtain ⟨ob1, e3, e4⟩ := (renStore_get hσ3).1 _ hm
    obtain ⟨m1, rfl, e5⟩ := renOb_ice e4
    exact ⟨m1, e3, e5⟩
  refine ⟨Γ1, ρ3, (hv.ren hpv).mono leB, ⟨h2.fix, fun id l hl => ?_, fun id l m hl hid hm hi o => ?_, fun i j li lj hi hj hb => ?_, fun g cells hg => ?_, h.rock.move h.glob hp.le.fix (fun b hb hn => ?_) (fun b id l hb hn hl => ?_)⟩, ?_⟩
  . rcases h3 id l hl with ⟨e1, e2, e3⟩ | ⟨q, e1, e2⟩
    . obtain ⟨m, e4, e5⟩ := h.mem id l e3
      exact ⟨_, (setAll_out L σ3 σ id e1 e2).trans e4, e5.move leR (hframe id l e3 e2)⟩
    . obtain ⟨m0, m1, _, e3, _, e4⟩ := hmem q l e1
      exact ⟨_, (hget q id e2).trans e3, e4⟩
  . rcases h3 id l hl with ⟨e1, e2, e3⟩ | ⟨q, e1, e2⟩
    . rw [setAll_out L σ3 σ id e1 e2] at hm
      have h0 := h.apart id l m e3 hid hm hi o
      cases hg : Γ1 l.block o with
      | none => rfl
      | some x =>
        rcases hp.fresh l.block o h0 (by simp [hg]) with e4 | ⟨q, l', m', e4, e5, _⟩
        . have := h.block_lt e3; omega
        . exact absurd e5 (hout id l q l' e3 e2 e4)
    . obtain ⟨m0, m1, e3, e4, e5, _⟩ := hmem q l e1
      rw [hget q id e2, e4] at hm
      cases hm
      obtain ⟨n0, rfl, e6⟩ := e5 m rfl
      exact h2.apart q l n0 e1 (Nat.zero_le q) e3 (by rw [<- e6]; exact hi) o
  . rcases h3 i li hi with ⟨e1, e2, e3⟩ | ⟨q, e1, e2⟩
    . rcases h3 j lj hj with ⟨d1, d2, d3⟩ | ⟨q', d1, d2⟩
      . exact h.inj i j li lj e3 d3 hb
      . exact absurd hb.symm (hblk q' lj i li d1 e3 e2)
    . rcases h3 j lj hj with ⟨d1, d2, d3⟩ | ⟨q', d1, d2⟩
      . exact absurd hb (hblk q li j lj e1 d3 d2)
      . have := h2.inj q q' li lj e1 d1 hb
        subst this
        rcases e2 with ⟨e4, e5⟩ | ⟨e4, e5⟩ <;> rcases d2 with ⟨d4, d5⟩ | ⟨d4, d5⟩
        . rw [e5] at d5; exact Option.some.inj d5
        . omega
        . omega
        . omega
  . obtain ⟨vs, hvs⟩ := h2.glob g cells hg
    exact ⟨vs, fun j x hx => ⟨(hvs j x hx).1, (hvs j x hx).2.1, (hvs j x hx).2.2.old (n := 0) (fun id hid => absurd hid (Nat.not_lt_zero id)) (oldL_get (hE.glob g cells hg) hx)⟩⟩
  . exact hp.frame b hb fun q l hq e => by
      obtain ⟨id, _, e2⟩ := hs q l hq
      exact absurd e (hn id l e2)
  . rcases h3 id l hl with ⟨e1, e2, e3⟩ | ⟨q, e1, e2⟩
    . exact hn id l e3
    . rcases hp.blocks q l e1 with ⟨l0, e3, e4⟩ | e3
      . obtain ⟨id', _, e5⟩ := hs q l0 e3
        rw [<- e4]
        exact hn id' l0 e5
      . omega
  . refine ⟨leR, fun id l hl => ?_, fun id hid => ?_, fun id hid => ?_, fun b o e1 e2 => ?_, fun b hb hn => ?_, hp.size, hp.os, hp.tape, hp.output, ?_, fun id m hm hi => ?_⟩
    . rcases h3 id l hl with ⟨e1, e2, e3⟩ | ⟨q, e1, e2⟩
      . exact .inl ⟨l, e3, rfl⟩
      . rcases hp.blocks q l e1 with ⟨l0, e3, e4⟩ | e3
        . obtain ⟨id', e5, e6⟩ := hs q l0 e3
          have : id' = id := by
            have := (List.getElem?_eq_some_iff.1 e5).1
            rcases e2 with ⟨_, d2⟩ | ⟨d1, _⟩
            . rw [e5] at d2; exact Option.some.inj d2
            . omega
          subst this
          exact .inl ⟨l0, e6, e4⟩
        . exact .inr e3
    . exact h3o id (by omega) fun hm => by have := hge id hm; omega
    . rw [setAll_out L σ3 σ id (by omega) fun hm => by have := hge id hm; omega]
      exact .refl _
    . rcases hp.fresh b o e1 e2 with e3 | ⟨q, l, m, e3, e4, e5, e6⟩
      . exact .inl e3
      . obtain ⟨id, d1, d2⟩ := hs q l e3
        obtain ⟨m1, d3, d4⟩ := hice3 q m e5
        exact .inr ⟨id, l, m1, d2, e4, (hget q id (.inl ⟨(List.getElem?_eq_some_iff.1 d1).1, d1⟩)).trans d3, d4.trans e6⟩
    . exact hp.frame b hb fun q l hq e => by
        obtain ⟨id, d1, d2⟩ := hs q l hq
        have := hn id l d2 e
        have := hge id (List.mem_of_getElem? d1)
        omega
    . rw [setAll_len L σ3 σ hk3]
      exact Nat.le_add_right _ _
    . by_cases hm' : id ∈ L
      . obtain ⟨q, hq⟩ := List.getElem?_of_mem hm'
        obtain ⟨ms, e1, e2⟩ := hiceS q id m hq hm
        obtain ⟨m2, e3, e4⟩ := hp.ice q ms e1 (e2.trans hi)
        obtain ⟨m3, e5, e6⟩ := hice3 q m2 e3
        exact ⟨m3, (hget q id (.inl ⟨(List.getElem?_eq_some_iff.1 hq).1, hq⟩)).trans e5, e6.trans e4⟩
      . exact ⟨m, (setAll_out L σ3 σ id (List.getElem?_eq_some_iff.1 hm).1 hm').trans hm, hi⟩
theorem foot_ok (hE : E.Ok) {rec : Rec} (hrec : SoundRec E rec) (h : Rel E fl Γ ρ σ w) (hfl : fl <= σ.length) {f : FuncId} {args : List PV} {vs : List Value} {p : PV} {σ' : Store}
    (hc : footA rec fl σ f args = some (p, σ')) (hr : Reps Γ ρ args vs) :
    Calls E.P f vs.toArray w fun e w' => ∃ r, e = .returned r /\ Moves E fl Γ ρ σ w p σ' r w' := by
  unfold footA at hc
  revert hc
  generalize reach σ args = L
  intro hc
  split at hc
  . rename_i hg
    rw [Bool.and_eq_true] at hg
    have hnd := nodupN_ok L hg.1
    have hge : ∀ x ∈ L, fl <= x := fun x hx => Nat.le_of_ble_eq_true (List.all_eq_true.1 hg.2 x hx)
    split at hc
    . rename_i os hos
      split at hc
      . rename_i as σs has hσs
        split at hc
        . rename_i v2 σ2 hfr
          split at hc
          . rename_i p' σ3 hp' hσ3
            cases hc
            unfold footR at hfr
            split at hfr
            . rename_i v σ1 hv1
              split at hfr
              . rename_i hlen
                have hR : Rel E 0 Γ (renR 0 L ρ) σs w := h.rename hE (n := 0) (fl' := 0) hnd (fun _ _ => Nat.zero_le _) (Nat.zero_le _) hos (by simpa using hσs) (fun id _ hid => absurd hid (Nat.not_lt_zero id)) hge
                refine (hrec f as σs 0 v σ1 hv1 (Nat.zero_le _) Γ _ w vs hR (renL_reps hr has)).mono fun e w' he => ?_
                obtain ⟨r, rfl, Γ1, ρ1, m1, m2, m3⟩ := he
                refine ⟨r, rfl, ?_⟩
                unfold footT at hfr
                have hM := closeN_ok σs.length σ1 (idsV σs.length v ++ idsStore σs.length σs.length σ1)
                revert hfr hM
                generalize closeN σs.length σ1 (idsV σs.length v ++ idsStore σs.length σs.length σ1) = M
                intro hfr hM
                have hMge : ∀ j ∈ M, σs.length <= j := fun j hj => by
                  rcases hM.2 j hj with h1 | h1 | h1
                  . simp at h1
                  . rw [List.mem_append] at h1
                    exact h1.elim (idsV_ge v j) (idsStore_ge _ _ j)
                  . exact h1
                split at hfr
                . rename_i os1 hos1
                  split at hfr
                  . rename_i v3 σ4 hv3 hσ4
                    cases hfr
                    exact back_ok hE h hfl hnd hge hos hσs (m1.ren hv3) (m2.rename hE hM.1 hMge hlen hos1 hσ4 (fun id _ _ => Nat.zero_le _) (fun _ _ => Nat.zero_le _)) (m3.rename hR m2 hMge hσ4) hp' hσ3
                  . cases hfr
                . cases hfr
              . cases hfr
            . cases hfr
          . cases hc
        . cases hc
      . cases hc
    . cases hc
  . cases hc
end
end
section
section
variable {E : Env} {fl : Nat} {Γ : Sealed} {ρ : Ren} {σ : Store} {w : World}
theorem extA_ok (hE : E.Ok) (h : Rel E fl Γ ρ σ w) {f : FuncId} {x : Ext} (hf : E.ext f = some x) {args : List PV} {vs : List Value} {p : PV} (he : extA σ x args = some p) (hr : Reps Γ ρ args vs) :
    ∃ r, (callFunc f vs.toArray).run E.P w = .ok (.value r) w /\ Rep Γ ρ p r := by
  unfold extA at he
  split at he
  . rename_i a b
    obtain ⟨fn, f1, f2, f3, f4, f5⟩ := hE.ext f hf
    obtain ⟨v, ws, rfl, hx, hws⟩ := hr.inv_cons
    obtain ⟨u, us, rfl, hy, hus⟩ := hws.inv_cons
    rw [hus.inv_nil]
    split at he
    . rename_i xs ys n m hxs hys hn hm
      split at he
      . rename_i hlen
        split at he
        . rename_i bs cs hb hc
          cases he
          refine ⟨.int .i64 (cmpBytes bs cs), ?_, .int _ _⟩
          rw [run_callFunc_extern f1 f2 f3 f4 f5]
          have h1 := bytesOf_run h hxs hb (by rw [hn, hlen.1]) hx
          have h2 := bytesOf_run h hys hc (by rw [hm, hlen.2]) hy
          have e : Extern.BytealgCompare.compare [v, u].toArray = Extern.Bytes.bytesOf v >>= fun x => Extern.Bytes.bytesOf u >>= fun y => pure (Go.goInt (Extern.BytealgCompare.cmp x y)) := rfl
          rw [e]
          simp only [Sem.run_bind, h1, h2, Result.andThen_ok, Sem.run_pure]
          rw [Lib.cmp_eq, cmpBytes_eq]
          rfl
        . cases he
      . cases he
    . cases he
  . cases he
theorem run_callFunc_enter {P : Program} {f : FuncId} {fn : Func} (hf : P.funcs[f]? = some fn) (hn : (fn.name == "runtime.NumGoroutine" || fn.body.isNone) = false) (args : Array Value) (w : World) :
    (callFunc f args).run P w = .ok (.enter f args) w := by
  simp only [Bool.or_eq_false_iff] at hn
  have h1 : ¬ fn.name = "runtime.NumGoroutine" := by simpa using hn.1
  have h2 : ¬ fn.body = none := fun e => by rw [e] at hn; simp at hn
  simp [callFunc, hf, h1, h2]
theorem Rep.weakC {x : PV} {v : Value} (h : Rep Γ ρ x v) : Rep Γ ρ (weakC x) v := by
  unfold Am.weakC
  split
  . cases h with
    | sl a cap vs hn hc hx h hr => exact .sl a cap vs hn hc (fun c hc => by cases hc) h hr
    | slNil hx => exact .slNil fun c hc => by cases hc
  . exact h
theorem Rep.weakV {x : PV} {v : Value} (h : Rep Γ ρ x v) : Rep Γ ρ (weakV x) v := by
  unfold Am.weakV
  split
  . cases h with
    | agg hn hr =>
      refine .agg (by simpa using hn) fun j y u hy hu => ?_
      simp only [List.getElem?_map, Option.map_eq_some_iff] at hy
      obtain ⟨x, hx, rfl⟩ := hy
      exact (hr j x u hx hu).weakC
  . exact h.weakC
theorem Reps.viewArgs : ∀ (ts : List TypeId) {xs : List PV} {vs : List Value}, Reps Γ ρ xs vs -> Reps Γ ρ (viewArgs E ts xs) vs
  | t :: ts, x :: xs, vs, h => by
    obtain ⟨v, ws, rfl, h1, h2⟩ := h.inv_cons
    exact .cons (h1.viewV _).weakV (Reps.viewArgs ts h2)
  | [], xs, vs, h => by cases xs <;> exact h
  | t :: ts, [], vs, h => h
theorem Reps.weak {xs : List PV} {vs : List Value} (h : Reps Γ ρ xs vs) : Reps Γ ρ (xs.map weakV) vs := by
  refine ⟨by simpa using h.1, fun j y u hy hu => ?_⟩
  simp only [List.getElem?_map, Option.map_eq_some_iff] at hy
  obtain ⟨x, hx, rfl⟩ := hy
  exact (h.2 j x u hx hu).weakV
theorem Rep.norm {x : PV} {v : Value} (f : FuncId) (h : Rep Γ ρ x v) : Rep Γ ρ (normRes E f x) v := by
  unfold normRes
  cases hfn : E.P.funcs[f]? with
  | none => exact h
  | some fn =>
    simp only
    split
    . rename_i vs
      cases h with
      | @tup xs us hn hh =>
        have h1 : Reps Γ ρ vs us.toList := ⟨by simpa using hn, fun j x v hx hv => hh j x v hx (by simpa using hv)⟩
        have h2 := (h1.viewArgs (E := E) fn.resultTypes.toList).weak
        exact .tup (by simpa using h2.1) (fun j x v hx hv => h2.2 j x v hx (by simpa using hv))
    . split
      . exact (h.viewV _).weakV
      . exact h
theorem sealRes_ok (h : Rel E fl Γ ρ σ w) {x y : PV} {v : Value} {σ' : Store} (hs : sealRes σ x = some (y, σ')) (hr : Rep Γ ρ x v) : ∃ Γ', Rep Γ' ρ y v /\ Rel E fl Γ' ρ σ' w /\ Post fl Γ ρ σ w Γ' ρ σ' w := by
  unfold sealRes at hs
  split at hs
  . rename_i vs
    cases ha : sealArgs σ vs with
    | none => simp [ha] at hs
    | some q =>
      obtain ⟨as, σ1⟩ := q
      simp [ha] at hs
      obtain ⟨rfl, rfl⟩ := hs
      cases hr with
      | @tup xs us hn hh =>
        obtain ⟨Γ1, k1, k2, k3⟩ := sealArgs_ok h ha (vs := us.toList) ⟨by simpa using hn, fun j x v hx hv => hh j x v hx (by simpa using hv)⟩
        exact ⟨Γ1, .tup (by simpa using k1.1) (fun j x v hx hv => k1.2 j x v hx (by simpa using hv)), k2, k3⟩
  . exact sealV_ok h hs hr
theorem apartA_ok (hE : E.Ok) {rec : Rec} (hrec : SoundRec E rec) {f : FuncId} {args : List PV} {r : PV} (h : apartA E rec f args = some r) :
    ∃ σ2, oldV 0 r = true /\ ∀ (Γ : Sealed) (w : World) (vs : List Value), Rel E 0 Γ (fun _ => none) [] w -> Reps Γ (fun _ => none) args vs ->
      Calls E.P f vs.toArray w fun e w' => ∃ v, e = .returned v /\ Moves E 0 Γ (fun _ => none) [] w r σ2 v w' := by
  unfold apartA at h
  split at h
  . rename_i q hq
    cases h
    obtain ⟨h1, h2⟩ := hE.pure f args r hq
    exact ⟨[], h1, h2⟩
  split at h
  . rename_i v σ1 hv
    split at h
    . rename_i r' σ2 hs
      split at h
      . rename_i ho
        cases h
        refine ⟨σ2, ho, fun Γ w vs hR hr => (hrec f args [] 0 v σ1 hv (Nat.le_refl _) Γ (fun _ => none) w vs hR hr).mono fun e w' he => ?_⟩
        obtain ⟨u, e1, Γ1, ρ1, m1, m2, m3⟩ := he
        obtain ⟨Γ2, k1, k2, k3⟩ := sealRes_ok m2 hs m1
        exact ⟨u, e1, Γ2, ρ1, k1.norm f, k2, m3.trans k3⟩
      . cases h
    . cases h
  . cases h
theorem peek_ok (h : Rel E fl Γ ρ σ w) {Γ1 : Sealed} {p : PV} {σ2 : Store} {r : Value} {w1 : World} (hm : Moves E 0 Γ1 (fun _ => none) [] w p σ2 r w1) (hs : scalV p = true) : Moves E fl Γ ρ σ w p σ r w1 := by
  obtain ⟨Γ2, ρ2, hr, _, hp⟩ := hm
  have hheap : ∀ b, b < w.heap.size -> w1.heap[b]? = w.heap[b]? := fun b hb => hp.frame b hb fun id l hl => by cases hl
  refine ⟨Γ, ρ, ?_, h.world hheap, { Post.refl fl Γ ρ σ w with frame := fun b hb _ => hheap b hb, size := hp.size, os := hp.os, tape := hp.tape, output := hp.output }⟩
  cases hr <;> first | (cases hs; done) | constructor
theorem callA_ok (hE : E.Ok) {rec : Rec} (hrec : SoundRec E rec) (h : Rel E fl Γ ρ σ w) (hfl : fl <= σ.length) {o : Oper} {a : Act} {f : FuncId} {args : List PV} {vs : List Value} {p : PV} {σ' : Store}
    (hc : callA E rec fl σ f args = some (p, σ')) (hr : Reps Γ ρ args vs) (ho : ∀ w, (execOp a.eval o).run E.P w = (callFunc f vs.toArray).run E.P w) :
    StepOk E.P o a w (Moves E fl Γ ρ σ w p σ') := by
  unfold callA at hc
  split at hc
  . rename_i x hx
    cases he : extA σ x args with
    | none => simp [he] at hc
    | some q =>
      simp [he] at hc
      obtain ⟨rfl, rfl⟩ := hc
      obtain ⟨r, h1, h2⟩ := extA_ok hE h hx he hr
      exact StepOk.value ((ho w).trans h1) (Moves.stay h h2)
  . split at hc
    . rename_i fn hfn
      split at hc
      . cases hc
      . rename_i hn
        have hn' : (fn.name == "runtime.NumGoroutine" || fn.body.isNone) = false := by rw [<- Bool.not_eq_true]; exact hn
        have hent := run_callFunc_enter hfn hn' vs.toArray w
        split at hc
        . split at hc
          . rename_i as σ1 has
            split at hc
            . rename_i hold
              cases hq : apartA E rec f (viewArgs E fn.params.toList as) with
              | none => simp [hq] at hc
              | some q =>
                simp [hq] at hc
                obtain ⟨rfl, rfl⟩ := hc
                obtain ⟨Γ1, k1, k2, k3⟩ := sealPA_ok h has hr
                obtain ⟨σ2, q1, q2⟩ := apartA_ok hE hrec hq
                refine StepOk.enter ((ho w).trans hent) ((q2 Γ1 w vs (k2.bare hE) ((k1.viewArgs _).old (n := 0) (fun id hid => absurd hid (Nat.not_lt_zero id)) hold)).mono fun e w' he => ?_)
                obtain ⟨r, e1, hm⟩ := he
                cases hpk : E.seals f && scalV q with
                | false =>
                  have e2 : pickS (E.seals f) q σ σ1 = σ1 := by unfold pickS; rw [hpk]; rfl
                  rw [e2]
                  obtain ⟨Γ', ρ', m1, m2, m3⟩ := bare_ok k2 hm q1
                  exact ⟨r, e1, Γ', ρ', m1, m2, k3.trans m3⟩
                | true =>
                  have e2 : pickS (E.seals f) q σ σ1 = σ := by unfold pickS; rw [hpk]; rfl
                  rw [e2]
                  exact ⟨r, e1, peek_ok h hm (by simp only [Bool.and_eq_true] at hpk; exact hpk.2)⟩
            . cases hc
          . cases hc
        . split at hc
          . exact StepOk.enter ((ho w).trans hent) (foot_ok hE hrec h hfl hc hr)
          . split at hc
            . split at hc
              . rename_i as σ1 has
                obtain ⟨Γ1, k1, k2, k3⟩ := sealArgs_ok h has hr
                split at hc
                . rename_i q hq
                  cases hc
                  unfold cloneA at hq
                  split at hq
                  . rename_i es cells es' n xc hes
                    split at hq
                    . rename_i hcc
                      obtain ⟨rfl, c2, c3⟩ := hcc
                      obtain ⟨v, ws, rfl, hv, hws⟩ := k1.inv_cons
                      rw [hws.inv_nil] at hent ho
                      refine StepOk.enter ((ho w).trans hent) ((hE.clone f es hes cells n xc fl Γ1 ρ σ1 w v k2 (Nat.le_trans hfl k3.len) hv c2 c3).mono fun e w' he => ?_)
                      obtain ⟨r, e1, Γ', ρ', m1, m2, m3⟩ := he
                      have e2 : cloneR cells es n σ1 = (p, σ') := Option.some.inj hq
                      rw [e2] at m1 m2 m3
                      exact ⟨r, e1, Γ', ρ', m1, m2, k3.trans m3⟩
                    . cases hq
                  . cases hq
                refine StepOk.enter ((ho w).trans hent) ((hrec f as σ1 fl p σ' hc (Nat.le_trans hfl k3.len) Γ1 ρ w vs k2 k1).mono fun e w' he => ?_)
                obtain ⟨r, e1, Γ', ρ', m1, m2, m3⟩ := he
                exact ⟨r, e1, Γ', ρ', m1, m2, k3.trans m3⟩
              . cases hc
            . exact StepOk.enter ((ho w).trans hent) (hrec f args σ fl p σ' hc hfl Γ ρ w vs h hr)
    . cases hc
theorem evalOpt_ok {ev : Operand -> Option PV} {a : Act} (he : EnvOk Γ ρ ev a) {x : Option Operand} {p : Option PV} (h : evalOpt ev x = some p) : RepOpt Γ ρ p (x.map a.eval) := by
  cases x with
  | none => cases h; trivial
  | some x =>
    simp only [evalOpt, Option.map_eq_some_iff] at h
    obtain ⟨q, hq, rfl⟩ := h
    exact he x q hq
set_option maxHeartbeats 1000000 in
theorem memA_ok (hE : E.Ok) {rec : Rec} (hrec : SoundRec E rec) (h : Rel E fl Γ ρ σ w) (hfl : fl <= σ.length) {o : Oper} {a : Act} {ev : Operand -> Option PV} (he : EnvOk Γ ρ ev a) {p : PV} {σ' : Store}
    (hm : memA E rec fl ev σ o.op = some (p, σ')) : StepOk E.P o a w (Moves E fl Γ ρ σ w p σ') := by
  unfold memA at hm
  split at hm
  case h_1 =>
    rename_i t ho
    split at hm
    . rename_i z hz
      cases hm
      obtain ⟨i, zv, hi, hzv, hrz, h1⟩ := zeroT_rep (Γ := Γ) (ρ := ρ) hz
      have := newObj_ok h hfl hrz.cells h1 t
      refine StepOk.value (r := .pointer (some ⟨w.heap.size, 0, none⟩)) (w' := w.alloc (.cells zv.cells t)) ?_ this
      simp [execOp, ho, Instr.alloc, zeroValue, typeInfo, hi, hzv, newVar, newRow]
    . cases hm
  case h_2 =>
    rename_i t x ho
    split at hm
    . rename_i v hv
      split at hm
      . rename_i h1
        cases hm
        have hr := he x v hv
        have := newObj_ok h hfl hr.cells h1 t
        refine StepOk.value (r := .pointer (some ⟨w.heap.size, 0, none⟩)) (w' := w.alloc (.cells (a.eval x).cells t)) ?_ this
        simp [execOp, ho, Instr.box, newVar, newRow]
      . cases hm
    . cases hm
  case h_3 =>
    rename_i t n parts ho
    split at hm
    . rename_i ps hps
      obtain ⟨r, w', h1, h2⟩ := buildSliceA_ok h hm (evalParts_ok he hps)
      refine StepOk.value ?_ h2
      have e : (parts.map fun (i, x) => (i, a.eval x)) = (parts.toList.map fun (i, x) => (i, a.eval x)).toArray := by apply Array.ext'; simp
      simp only [execOp, ho]
      rw [e]
      simp [h1]
    . cases hm
  case h_4 =>
    rename_i t x ho
    split at hm
    . rename_i ad hx
      cases hl : loadAt E σ t ad with
      | none => simp [hl] at hm
      | some q =>
        simp [hl] at hm
        obtain ⟨rfl, rfl⟩ := hm
        obtain ⟨r, h1, ⟨ad', e1, e2⟩, _⟩ := loadAt_ok h hl (he x _ hx)
        refine StepOk.value (r := r) (w' := w) ?_ (Moves.stay h h1)
        simp [execOp, ho, e1, run_loadAt e2]
    . cases hm
  case h_5 =>
    rename_i t x y ho
    split at hm
    . rename_i ad v hx hy
      cases hs : storeAt E fl σ t ad v with
      | none => simp [hs] at hm
      | some σ1 =>
        simp [hs] at hm
        obtain ⟨rfl, rfl⟩ := hm
        obtain ⟨w', ρ', h1, h2, h3⟩ := storeAt_ok h hs (he x _ hx) (he y _ hy)
        refine StepOk.skip (w' := w') ?_ ⟨Γ, ρ', .tup (vs := #[]) rfl (fun j x v hx => by simp at hx), h2, h3⟩
        simp [execOp, ho, h1]
    . cases hm
  case h_6 =>
    rename_i s d x ho
    split at hm
    . rename_i v hx
      cases hc : convA E σ s d v with
      | none => simp [hc] at hm
      | some q =>
        simp [hc] at hm
        obtain ⟨rfl, rfl⟩ := hm
        obtain ⟨r, w', h1, h2⟩ := convA_ok h hc (he x _ hx)
        exact StepOk.value (by simp [execOp, ho, h1]) h2
    . cases hm
  case h_7 =>
    rename_i t x lo hi mx ho
    split at hm
    . rename_i v lo' hi' mx' hx hlo hhi hmx
      cases hc : sliceA E σ t v lo' hi' mx' with
      | none => simp [hc] at hm
      | some q =>
        simp [hc] at hm
        obtain ⟨rfl, rfl⟩ := hm
        obtain ⟨r, h1, h2⟩ := sliceA_ok h hc (he x _ hx) (evalOpt_ok he hlo) (evalOpt_ok he hhi) (evalOpt_ok he hmx)
        exact StepOk.value (w' := w) (by simp [execOp, ho, h2]) (Moves.stay h h1)
    . cases hm
  case h_8 =>
    rename_i t l c ho
    split at hm
    . rename_i l' c' hl hc
      obtain ⟨r, w', h1, h2⟩ := makeSliceA_ok h hfl hm (he l _ hl) (he c _ hc)
      exact StepOk.value (by simp [execOp, ho, h1]) h2
    . cases hm
  case h_9 =>
    rename_i c ho
    split at hm
    . rename_i args hargs
      have hr := evalAll_ok he hargs
      split at hm
      . rename_i b hcal
        obtain ⟨r, w', h1, h2⟩ := builtinA_ok (type := o.type) (consts := c.args.map fun | .const _ => true | _ => false) hE h hfl hm hr
        refine StepOk.value ?_ h2
        have e : c.args.map a.eval = (c.args.toList.map a.eval).toArray := by apply Array.ext'; simp
        simp only [execOp, ho, resolve, hcal, Sem.run_bind, Sem.run_pure, Result.andThen_ok, invoke]
        rw [e]
        exact h1
      . rename_i f hcal
        split at hm
        . rename_i g first captured hf
          have hfv := he f _ hf
          generalize hg : a.eval f = vf at hfv
          cases hfv with
          | fn fnn hn hmm hr1 hr2 =>
            rename_i vfirst vcap
            have r1 : Reps Γ ρ first vfirst.toList := ⟨by simpa using hn, fun j x v hx hv => hr1 j x v hx (by simpa using hv)⟩
            have r2 : Reps Γ ρ captured vcap.toList := ⟨by simpa using hmm, fun j x v hx hv => hr2 j x v hx (by simpa using hv)⟩
            refine callA_ok hE hrec h hfl hm ((r1.append hr).append r2) fun w => ?_
            have e : vfirst ++ c.args.map a.eval ++ vcap = (vfirst.toList ++ c.args.toList.map a.eval ++ vcap.toList).toArray := by apply Array.ext'; simp
            simp only [execOp, ho, resolve, hcal, hg, Deferred.ofValue, Sem.run_bind, Sem.run_pure, Result.andThen_ok, invoke]
            rw [e]
        . cases hm
      . cases hm
    . cases hm
  case h_10 =>
    rename_i t r ho
    split at hm
    . rename_i kt hk hr
      cases hm
      have := evalOpt_ok he hr
      obtain ⟨u, w', h1, h2⟩ := makeMapA_ok h hfl hk this (.inl rfl)
      exact StepOk.value (by simp [execOp, ho, h1]) h2
    . rename_i kt k n hk hr
      cases hm
      have := evalOpt_ok he hr
      obtain ⟨u, w', h1, h2⟩ := makeMapA_ok h hfl hk this (.inr ⟨_, _, rfl⟩)
      exact StepOk.value (by simp [execOp, ho, h1]) h2
    . cases hm
  case h_11 =>
    rename_i t x k ok ho
    split at hm
    . rename_i xv kv hx hk
      cases hl : lookA E σ t xv kv ok with
      | none => simp [hl] at hm
      | some q =>
        simp [hl] at hm
        obtain ⟨rfl, rfl⟩ := hm
        obtain ⟨r, h1, h2⟩ := lookA_ok hE h hl (he x _ hx) (he k _ hk)
        exact StepOk.value (w' := w) (by simp [execOp, ho, h1]) (Moves.stay h h2)
    . cases hm
  case h_12 =>
    rename_i t x k v ho
    split at hm
    . rename_i xv kv vv hx hk hv
      cases hu : updateA E fl σ t xv kv vv with
      | none => simp [hu] at hm
      | some q =>
        simp [hu] at hm
        obtain ⟨rfl, rfl⟩ := hm
        obtain ⟨w', h1, h2, h3⟩ := updateA_ok hE h hu (he x _ hx) (he k _ hk) (he v _ hv)
        refine StepOk.skip (w' := w') ?_ ⟨Γ, ρ, rep_none, h2, h3⟩
        simp [execOp, ho, h1]
    . cases hm
  case h_13 =>
    rename_i t x k v ho
    split at hm
    . rename_i xv kv vv hx hk hv
      cases hu : updateA E fl σ t xv kv vv with
      | none => simp [hu] at hm
      | some q =>
        simp [hu] at hm
        obtain ⟨rfl, rfl⟩ := hm
        obtain ⟨w', h1, h2, h3⟩ := updateA_ok hE h hu (he x _ hx) (he k _ hk) (he v _ hv)
        refine StepOk.skip (w' := w') ?_ ⟨Γ, ρ, rep_none, h2, h3⟩
        simp [execOp, ho, h1]
    . cases hm
  case h_14 =>
    rename_i t x k ho
    split at hm
    . rename_i xv kv hx hk
      obtain ⟨r, w', h1, h2⟩ := entryA_ok hE h hm (he x _ hx) (he k _ hk)
      exact StepOk.value (by simp [execOp, ho, h1]) h2
    . cases hm
  case h_15 =>
    rename_i t x b v ho
    split at hm
    . rename_i xv bv vv hx hb hv
      cases hu : entryStoreA fl σ xv bv vv with
      | none => simp [hu] at hm
      | some q =>
        simp [hu] at hm
        obtain ⟨rfl, rfl⟩ := hm
        obtain ⟨w', h1, h2, h3⟩ := entryStoreA_ok (E := E) (t := t) h hu (he x _ hx) (he b _ hb) (he v _ hv)
        refine StepOk.skip (w' := w') ?_ ⟨Γ, ρ, rep_none, h2, h3⟩
        simp [execOp, ho, h1]
    . cases hm
  case h_16 =>
    rename_i t x ho
    split at hm
    . rename_i xv hx
      obtain ⟨r, w', h1, h2⟩ := rangeA_ok h hfl hm (he x _ hx)
      exact StepOk.value (by simp [execOp, ho, h1]) h2
    . cases hm
  case h_17 =>
    rename_i x ho
    split at hm
    . rename_i xv hx
      obtain ⟨r, w', h1, h2⟩ := nextA_ok (ty := o.type) h hm (he x _ hx)
      exact StepOk.value (by simp [execOp, ho, h1]) h2
    . cases hm
  case h_18 =>
    rename_i x ho
    split at hm
    . rename_i xv hx
      cases hl : entryIterA σ xv with
      | none => simp [hl] at hm
      | some q =>
        simp [hl] at hm
        obtain ⟨rfl, rfl⟩ := hm
        obtain ⟨r, h1, h2⟩ := entryIterA_ok h hl (he x _ hx)
        exact StepOk.value (w' := w) (by simp [execOp, ho, h1]) (Moves.stay h h2)
    . cases hm
  case h_19 => cases hm
theorem stepA_ok (hE : E.Ok) {rec : Rec} (hrec : SoundRec E rec) (h : Rel E fl Γ ρ σ w) (hfl : fl <= σ.length) {o : Oper} {a : Act} {ev : Operand -> Option PV} (he : EnvOk Γ ρ ev a) {p : PV} {σ' : Store}
    (hm : stepA E rec fl ev σ o.op = some (p, σ')) : StepOk E.P o a w (Moves E fl Γ ρ σ w p σ') := by
  unfold stepA at hm
  split at hm
  . cases hp : pureA E ev o.op with
    | none => simp [hp] at hm
    | some q =>
      simp [hp] at hm
      obtain ⟨rfl, rfl⟩ := hm
      obtain ⟨r, h1, h2⟩ := pureA_ok hE he hp
      exact StepOk.value (h2 w) (Moves.stay h h1)
  . exact memA_ok hE hrec h hfl he hm
end
end
section
section
variable {E : Env} {fl : Nat} {Γ : Sealed} {ρ : Ren} {σ : Store} {w : World}
theorem sameIce_get : ∀ {σ σ' : Store} {id : Nat} {m m' : Mem}, sameIce σ σ' = true -> σ[id]? = some (.mem m) -> σ'[id]? = some (.mem m') -> m'.ice = m.ice /\ m'.box = m.box
  | [], σ', id, m, m', _, h, _ => by simp at h
  | .mem n :: σ, [], id, m, m', _, _, h => by simp at h
  | .map n :: σ, [], id, m, m', _, _, h => by simp at h
  | .mem n :: σ, .map n' :: σ', id, m, m', h, _, _ => by simp [sameIce] at h
  | .map n :: σ, .mem n' :: σ', id, m, m', h, _, _ => by simp [sameIce] at h
  | .mem n :: σ, .mem n' :: σ', 0, m, m', h, h1, h2 => by
    simp only [sameIce, Bool.and_eq_true, beq_iff_eq] at h
    simp at h1 h2
    subst h1 h2
    exact ⟨h.1.symm, h.2.1.symm⟩
  | .map n :: σ, .map n' :: σ', 0, m, m', h, h1, h2 => by simp at h1
  | .mem n :: σ, .mem n' :: σ', id + 1, m, m', h, h1, h2 => by
    simp only [sameIce, Bool.and_eq_true] at h
    exact sameIce_get h.2.2 (by simpa using h1) (by simpa using h2)
  | .map n :: σ, .map n' :: σ', id + 1, m, m', h, h1, h2 => by
    simp only [sameIce] at h
    exact sameIce_get h (by simpa using h1) (by simpa using h2)
theorem stays {Γ' ρ' σ' w'} (hp : Post σ.length Γ ρ σ w Γ' ρ' σ' w') (hi : sameIce σ σ' = true) : σ ++ σ'.drop σ.length = σ' := by
  apply List.ext_getElem?
  intro j
  by_cases hj : j < σ.length
  . rw [List.getElem?_append_left hj]
    have h := hp.lowS j hj
    have hj' : j < σ'.length := Nat.lt_of_lt_of_le hj hp.len
    have e1 : σ[j]? = some σ[j] := by simp [hj]
    have e2 : σ'[j]? = some σ'[j] := by simp [hj']
    cases h1 : σ[j] with
    | map es =>
      rw [e1, h1] at h
      simp only [SameOb] at h
      rw [e1, h1]
      exact h
    | mem m =>
      rw [e1, h1] at h
      obtain ⟨m', hm', k1, k2, k3, k4⟩ := h.mem
      have k5 := sameIce_get hi (e1.trans (by rw [h1])) hm'
      rw [e1, h1, hm']
      cases m; cases m'
      simp_all
  . rw [List.getElem?_append_right (by omega), List.getElem?_drop]
    congr 1
    omega
theorem Rel.raise {fl' : Nat} (h : Rel E fl Γ ρ σ w) (hf : fl <= fl') : Rel E fl' Γ ρ σ w :=
  { h with apart := fun id l m hl hid => h.apart id l m hl (Nat.le_trans hf hid) }
def cutR (k : Nat) (ρ : Ren) : Ren := fun id => if id < k then ρ id else none
theorem cutR_some {k : Nat} {id : Nat} {l : Loc} (h : cutR k ρ id = some l) : id < k /\ ρ id = some l := by
  unfold cutR at h
  split at h
  . exact ⟨by assumption, h⟩
  . cases h
theorem cutR_lt {k : Nat} {id : Nat} (h : id < k) : ρ id = cutR k ρ id := by unfold cutR; rw [if_pos h]
theorem cut_le (k : Nat) : Le Γ (cutR k ρ) Γ ρ := ⟨fun _ _ _ h => h, fun id l h => ⟨l, (cutR_some h).2, .inl rfl⟩⟩
theorem Rel.cut (hE : E.Ok) {more : Store} (h : Rel E fl Γ ρ (σ ++ more) w) (hf : fl <= σ.length) (hold : ∀ (id : Nat) (l : Loc) (ob : Ob), id < σ.length -> ρ id = some l -> σ[id]? = some ob -> obOld σ.length ob = true) :
    Rel E fl Γ (cutR σ.length ρ) σ w := by
  refine ⟨h.fix, fun id l hl => ?_, fun id l m hl hid hm hi o => ?_, fun i j li lj hi hj => h.inj i j li lj (cutR_some hi).2 (cutR_some hj).2, fun g cells hg => ?_, h.rock.move h.glob (fun _ _ _ h => h) (fun _ _ _ => rfl) (fun b id l _ hn hl => hn id l (cutR_some hl).2)⟩
  . obtain ⟨h1, h2⟩ := cutR_some hl
    obtain ⟨ob, ho, hk⟩ := h.mem id l h2
    rw [List.getElem?_append_left h1] at ho
    exact ⟨ob, ho, hk.old (fun id hid => cutR_lt hid) (hold id l ob h1 h2 ho)⟩
  . obtain ⟨h1, h2⟩ := cutR_some hl
    exact h.apart id l m h2 hid (by rw [List.getElem?_append_left h1]; exact hm) hi o
  . obtain ⟨vs, hv⟩ := h.glob g cells hg
    exact ⟨vs, fun j x hx => ⟨(hv j x hx).1, (hv j x hx).2.1, (hv j x hx).2.2.old (n := 0) (fun id hid => absurd hid (Nat.not_lt_zero id)) (oldL_get (hE.glob g cells hg) hx)⟩⟩
theorem Rel.pad {more : Store} (h : Rel E fl Γ ρ σ w) : Rel E fl Γ ρ (σ ++ more) w := by
  refine ⟨h.fix, fun id l hl => ?_, fun id l m hl hid hm => h.apart id l m hl hid ?_, h.inj, h.glob, h.rock⟩
  . obtain ⟨ob, ho, hk⟩ := h.mem id l hl
    exact ⟨ob, by rw [List.getElem?_append_left (h.id_lt hl)]; exact ho, hk⟩
  . rwa [List.getElem?_append_left (h.id_lt hl)] at hm
theorem Post.pad {Γ' ρ' σ' w'} {more : Store} (hR : Rel E fl Γ ρ σ w) (hf : fl <= σ.length) (h : Post fl Γ ρ σ w Γ' ρ' σ' w') : Post fl Γ ρ σ w Γ' ρ' (σ' ++ more) w' := by
  have hget : ∀ id, id < σ.length -> (σ' ++ more)[id]? = σ'[id]? := fun id hid => List.getElem?_append_left (Nat.lt_of_lt_of_le hid h.len)
  refine { h with lowS := fun id hid => ?_, fresh := fun b o h1 h2 => ?_, len := ?_, ice := fun id m h1 h2 => ?_ }
  . rw [hget id (by omega)]; exact h.lowS id hid
  . rcases h.fresh b o h1 h2 with h3 | ⟨id, l, m, h3, h4, h5, h6⟩
    . exact .inl h3
    . exact .inr ⟨id, l, m, h3, h4, by rw [hget id (hR.id_lt h3)]; exact h5, h6⟩
  . have := h.len
    simp
    omega
  . obtain ⟨m', h3, h4⟩ := h.ice id m h1 h2
    exact ⟨m', by rw [hget id (List.getElem?_eq_some_iff.1 h1).1]; exact h3, h4⟩
def joinR (a b : Nat) (ρ ρ1 : Ren) : Ren := fun id => if a <= id /\ id < b then ρ1 id else ρ id
theorem join_ok {new more : Store} {Γ1 : Sealed} {ρ1 : Ren} {w1 : World} (h : Rel E fl Γ ρ (σ ++ (new ++ more)) w) (hf : fl <= σ.length) (hnone : ∀ id, σ.length <= id -> id < (σ ++ new).length -> ρ id = none)
    (h1 : Rel E σ.length Γ1 ρ1 (σ ++ new) w1) (hp : Post σ.length Γ (cutR σ.length ρ) σ w Γ1 ρ1 (σ ++ new) w1) :
    let ρ2 := joinR σ.length (σ ++ new).length ρ ρ1
    Rel E fl Γ1 ρ2 (σ ++ (new ++ more)) w1 /\ Post fl Γ ρ (σ ++ (new ++ more)) w Γ1 ρ2 (σ ++ (new ++ more)) w1 /\ Le Γ1 ρ1 Γ1 ρ2 := by
  intro ρ2
  have hnew : ∀ id, σ.length <= id -> id < (σ ++ new).length -> ρ2 id = ρ1 id := fun id ha hb => by simp only [ρ2, joinR, if_pos (And.intro ha hb)]
  have hold : ∀ id, ¬ (σ.length <= id /\ id < (σ ++ new).length) -> ρ2 id = ρ id := fun id hn => by simp only [ρ2, joinR, if_neg hn]
  have hlow : ∀ id, id < σ.length -> ρ1 id = ρ id := fun id hid => (hp.low id hid).trans (cutR_lt hid).symm
  have hst : ∀ id, id < (σ ++ new).length -> (σ ++ (new ++ more))[id]? = (σ ++ new)[id]? := fun id hid => by rw [<- List.append_assoc, List.getElem?_append_left hid]
  have hle1 : Le Γ1 ρ1 Γ1 ρ2 := ⟨fun _ _ _ h => h, fun id l hl => ⟨l, by
    have hid := h1.id_lt hl
    by_cases ha : σ.length <= id
    . rw [hnew id ha hid]; exact hl
    . rw [hold id (fun hc => ha hc.1), <- hlow id (by omega)]; exact hl, .inl rfl⟩⟩
  have hle : Le Γ ρ Γ1 ρ2 := ⟨hp.le.fix, fun id l hl => ⟨l, by
    rw [hold id (fun hc => by rw [hnone id hc.1 hc.2] at hl; cases hl)]; exact hl, .inl rfl⟩⟩
  have hheap : ∀ b, b < w.heap.size -> w1.heap[b]? = w.heap[b]? := fun b hb => hp.frame b hb fun id l hl _ => (cutR_some hl).1
  have hnewblk : ∀ id l, σ.length <= id -> ρ1 id = some l -> w.heap.size <= l.block := by
    intro id l ha hl
    rcases hp.blocks id l hl with ⟨l0, h0, _⟩ | h0
    . have := (cutR_some h0).1; omega
    . exact h0
  have hfresh : ∀ b o, Γ b o = none -> Γ1 b o ≠ none -> w.heap.size <= b ∨ ∃ (id : Nat) (l : Loc) (m : Mem), ρ id = some l /\ l.block = b /\ (σ ++ (new ++ more))[id]? = some (.mem m) /\ m.ice = true := by
    intro b o k1 k2
    rcases hp.fresh b o k1 k2 with k3 | ⟨id, l, m, k3, k4, k5, k6⟩
    . exact .inl k3
    . obtain ⟨k7, k8⟩ := cutR_some k3
      exact .inr ⟨id, l, m, k8, k4, by rw [hst id (by simp; omega)]; exact k5, k6⟩
  refine ⟨⟨h1.fix, fun id l hl => ?_, fun id l m hl hid hm hi o => ?_, fun i j li lj hi hj e => ?_, fun g cells hg => ?_, ?_⟩, ?_, hle1⟩
  . by_cases hc : σ.length <= id /\ id < (σ ++ new).length
    . rw [hnew id hc.1 hc.2] at hl
      obtain ⟨ob, ho, hk⟩ := h1.mem id l hl
      exact ⟨ob, by rw [hst id hc.2]; exact ho, hk.move hle1 rfl⟩
    . rw [hold id hc] at hl
      obtain ⟨ob, ho, hk⟩ := h.mem id l hl
      exact ⟨ob, ho, hk.move hle (hheap _ (h.block_lt hl))⟩
  . by_cases hc : σ.length <= id /\ id < (σ ++ new).length
    . rw [hnew id hc.1 hc.2] at hl
      rw [hst id hc.2] at hm
      exact h1.apart id l m hl hc.1 hm hi o
    . rw [hold id hc] at hl
      cases hg : Γ1 l.block o with
      | none => rfl
      | some u =>
        rcases hfresh l.block o (h.apart id l m hl hid hm hi o) (by simp [hg]) with h3 | ⟨id', l', m', h3, h4, h5, h6⟩
        . have := h.block_lt hl; omega
        . have := h.inj id' id l' l h3 hl h4
          subst this
          rw [hm] at h5; cases h5; rw [hi] at h6; cases h6
  . by_cases hci : σ.length <= i /\ i < (σ ++ new).length
    . rw [hnew i hci.1 hci.2] at hi
      by_cases hcj : σ.length <= j /\ j < (σ ++ new).length
      . rw [hnew j hcj.1 hcj.2] at hj
        exact h1.inj i j li lj hi hj e
      . rw [hold j hcj] at hj
        have k1 := hnewblk i li hci.1 hi
        have k2 := h.block_lt hj
        omega
    . rw [hold i hci] at hi
      by_cases hcj : σ.length <= j /\ j < (σ ++ new).length
      . rw [hnew j hcj.1 hcj.2] at hj
        have k1 := hnewblk j lj hcj.1 hj
        have k2 := h.block_lt hi
        omega
      . rw [hold j hcj] at hj
        exact h.inj i j li lj hi hj e
  . obtain ⟨vs, hv⟩ := h.glob g cells hg
    exact ⟨vs, fun j x hx => ⟨hle.fix _ _ _ (hv j x hx).1, (hv j x hx).2.1, (hv j x hx).2.2.mono hle⟩⟩
  . refine h.rock.move h.glob hp.le.fix (fun b hb _ => hheap b hb) (fun b id l hb hn hl => ?_)
    by_cases hc : σ.length <= id /\ id < (σ ++ new).length
    . rw [hnew id hc.1 hc.2] at hl
      have := hnewblk id l hc.1 hl
      omega
    . rw [hold id hc] at hl
      exact hn id l hl
  . exact {
      le := hle
      blocks := fun id l' hl => by
        by_cases hc : σ.length <= id /\ id < (σ ++ new).length
        . rw [hnew id hc.1 hc.2] at hl
          exact .inr (hnewblk id l' hc.1 hl)
        . rw [hold id hc] at hl
          exact .inl ⟨l', hl, rfl⟩
      low := fun id hid => hold id (fun hc => by omega)
      lowS := fun id _ => .refl _
      fresh := hfresh
      frame := fun b hb _ => hheap b hb
      size := hp.size
      os := hp.os
      tape := hp.tape
      output := hp.output
      len := Nat.le_refl _
      ice := fun id m k1 k2 => ⟨m, k1, k2⟩ }
theorem tight_ok (hE : E.Ok) {rec : Rec} (hrec : SoundRec E rec) (h : Rel E fl Γ ρ σ w) (hfl : fl <= σ.length) {ev : Operand -> Option PV} {a : Act} (he : EnvOk Γ ρ ev a) {o : Oper} {p : PV} {σ' : Store}
    (hs : opA E rec fl true ev σ o.op = some (p, σ')) : (∃ new, σ' = σ ++ new) /\ StepOk E.P o a w (Moves E σ.length Γ ρ σ w p σ') := by
  simp only [opA, if_true] at hs
  split at hs
  . rename_i v σ1 hv
    split at hs
    . rename_i hi
      cases hs
      refine ⟨⟨_, rfl⟩, (stepA_ok hE hrec (h.raise hfl) (Nat.le_refl _) he hv).mono fun r w' hm => ?_⟩
      obtain ⟨Γ1, ρ1, hr, hR, hP⟩ := hm
      rw [stays hP hi]
      exact ⟨Γ1, ρ1, hr, hR, hP⟩
    . cases hs
  . cases hs
end
end
end Go.Proofs.YtaofbpldflcjmaaDoor.Am
