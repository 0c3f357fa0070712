/- One operation: the machine does what the interpreter does. -/
import Derived.Test.YtfpjlkkeelgffaaDoorMap2
set_option linter.unusedVariables false
set_option linter.unusedSimpArgs false
namespace Go.Proofs.YtfpjlkkeelgffaaDoor.Am
section
variable {E : Env} {fl : Nat} {Γ : Sealed} {ρ : Ren} {σ : Store} {w : World}

/-- An operation yields a value and leaves a world of which K holds. -/
def StepOk (P : Program) (o : Oper) (a : Act) (w : World) (K : Value → World → Prop) : Prop :=
  ∀ (next : Act → World → Prop) (Q : Exit → Act → World → Prop), (∀ r w', K r w' → next (a.put o.dst r) w') → o.wp P a w next Q

theorem StepOk.value {P : Program} {o : Oper} {a : Act} {K : Value → World → Prop} {r : Value} {w' : World} (h : (execOp a.eval o).run P w = .ok (.value r) w') (hk : K r w') : StepOk P o a w K := by
  intro next Q hn
  unfold Oper.wp
  rw [h]
  exact hn r w' hk

theorem StepOk.skip {P : Program} {o : Oper} {a : Act} {K : Value → World → Prop} {w' : World} (h : (execOp a.eval o).run P w = .ok .skip w') (hk : K undef w') : StepOk P o a w K := by
  intro next Q hn
  unfold Oper.wp
  rw [h]
  exact hn undef w' hk

theorem StepOk.enter {P : Program} {o : Oper} {a : Act} {K : Value → World → Prop} {f : FuncId} {args : Array Value} (h : (execOp a.eval o).run P w = .ok (.enter f args) w)
    (hc : Calls P f args w fun e w' => ∃ r, e = .returned r ∧ K r w') : StepOk P o a w K := by
  intro next Q hn
  unfold Oper.wp
  rw [h]
  refine Calls.mono hc fun e w' he => ?_
  obtain ⟨r, rfl, hk⟩ := he
  exact hn r w' hk

theorem StepOk.mono {P : Program} {o : Oper} {a : Act} {K K' : Value → World → Prop} (h : StepOk P o a w K) (hk : ∀ r w', K r w' → K' r w') : StepOk P o a w K' :=
  fun next Q hn => h next Q fun r w' k => hn r w' (hk r w' k)

/-- What a way of calling must keep. -/
def SoundRec (E : Env) (rec : Rec) : Prop :=
  ∀ (f : FuncId) (args : List PV) (σ : Store) (fl : Nat) (p : PV) (σ' : Store), rec f args σ fl = some (p, σ') → fl ≤ σ.length →
    ∀ (Γ : Sealed) (ρ : Ren) (w : World) (vs : List Value), Rel E fl Γ ρ σ w → Reps Γ ρ args vs → Calls E.P f vs.toArray w fun e w' => ∃ r, e = .returned r ∧ Moves E fl Γ ρ σ w p σ' r w'

set_option maxHeartbeats 1000000 in
theorem builtinA_ok (hE : E.Ok) (h : Rel E fl Γ ρ σ w) (hfl : fl ≤ σ.length) {b : Builtin} {argTypes : Array TypeId} {type : TypeId} {consts : Array Bool} {args : List PV} {vs : List Value} {p : PV} {σ' : Store}
    (hb : builtinA E fl σ b argTypes args = some (p, σ')) (hr : Reps Γ ρ args vs) : ∃ r w', (builtin b argTypes type consts vs.toArray).run E.P w = .ok (.value r) w' ∧ Moves E fl Γ ρ σ w p σ' r w' := by
  unfold builtinA at hb
  split at hb
  case h_1 =>
    rename_i x
    obtain ⟨v, ws, rfl, hx, hws⟩ := hr.inv_cons
    rw [hws.inv_nil]
    split at hb
    · rename_i t ht
      split at hb
      · rename_i s hu
        cases hb; cases hx
        have hsz : (⟨⟨s⟩⟩ : ByteArray).size = s.length := rfl
        exact ⟨_, w, by simp [builtin, Builtin.len_, ht, run_underlying hu, hsz]; rfl, Moves.stay h (.int _ _)⟩
      · rename_i n e hu
        cases hb
        refine ⟨Go.goInt n, w, ?_, Moves.stay h (.int _ _)⟩
        cases v <;> simp [builtin, Builtin.len_, ht, run_underlying hu]
      · rename_i e hu
        have : ∃ n a cap, p = goInt n ∧ σ' = σ ∧ v = .slice a n cap := by
          split at hb
          · cases hx; cases hb; exact ⟨0, none, 0, rfl, rfl, rfl⟩
          · cases hb
            cases hx with
            | sl a cap vs hn hc hx h1 hr => exact ⟨_, _, _, rfl, rfl, rfl⟩
            | slNil hx => exact ⟨_, _, _, rfl, rfl, rfl⟩
          · cases hb
            cases hx with
            | osl l cap h1 h2 hc hx ho => exact ⟨_, _, _, rfl, rfl, rfl⟩
            | oslOld l h1 h2 a cap hc hx => exact ⟨_, _, _, rfl, rfl, rfl⟩
          · cases hb
        obtain ⟨n, a, cap, rfl, rfl, rfl⟩ := this
        exact ⟨Go.goInt n, w, by simp [builtin, Builtin.len_, ht, run_underlying hu], Moves.stay h (.int _ _)⟩
      · rename_i k e hu
        cases hb; cases hx
        exact ⟨Go.goInt 0, w, by simp [builtin, Builtin.len_, ht, run_underlying hu], Moves.stay h (.int _ _)⟩
      · rename_i k e id hu
        cases hx with
        | mp l h1 hz =>
          split at hb
          · rename_i m hgm
            cases hb
            obtain ⟨_, _, _, _, A, a1, a2, a3⟩ := h.mapAt h1 hgm
            have hl := a3.1
            refine ⟨Go.goInt m.es.length, w, ?_, Moves.stay h (.int _ _)⟩
            rw [← hl]
            simp [builtin, Builtin.len_, ht, run_underlying hu, MapKept.run_getObj_map a1]
          · cases hb
      · cases hb
    · cases hb
  case h_2 =>
    rename_i x
    obtain ⟨v, ws, rfl, hx, hws⟩ := hr.inv_cons
    rw [hws.inv_nil]
    split at hb
    · rename_i t ht
      split at hb
      · rename_i e hu
        cases hb; cases hx
        exact ⟨Go.goInt 0, w, by simp [builtin, Builtin.cap_, ht, run_underlying hu], Moves.stay h (.int _ _)⟩
      · rename_i e cells es len c hu
        cases hb
        cases hx with
        | slNil hx =>
          rw [hx c rfl]
          exact ⟨Go.goInt 0, w, by simp [builtin, Builtin.cap_, ht, run_underlying hu], Moves.stay h (.int _ _)⟩
        | sl a cap vs hn hc hx h1 hr =>
          rw [hx c rfl]
          exact ⟨Go.goInt c, w, by simp [builtin, Builtin.cap_, ht, run_underlying hu], Moves.stay h (.int _ _)⟩
      · rename_i e id blen coff es len c hu
        cases hb
        cases hx with
        | osl l cap h1 h2 hc hx ho =>
          rw [hx c rfl]
          exact ⟨Go.goInt c, w, by simp [builtin, Builtin.cap_, ht, run_underlying hu], Moves.stay h (.int _ _)⟩
        | oslOld l h1 h2 a cap hc hx =>
          rw [hx c rfl]
          exact ⟨Go.goInt c, w, by simp [builtin, Builtin.cap_, ht, run_underlying hu], Moves.stay h (.int _ _)⟩
      · rename_i e id blen coff es len hu
        split at hb
        · rename_i m hm
          split at hb
          · rename_i hc
            obtain ⟨c1, c2, c3, c4, c5, c6⟩ := hc
            cases hb
            cases hx with
            | oslOld l k1 k2 a cap hc' hx' =>
              have := (h.memAt k1 hm).2.1
              omega
            | osl l cap k1 k2 hcap hxc ho =>
              obtain ⟨e1, e2, e3, e4, e5, e6, _⟩ := (h.memAt k1 hm).2
              obtain ⟨o1, o2⟩ := ho rfl
              have hco : coff / es * es = coff := by have := Nat.div_add_mod coff es; rw [Nat.mul_comm]; omega
              have hcap2 : cap + coff / es = l.cap := by
                have : (cap + coff / es) * es = l.cap * es := by rw [Nat.add_mul, hco]; exact o2
                exact Nat.eq_of_mul_eq_mul_right c4 this
              have hcc : cap = m.len - coff / es := by have := e5 c2; omega
              rw [← hcc]
              exact ⟨Go.goInt cap, w, by simp [builtin, Builtin.cap_, ht, run_underlying hu], Moves.stay h (.int _ _)⟩
          · cases hb
        · cases hb
      · cases hb
    · cases hb
  case h_3 =>
    rename_i x rest
    obtain ⟨v, ws, rfl, hx, hws⟩ := hr.inv_cons
    cases hm : minA x rest with
    | none => simp [hm] at hb
    | some q =>
      simp [hm] at hb
      obtain ⟨rfl, rfl⟩ := hb
      obtain ⟨r, h1, h2⟩ := minA_ok rest x q hm hx hws
      exact ⟨r, w, by simp [builtin, Builtin.min_, h2], Moves.stay h h1⟩
  case h_4 =>
    rename_i x rest
    obtain ⟨v, ws, rfl, hx, hws⟩ := hr.inv_cons
    cases hm : maxA x rest with
    | none => simp [hm] at hb
    | some q =>
      simp [hm] at hb
      obtain ⟨rfl, rfl⟩ := hb
      obtain ⟨r, h1, h2⟩ := maxA_ok rest x q hm hx hws
      exact ⟨r, w, by simp [builtin, Builtin.max_, h2], Moves.stay h h1⟩
  case h_5 =>
    rename_i x y
    obtain ⟨v, ws, rfl, hx, hws⟩ := hr.inv_cons
    obtain ⟨u, us, rfl, hy, hus⟩ := hws.inv_cons
    rw [hus.inv_nil]
    split at hb
    · rename_i t zeros ht hz
      split at hb
      · rename_i e hu
        split at hb
        · rename_i n new hs
          obtain ⟨r, w', h1, h2⟩ := appendA_ok (ty := type) h hfl ht hu hz hs hb hx hy
          exact ⟨r, w', by simp [builtin, h1], h2⟩
        · cases hb
      · cases hb
    · cases hb
  case h_6 =>
    rename_i d y
    obtain ⟨v, ws, rfl, hx, hws⟩ := hr.inv_cons
    obtain ⟨u, us, rfl, hy, hus⟩ := hws.inv_cons
    rw [hus.inv_nil]
    split at hb
    · rename_i t ht
      split at hb
      · rename_i e hu
        split at hb
        · rename_i s n new hs hsrc
          obtain ⟨i, hi, hsz⟩ := sizeT_info hs
          split at hb
          · rename_i hlen
            have hmin0 : Nat.min n 0 = 0 := Nat.min_zero n
            split at hb
            · cases hb; cases hx
              obtain ⟨q1, cs, q2, q3, q4⟩ := source_first h hsrc hy hlen 0 (Nat.zero_le _)
              refine ⟨Go.goInt 0, w, ?_, Moves.stay h (.int _ _)⟩
              simp [builtin, Builtin.copy_, ht, run_underlying hu, q1, hmin0, sizeOf, typeInfo, hi, hsz, q4]
            · cases hb
              cases hx with
              | slNil hx =>
                obtain ⟨q1, cs, q2, q3, q4⟩ := source_first h hsrc hy hlen 0 (Nat.zero_le _)
                refine ⟨Go.goInt 0, w, ?_, Moves.stay h (.int _ _)⟩
                simp [builtin, Builtin.copy_, ht, run_underlying hu, q1, hmin0, sizeOf, typeInfo, hi, hsz, q4]
              | sl a cap vs hn hc hx h1 hr =>
                obtain ⟨q1, cs, q2, q3, q4⟩ := source_first h hsrc hy hlen 0 (Nat.zero_le _)
                have hcs : cs = #[] := Array.eq_empty_of_size_eq_zero (by have := q2.1; simpa using this)
                subst hcs
                refine ⟨Go.goInt 0, w, ?_, Moves.stay h (.int _ _)⟩
                simp [builtin, Builtin.copy_, ht, run_underlying hu, q1, hmin0, sizeOf, typeInfo, hi, hsz, q4, storeCells]
            · rename_i id blen coff es len xc
              split at hb
              · rename_i hes
                subst hes
                cases hw : writeCells fl σ id blen coff (new.take (Nat.min n len * es)) with
                | none => simp [hw] at hb
                | some σ1 =>
                  simp [hw] at hb
                  obtain ⟨rfl, rfl⟩ := hb
                  obtain ⟨q1, cs, q2, q3, q4⟩ := source_first h hsrc hy hlen (Nat.min n len) (Nat.min_le_left _ _)
                  have hone : (new.take (Nat.min n len * es)).all PV.oneCell = true := by
                    rw [List.all_eq_true] at q3 ⊢
                    exact fun x hx => q3 x (List.mem_of_mem_take hx)
                  obtain ⟨b, cap, w', ρ', rfl, k2, k3, k4⟩ := writeCells_ok h hw hx q2 hone
                  refine ⟨Go.goInt (Nat.min n len), w', ?_, Γ, ρ', .int _ _, k3, k4⟩
                  simp [builtin, Builtin.copy_, ht, run_underlying hu, q1, sizeOf, typeInfo, hi, hsz, q4, k2]
              · cases hb
            · cases hb
          · cases hb
        · cases hb
      · cases hb
    · cases hb
  case h_7 =>
    rename_i x
    obtain ⟨v, ws, rfl, hx, hws⟩ := hr.inv_cons
    rw [hws.inv_nil]
    split at hb
    · rename_i t ht
      split at hb
      · rename_i e hu
        split at hb
        · cases hb; cases hx
          exact ⟨.tuple #[], w, by simp [builtin, Builtin.clear_, ht, run_underlying hu], Moves.stay h (.tup (vs := #[]) rfl (fun j x v hx => by simp at hx))⟩
        · cases hb
          cases hx with
          | slNil hx => exact ⟨.tuple #[], w, by simp [builtin, Builtin.clear_, ht, run_underlying hu], Moves.stay h (.tup (vs := #[]) rfl (fun j x v hx => by simp at hx))⟩
          | sl a cap vs hn hc hx h1 hr =>
            exact ⟨.tuple #[], w, by simp [builtin, Builtin.clear_, ht, run_underlying hu], Moves.stay h (.tup (vs := #[]) rfl (fun j x v hx => by simp at hx))⟩
        · cases hb
          have : ∃ a cap, v = .slice (some a) 0 cap := by cases hx <;> exact ⟨_, _, rfl⟩
          obtain ⟨a, cap, rfl⟩ := this
          exact ⟨.tuple #[], w, by simp [builtin, Builtin.clear_, ht, run_underlying hu], Moves.stay h (.tup (vs := #[]) rfl (fun j x v hx => by simp at hx))⟩
        · rename_i id blen coff es len xc hne
          split at hb
          · rename_i s z hs hz
            split at hb
            · rename_i hc
              obtain ⟨rfl, c2, c3⟩ := hc
              obtain ⟨i, zv, hi, hzv, hrz, hz1⟩ := zeroT_rep (Γ := Γ) (ρ := ρ) hz
              cases hw : writeCells fl σ id blen coff (repCells z.cells len) with
              | none => simp [hw] at hb
              | some σ1 =>
                simp [hw] at hb
                obtain ⟨rfl, rfl⟩ := hb
                have hmade := made_reps hrz.cells (by omega) len
                have hzc : (Builtin.zeroCells zv.cells len) = (Array.range (len * z.cells.length)).map (zv.cells[· % zv.cells.size]!) := by
                  have : zv.cells.size = z.cells.length := by have := hrz.cells.1; simpa using this
                  unfold Builtin.zeroCells
                  rw [this]
                rw [← hzc] at hmade
                obtain ⟨b, cap, w', ρ', rfl, k2, k3, k4⟩ := writeCells_ok h hw hx hmade (repCells_all hz1 _)
                refine ⟨.tuple #[], w', ?_, Γ, ρ', .tup (vs := #[]) rfl (fun j x v hx => by simp at hx), k3, k4⟩
                have hlen : len ≠ 0 := fun e => by subst e; simp at hne
                obtain ⟨len', rfl⟩ : ∃ k, len = k + 1 := ⟨len - 1, by omega⟩
                simp [builtin, Builtin.clear_, ht, run_underlying hu, zeroValue, typeInfo, hi, hzv, k2]
            · cases hb
          · cases hb
        · cases hb
      · rename_i k e hu
        obtain ⟨r, w', h1, h2⟩ := clearM_ok (ty := type) h ht hu hb hx
        exact ⟨r, w', by simp [builtin, h1], h2⟩
      · cases hb
    · cases hb
  case h_8 =>
    rename_i x k
    obtain ⟨v, ws, rfl, hx, hws⟩ := hr.inv_cons
    obtain ⟨u, us, rfl, hy, hus⟩ := hws.inv_cons
    rw [hus.inv_nil]
    split at hb
    · rename_i t ht
      obtain ⟨r, w', h1, h2⟩ := deleteA_ok (ty := type) hE h ht hb hx hy
      exact ⟨r, w', by simp [builtin, h1], h2⟩
    · cases hb
  case h_9 => cases hb

end
end Go.Proofs.YtfpjlkkeelgffaaDoor.Am
