/- Maps, operation by operation: the machine does what the interpreter does. -/
import Derived.Test.YtpbemfikhmeedaaGreatDoorMZMap
set_option linter.unusedVariables false
set_option linter.unusedSimpArgs false
namespace Go.Proofs.YtpbemfikhmeedaaGreatDoor.Am
section
variable {E : Env} {fl : Nat} {Γ : Sealed} {ρ : Ren} {σ : Store} {w : World}
theorem rep_none : Rep Γ ρ (.tup []) (.tuple #[]) := .tup (vs := #[]) rfl (fun j x v hx => by simp at hx)
theorem rep_pair {x y : PV} {v u : Value} (h : Rep Γ ρ x v) (k : Rep Γ ρ y u) : Rep Γ ρ (.tup [x, y]) (.tuple #[v, u]) := by
  have := Reps.cons h (Reps.cons k Reps.nil)
  exact .tup (vs := #[v, u]) rfl (fun j x v hx hv => this.2 j x v hx (by simpa using hv))
theorem rep_three {x y z : PV} {v u t : Value} (h : Rep Γ ρ x v) (k : Rep Γ ρ y u) (l : Rep Γ ρ z t) : Rep Γ ρ (.tup [x, y, z]) (.tuple #[v, u, t]) := by
  have := Reps.cons h (Reps.cons k (Reps.cons l Reps.nil))
  exact .tup (vs := #[v, u, t]) rfl (fun j x v hx hv => this.2 j x v hx (by simpa using hv))
theorem makeMapA_ok (h : Rel E fl Γ ρ σ w) (hfl : fl <= σ.length) {t : TypeId} {p : TypeId × TypeId} (ht : keyT E t = some p) {r : Option PV} {v : Option Value} (hr : RepOpt Γ ρ r v) (hk : r = none ∨ ∃ k n, r = some (.int k n)) :
    ∃ u w', (Instr.makeMap t v).run E.P w = .ok u w' /\ Moves E fl Γ ρ σ w (.mp σ.length) (newMap σ ⟨[], [], 0, none⟩) u w' := by
  obtain ⟨ρ', k1, k2, k3⟩ := newMap_ok h hfl (o := .map #[] 0) (m := ⟨[], [], 0, none⟩) fun ρ' _ => ⟨rfl, rfl, #[], heap_alloc_new w _, rfl, rfl, fun j e a he => by simp at he⟩
  refine ⟨.map (some w.heap.size), w.alloc (.map #[] 0), ?_, Γ, ρ', .mp _ k3 rfl, k1, k2⟩
  obtain ⟨kt, et⟩ := p
  rcases hk with rfl | ⟨k, n, rfl⟩
  . cases v with
    | none => simp [Instr.makeMap]
    | some v => exact hr.elim
  . cases v with
    | none => exact hr.elim
    | some v =>
      have hr : Rep Γ ρ (.int k n) v := hr
      cases hr
      simp [Instr.makeMap, run_underlying (keyT_ok ht), asInt, asIntOf]
theorem lookA_ok (hE : E.Ok) (h : Rel E fl Γ ρ σ w) {t : TypeId} {x k r : PV} {v u : Value} {ok : Bool} (hc : lookA E σ t x k ok = some r) (hx : Rep Γ ρ x v) (hk : Rep Γ ρ k u) :
    ∃ q, (Instr.lookup t v u ok).run E.P w = .ok q w /\ Rep Γ ρ r q := by
  unfold lookA at hc
  split at hc
  . rename_i kt et ht
    have hm := keyT_ok ht
    split at hc
    . rename_i hkey
      obtain ⟨d, hd⟩ := keyOk_under hkey
      split at hc
      . rename_i es hes
        have hA : ∃ A : Array MapEntry, ((v = .map none /\ A = #[]) ∨ ∃ (r clock : Nat), v = .map (some r) /\ w.heap[r]? = some (.map A clock)) /\ EntsOk Γ ρ es A.toList := by
          split at hes
          . cases hes
            cases hx
            exact ⟨#[], .inl ⟨rfl, rfl⟩, rfl, fun j e a he => by simp at he⟩
          . rename_i id
            cases hx with
            | mp l h1 hz =>
              cases hg : getMap σ id with
              | none => simp [hg] at hes
              | some m =>
                simp [hg] at hes
                subst hes
                obtain ⟨_, _, _, _, A, a1, a2, a3⟩ := h.mapAt h1 hg
                exact ⟨A, .inr ⟨_, _, rfl, a1⟩, a3⟩
          . cases hes
        obtain ⟨A, hrun, hents⟩ := hA
        have hck := keyOk_ok A.isEmpty 50 10000 (by decide) hkey hk w
        split at hc
        . rename_i i hf
          obtain ⟨hlt, hfind⟩ := findM_ok hE hd hk hf hents
          split at hc
          . rename_i e he
            cases hc
            obtain ⟨a, ha, _, hv⟩ := hents.at he
            have ha' : A[i]? = some a := by simpa using ha
            have hv' := hv.viewV (E.kinds et)
            have hrr : (Instr.lookup t v u ok).run E.P w = .ok (if ok then .tuple #[a.val, .bool true] else a.val) w := by
              rcases hrun with ⟨rfl, rfl⟩ | ⟨r, clock, rfl, hb⟩
              . cases ha'
              . simp only [Instr.lookup, Sem.run_bind, run_underlying hm, Result.andThen_ok, MapKept.run_getObj_map hb, hck, hfind w, foundAt, Nat.sub_zero, ha, Option.map_some, Sem.run_pure]
            refine ⟨_, hrr, ?_⟩
            cases ok
            . exact hv'
            . exact rep_pair hv' (.bool true)
          . cases hc
        . rename_i hf
          obtain ⟨hlt, hfind⟩ := findM_ok hE hd hk hf hents
          split at hc
          . rename_i z hz
            cases hc
            obtain ⟨i, zv, hi, hzv, hrz, hz1⟩ := zeroT_rep (Γ := Γ) (ρ := ρ) hz
            have hv' := hrz.viewV (E.kinds et)
            have hrr : (Instr.lookup t v u ok).run E.P w = .ok (if ok then .tuple #[zv, .bool false] else zv) w := by
              rcases hrun with ⟨rfl, rfl⟩ | ⟨r, clock, rfl, hb⟩
              . simp only [Instr.lookup, Sem.run_bind, run_underlying hm, Sem.run_pure, Result.andThen_ok, hck, hfind w, foundAt, zeroValue, typeInfo, run_program, hi, hzv]
              . simp only [Instr.lookup, Sem.run_bind, run_underlying hm, Sem.run_pure, Result.andThen_ok, MapKept.run_getObj_map hb, hck, hfind w, foundAt, zeroValue, typeInfo, run_program, hi, hzv]
            refine ⟨_, hrr, ?_⟩
            cases ok
            . exact hv'
            . exact rep_pair hv' (.bool false)
          . cases hc
        . cases hc
      . cases hc
    . cases hc
  . cases hc
theorem updateA_ok (hE : E.Ok) (h : Rel E fl Γ ρ σ w) {t : TypeId} {x k z : PV} {v u y : Value} {σ' : Store} (hc : updateA E fl σ t x k z = some σ') (hx : Rep Γ ρ x v) (hk : Rep Γ ρ k u) (hz : Rep Γ ρ z y) :
    ∃ w', (Instr.mapUpdate t v u y).run E.P w = .ok () w' /\ Rel E fl Γ ρ σ' w' /\ Post fl Γ ρ σ w Γ ρ σ' w' := by
  unfold updateA at hc
  split at hc
  . rename_i kt et id ht
    have hm := keyT_ok ht
    split at hc
    . rename_i hg
      rw [Bool.and_eq_true] at hg
      obtain ⟨hkey, hid⟩ := hg
      have hid := Nat.le_of_ble_eq_true hid
      obtain ⟨d, hd⟩ := keyOk_under hkey
      have hck := keyOk_ok false 50 10000 (by decide) hkey hk w
      split at hc
      . rename_i m hgm
        cases hx with
        | mp l h1 hlz =>
          obtain ⟨hget, l1, l2, hit, A, a1, a2, a3⟩ := h.mapAt h1 hgm
          simp only [Option.map_eq_some_iff] at hc
          obtain ⟨m', hm', rfl⟩ := hc
          unfold putM at hm'
          split at hm'
          . rename_i i hf
            obtain ⟨hlt, hfind⟩ := findM_ok hE hd hk hf a3
            split at hm'
            . rename_i e he
              split at hm'
              . rename_i hsame
                cases hm'
                obtain ⟨a, ha, hak, hav⟩ := a3.at he
                have ha' : A[i]? = some a := by simpa using ha
                obtain ⟨e1, e2⟩ := sameK_eq hsame hak hk
                have hst := run_keyThatStays (P := E.P) e2 w
                obtain ⟨k1, k2⟩ := setMap_ok h h1 hid hget (o := .map (A.modify i fun e => { e with key := u, val := y }) m.clock) (m := { m with es := m.es.set i (k, z) })
                  ⟨l1, l2, by rw [hit]; exact ⟨_, putB_new _ a1, (born_modify (A := A) (i := i) (f := fun e => { e with key := u, val := y }) fun e => rfl).trans a2, a3.setAt ha hk hz⟩⟩
                refine ⟨_, ?_, k1, k2⟩
                simp only [Instr.mapUpdate, Sem.run_bind, run_underlying hm, Result.andThen_ok, MapKept.run_getObj_map a1, hck, hfind w, foundAt, Nat.sub_zero, ha, Option.map_some, ha', Option.getD_some, hst, MapKept.run_setObj_map _ a1]
                rfl
              . cases hm'
            . cases hm'
          . rename_i hf
            cases hm'
            obtain ⟨hlt, hfind⟩ := findM_ok hE hd hk hf a3
            obtain ⟨k1, k2⟩ := setMap_ok h h1 hid hget (o := .map (A.push { key := u, val := y, born := m.clock }) (m.clock + 1)) (m := { m with es := m.es ++ [(k, z)], born := m.born ++ [m.clock], clock := m.clock + 1 })
              ⟨l1, l2, by simp only [hit]; exact ⟨_, putB_new _ a1, by simp [a2], a3.push hk hz⟩⟩
            refine ⟨_, ?_, k1, k2⟩
            simp only [Instr.mapUpdate, Sem.run_bind, run_underlying hm, Result.andThen_ok, MapKept.run_getObj_map a1, hck, hfind w, foundAt, MapKept.run_setObj_map _ a1]
            rfl
          . cases hm'
      . cases hc
    . cases hc
  . cases hc
theorem entryA_ok (hE : E.Ok) (h : Rel E fl Γ ρ σ w) {t : TypeId} {x k p : PV} {v u : Value} {σ' : Store} (hc : entryA E fl σ t x k = some (p, σ')) (hx : Rep Γ ρ x v) (hk : Rep Γ ρ k u) :
    ∃ r w', (Instr.mapEntry t v u).run E.P w = .ok r w' /\ Moves E fl Γ ρ σ w p σ' r w' := by
  unfold entryA at hc
  split at hc
  . rename_i kt et id ht
    have hm := keyT_ok ht
    split at hc
    . rename_i hg
      rw [Bool.and_eq_true] at hg
      obtain ⟨hkey, hid⟩ := hg
      have hid := Nat.le_of_ble_eq_true hid
      obtain ⟨d, hd⟩ := keyOk_under hkey
      have hck := keyOk_ok false 50 10000 (by decide) hkey hk w
      split at hc
      . rename_i m hgm
        cases hx with
        | mp l h1 hlz =>
          obtain ⟨hget, l1, l2, hit, A, a1, a2, a3⟩ := h.mapAt h1 hgm
          split at hc
          . rename_i i hf
            obtain ⟨hlt, hfind⟩ := findM_ok hE hd hk hf a3
            split at hc
            . rename_i e b he hb
              split at hc
              . rename_i hsame
                cases hc
                obtain ⟨a, ha, hak, hav⟩ := a3.at he
                have ha' : A[i]? = some a := by simpa using ha
                obtain ⟨e1, e2⟩ := sameK_eq hsame hak hk
                have hst := run_keyThatStays (P := E.P) e2 w
                have hborn : a.born = b := by
                  have : (A.toList.map MapEntry.born)[i]? = some b := by rw [a2]; exact hb
                  rw [List.getElem?_map, ha] at this
                  simpa using this
                have hset : m.es.set i (e.1, e.2) = m.es := by
                  apply List.ext_getElem?
                  intro j
                  by_cases hj : i = j
                  . subst hj
                    have := (List.getElem?_eq_some_iff.1 he).1
                    rw [List.getElem?_set_self this, he]
                  . rw [List.getElem?_set_ne hj]
                have hents := a3.setAt (i := i) (k := e.1) (v := e.2) (f := fun e => { e with key := u }) ha (by rw [e1] at hak; exact hak) hav
                rw [hset] at hents
                obtain ⟨k1, k2⟩ := setMap_ok h h1 hid hget (o := .map (A.modify i fun e => { e with key := u }) m.clock) (m := m)
                  ⟨l1, l2, by rw [hit]; exact ⟨_, putB_new _ a1, (born_modify (A := A) (i := i) (f := fun e => { e with key := u }) fun e => rfl).trans a2, hents⟩⟩
                have hsame : σ.set id (.map m) = σ := by
                  apply List.ext_getElem?
                  intro j
                  by_cases hj : id = j
                  . subst hj
                    rw [List.getElem?_set_self (h.id_lt h1), hget]
                  . rw [List.getElem?_set_ne hj]
                rw [hsame] at k1 k2
                refine ⟨.tuple #[a.val, Go.goInt a.born], _, ?_, Γ, ρ, rep_pair (hav.viewV _) (by rw [hborn]; exact .int _ _), k1, k2⟩
                simp only [Instr.mapEntry, Sem.run_bind, run_underlying hm, Result.andThen_ok, MapKept.run_getObj_map a1, hck, hfind w, foundAt, Nat.sub_zero, ha, Option.map_some, ha', Option.getD_some, hst, MapKept.run_setObj_map _ a1]
                rfl
              . cases hc
            . cases hc
          . rename_i hf
            obtain ⟨hlt, hfind⟩ := findM_ok hE hd hk hf a3
            split at hc
            . rename_i z hz
              cases hc
              obtain ⟨i, zv, hi, hzv, hrz, hz1⟩ := zeroT_rep (Γ := Γ) (ρ := ρ) hz
              obtain ⟨k1, k2⟩ := setMap_ok h h1 hid hget (o := .map (A.push { key := u, val := zv, born := m.clock }) (m.clock + 1)) (m := { m with es := m.es ++ [(k, z)], born := m.born ++ [m.clock], clock := m.clock + 1 })
                ⟨l1, l2, by simp only [hit]; exact ⟨_, putB_new _ a1, by simp [a2], a3.push hk hrz⟩⟩
              refine ⟨.tuple #[zv, Go.goInt m.clock], _, ?_, Γ, ρ, rep_pair (hrz.viewV _) (.int _ _), k1, k2⟩
              simp only [Instr.mapEntry, Sem.run_bind, run_underlying hm, Result.andThen_ok, MapKept.run_getObj_map a1, hck, hfind w, foundAt, zeroValue, typeInfo, run_program, hi, hzv, Sem.run_pure, MapKept.run_setObj_map _ a1]
              rfl
            . cases hc
          . cases hc
      . cases hc
    . cases hc
  . cases hc
theorem placeI_ok : ∀ {bs : List Nat} {A : List MapEntry} {b : Int} {i q : Nat}, placeI b bs i = some q -> A.map MapEntry.born = bs -> i <= q /\ ∀ (B : Array MapEntry), B.toList = A -> B.findIdx? (fun e => (e.born : Int) == b) = some (q - i) := by
  have main : ∀ {bs : List Nat} {A : List MapEntry} {b : Int} {i q : Nat}, placeI b bs i = some q -> A.map MapEntry.born = bs -> i <= q /\ A.findIdx? (fun e => (e.born : Int) == b) = some (q - i) := by
    intro bs
    induction bs with
    | nil => intro A b i q h _; cases h
    | cons x xs ih =>
      intro A b i q h hA
      cases A with
      | nil => cases hA
      | cons a A =>
        simp only [List.map_cons, List.cons.injEq] at hA
        unfold placeI at h
        split at h
        . rename_i hb
          cases h
          refine ⟨Nat.le_refl _, ?_⟩
          rw [List.findIdx?_cons, hA.1, if_pos hb, Nat.sub_self]
        . rename_i hb
          obtain ⟨h1, h2⟩ := ih h hA.2
          refine ⟨by omega, ?_⟩
          rw [List.findIdx?_cons, hA.1, if_neg hb, h2]
          simp
          omega
  intro bs A b i q h hA
  obtain ⟨h1, h2⟩ := main h hA
  refine ⟨h1, fun B hB => ?_⟩
  rw [<- h2, <- hB, <- List.findIdx?_toArray]
theorem entryStoreA_ok (h : Rel E fl Γ ρ σ w) {t : TypeId} {x b z : PV} {v u y : Value} {σ' : Store} (hc : entryStoreA fl σ x b z = some σ') (hx : Rep Γ ρ x v) (hb : Rep Γ ρ b u) (hz : Rep Γ ρ z y) :
    ∃ w', (Instr.entryStore t v u y).run E.P w = .ok () w' /\ Rel E fl Γ ρ σ' w' /\ Post fl Γ ρ σ w Γ ρ σ' w' := by
  unfold entryStoreA at hc
  split at hc
  . rename_i id kd n
    split at hc
    . rename_i hid
      have hid := Nat.le_of_ble_eq_true hid
      split at hc
      . rename_i m hgm
        cases hb
        cases hx with
        | mp l h1 hlz =>
          obtain ⟨hget, l1, l2, hit, A, a1, a2, a3⟩ := h.mapAt h1 hgm
          split at hc
          . rename_i i hp
            obtain ⟨_, hidx⟩ := placeI_ok hp a2
            have hidx := hidx A rfl
            rw [Nat.sub_zero] at hidx
            split at hc
            . rename_i e he
              cases hc
              obtain ⟨a, ha, hak, hav⟩ := a3.at he
              obtain ⟨k1, k2⟩ := setMap_ok h h1 hid hget (o := .map (A.modify i fun e => { e with val := y }) m.clock) (m := { m with es := m.es.set i (e.1, z) })
                ⟨l1, l2, by simp only [hit]; exact ⟨_, putB_new _ a1, (born_modify (A := A) (i := i) (f := fun e => { e with val := y }) fun e => rfl).trans a2, a3.setAt ha hak hz⟩⟩
              refine ⟨_, ?_, k1, k2⟩
              simp only [Instr.entryStore, Sem.run_bind, Result.andThen_ok, MapKept.run_getObj_map a1, asInt, asIntOf, Sem.run_pure, hidx, MapKept.run_setObj_map _ a1]
              rfl
            . cases hc
          . cases hc
      . cases hc
    . cases hc
  . cases hc
theorem born_erase (A : List MapEntry) (i : Nat) : (A.eraseIdx i).map MapEntry.born = (A.map MapEntry.born).eraseIdx i := by
  apply List.ext_getElem?
  intro j
  simp only [List.getElem?_map, List.getElem?_eraseIdx]
  split <;> rfl
theorem deleteA_ok (hE : E.Ok) (h : Rel E fl Γ ρ σ w) {argTypes : Array TypeId} {ty t : TypeId} (h0 : argTypes[0]? = some t) {x k p : PV} {v u : Value} {σ' : Store} (hc : deleteA E fl σ t x k = some (p, σ')) (hx : Rep Γ ρ x v) (hk : Rep Γ ρ k u) :
    ∃ r w', (Builtin.delete_ argTypes ty #[v, u]).run E.P w = .ok r w' /\ Moves E fl Γ ρ σ w p σ' r w' := by
  unfold deleteA at hc
  split at hc
  . rename_i kt et ht
    have hm := keyT_ok ht
    split at hc
    . rename_i hkey
      cases hc
      cases hx
      have hck := keyOk_ok true 50 10000 (by decide) hkey hk w
      refine ⟨.tuple #[], w, ?_, Moves.stay h rep_none⟩
      simp [Builtin.delete_, h0, run_underlying hm, hck]
    . cases hc
  . rename_i kt et id ht
    have hm := keyT_ok ht
    split at hc
    . rename_i hg
      rw [Bool.and_eq_true] at hg
      obtain ⟨hkey, hid⟩ := hg
      have hid := Nat.le_of_ble_eq_true hid
      obtain ⟨d, hd⟩ := keyOk_under hkey
      split at hc
      . rename_i m hgm
        cases hx with
        | mp l h1 hlz =>
          obtain ⟨hget, l1, l2, hit, A, a1, a2, a3⟩ := h.mapAt h1 hgm
          have hck := keyOk_ok A.isEmpty 50 10000 (by decide) hkey hk w
          split at hc
          . rename_i i hf
            obtain ⟨hlt, hfind⟩ := findM_ok hE hd hk hf a3
            cases hc
            have hilt := hlt i rfl
            obtain ⟨a, ha, _⟩ := a3.at (List.getElem?_eq_getElem hilt)
            obtain ⟨k1, k2⟩ := setMap_ok h h1 hid hget (o := .map (A.eraseIdxIfInBounds i) m.clock) (m := { m with es := m.es.eraseIdx i, born := m.born.eraseIdx i })
              ⟨l1, l2, by simp only [hit]; exact ⟨_, putB_new _ a1, by rw [Array.toList_eraseIdxIfInBounds, <- a2]; exact born_erase _ _, a3.erase i⟩⟩
            refine ⟨.tuple #[], _, ?_, Γ, ρ, rep_none, k1, k2⟩
            simp [Builtin.delete_, h0, run_underlying hm, MapKept.run_getObj_map a1, hck, hfind w, foundAt, ha, MapKept.run_setObj_map _ a1]
            rfl
          . rename_i hf
            obtain ⟨hlt, hfind⟩ := findM_ok hE hd hk hf a3
            cases hc
            obtain ⟨k1, k2⟩ := setMap_ok h h1 hid hget (o := .map A m.clock) (m := m) ⟨l1, l2, by rw [hit]; exact ⟨_, putB_new _ a1, a2, a3⟩⟩
            have hsame : σ.set id (.map m) = σ := by
              apply List.ext_getElem?
              intro j
              by_cases hj : id = j
              . subst hj
                rw [List.getElem?_set_self (h.id_lt h1), hget]
              . rw [List.getElem?_set_ne hj]
            rw [hsame] at k1 k2
            refine ⟨.tuple #[], _, ?_, Γ, ρ, rep_none, k1, k2⟩
            simp [Builtin.delete_, h0, run_underlying hm, MapKept.run_getObj_map a1, hck, hfind w, foundAt, MapKept.run_setObj_map _ a1]
            rfl
          . cases hc
      . cases hc
    . cases hc
  . cases hc
theorem clearM_ok (h : Rel E fl Γ ρ σ w) {argTypes : Array TypeId} {ty t kt et : TypeId} (h0 : argTypes[0]? = some t) (hm : E.P.underlying t = some (.map kt et)) {x p : PV} {v : Value} {σ' : Store} (hc : clearM fl σ x = some (p, σ')) (hx : Rep Γ ρ x v) :
    ∃ r w', (Builtin.clear_ argTypes ty #[v]).run E.P w = .ok r w' /\ Moves E fl Γ ρ σ w p σ' r w' := by
  unfold clearM at hc
  split at hc
  . cases hc
    cases hx
    exact ⟨.tuple #[], w, by simp [Builtin.clear_, h0, run_underlying hm], Moves.stay h rep_none⟩
  . rename_i id
    split at hc
    . rename_i hid
      have hid := Nat.le_of_ble_eq_true hid
      split at hc
      . rename_i m hgm
        cases hc
        cases hx with
        | mp l h1 hlz =>
          obtain ⟨hget, l1, l2, hit, A, a1, a2, a3⟩ := h.mapAt h1 hgm
          obtain ⟨k1, k2⟩ := setMap_ok h h1 hid hget (o := .map #[] m.clock) (m := { m with es := [], born := [] })
            ⟨l1, l2, by simp only [hit]; exact ⟨#[], putB_new _ a1, rfl, rfl, fun j e a he => by simp at he⟩⟩
          refine ⟨.tuple #[], _, ?_, Γ, ρ, rep_none, k1, k2⟩
          simp [Builtin.clear_, h0, run_underlying hm, MapKept.run_getObj_map a1, MapKept.run_setObj_map _ a1]
          rfl
      . cases hc
    . cases hc
  . cases hc
theorem rangeA_ok (h : Rel E fl Γ ρ σ w) (hfl : fl <= σ.length) {t : TypeId} {x p : PV} {v : Value} {σ' : Store} (hc : rangeA E σ t x = some (p, σ')) (hx : Rep Γ ρ x v) :
    ∃ r w', (Instr.range t v).run E.P w = .ok r w' /\ Moves E fl Γ ρ σ w p σ' r w' := by
  unfold rangeA at hc
  split at hc
  . rename_i kt ht
    obtain ⟨kt, et⟩ := kt
    have hm := keyT_ok ht
    cases hc
    cases hx
    obtain ⟨ρ', k1, k2, k3⟩ := newMap_ok h hfl (o := .mapIter none 0 #[] 0) (m := ⟨[], [], 0, some (none, 0, [], 0)⟩) fun ρ' _ => ⟨rfl, rfl, none, heap_alloc_new w _, rfl⟩
    refine ⟨.pointer (some ⟨w.heap.size, 0, none⟩), w.alloc (.mapIter none 0 #[] 0), ?_, Γ, ρ', .ptr _ k3 rfl, k1, k2⟩
    simp [Instr.range, run_underlying hm]
  . rename_i kt id ht
    obtain ⟨kt, et⟩ := kt
    have hm := keyT_ok ht
    split at hc
    . rename_i m hgm
      cases hc
      cases hx with
      | mp l h1 hlz =>
        obtain ⟨hget, l1, l2, hit, A, a1, a2, a3⟩ := h.mapAt h1 hgm
        obtain ⟨ρ', k1, k2, k3⟩ := newMap_ok h hfl (o := .mapIter (some l.block) m.clock #[] m.clock) (m := ⟨[], [], 0, some (some id, m.clock, [], m.clock)⟩) fun ρ' hle => ⟨rfl, rfl, some l.block, heap_alloc_new w _, OverOk.move (Γ := Γ) (Γ' := Γ) (o := some id) ⟨l, h1, hlz, rfl⟩ hle⟩
        refine ⟨.pointer (some ⟨w.heap.size, 0, none⟩), w.alloc (.mapIter (some l.block) m.clock #[] m.clock), ?_, Γ, ρ', .ptr _ k3 rfl, k1, k2⟩
        simp [Instr.range, run_underlying hm, MapKept.run_getObj_map a1]
    . cases hc
  . cases hc
theorem run_getObj_iter {P : Program} {r : Nat} {mo : Option Nat} {a c : Nat} {b : Array Nat} (hb : w.heap[r]? = some (.mapIter mo a b c)) : (getObj r).run P w = .ok (.mapIter mo a b c) w := by
  simp [getObj, Sem.run, hb]
theorem run_setObj_iter {P : Program} {r : Nat} {mo : Option Nat} {a c : Nat} {b : Array Nat} (o : Obj) (hb : w.heap[r]? = some (.mapIter mo a b c)) : (setObj r o).run P w = .ok () (World.putB w r o) := by
  simp [setObj, Sem.run, hb, World.putB]
theorem leftM_ok (seen : List Nat) : ∀ (bs : List Nat) (A : List MapEntry) (i : Nat), A.map MapEntry.born = bs -> ∀ (k : Nat), (leftM seen bs i).length = (A.filter fun e => !seen.contains e.born).length /\
    ∀ (j q : Nat), (leftM seen bs i)[j]? = some q -> i <= q /\ (A.filter fun e => !seen.contains e.born)[j]? = A[q - i]?
  | [], A, i, h, k => by
    have : A = [] := by simpa using h
    subst this
    exact ⟨rfl, fun j q hq => by simp [leftM] at hq⟩
  | b :: bs, [], i, h, k => by cases h
  | b :: bs, a :: A, i, h, k => by
    simp only [List.map_cons, List.cons.injEq] at h
    obtain ⟨h1, h2⟩ := leftM_ok seen bs A (i + 1) h.2 k
    unfold leftM
    rw [List.filter_cons, h.1]
    by_cases hs : seen.contains b = true
    . rw [if_pos hs, if_neg (by rw [hs]; decide)]
      refine ⟨h1, fun j q hq => ?_⟩
      obtain ⟨h3, h4⟩ := h2 j q hq
      refine ⟨by omega, ?_⟩
      rw [h4, show q - i = (q - (i + 1)) + 1 by omega, List.getElem?_cons_succ]
    . rw [if_neg hs, if_pos (by rw [Bool.not_eq_true] at hs; rw [hs]; decide)]
      refine ⟨by simp [h1], fun j q hq => ?_⟩
      cases j with
      | zero =>
        simp at hq
        subst hq
        exact ⟨Nat.le_refl _, by simp⟩
      | succ j =>
        obtain ⟨h3, h4⟩ := h2 j q (by simpa using hq)
        refine ⟨by omega, ?_⟩
        rw [List.getElem?_cons_succ, h4, show q - i = (q - (i + 1)) + 1 by omega, List.getElem?_cons_succ]
theorem nextA_ok (h : Rel E fl Γ ρ σ w) {ty : TypeId} {x p : PV} {v : Value} {σ' : Store} (hc : nextA fl σ x = some (p, σ')) (hx : Rep Γ ρ x v) :
    ∃ r w', (Instr.next v false ty).run E.P w = .ok r w' /\ Moves E fl Γ ρ σ w p σ' r w' := by
  unfold nextA at hc
  split at hc
  . rename_i it
    split at hc
    . rename_i q hq
      have hl : ∃ l : Loc, ρ it = some l /\ v = .pointer (some ⟨l.block, 0, none⟩) /\ MapOk Γ ρ w l q := by
        cases hx with
        | ptr l h1 h2 =>
          obtain ⟨ob, ho, hk⟩ := h.mem it l h1
          rw [hq] at ho
          cases ho
          exact ⟨l, h1, rfl, hk⟩
        | ptrOld l h1 h2 a =>
          obtain ⟨ob, ho, hk⟩ := h.mem it l h1
          rw [hq] at ho
          cases ho
          have := hk.2.1
          omega
      obtain ⟨l, h1, rfl, l1, l2, hk⟩ := hl
      have hover : (pure (Value.tuple #[.bool false]) : Sem Value).run E.P w = .ok (Value.tuple #[.bool false]) w := rfl
      have hfalse : Rep Γ ρ (.tup [.bool false]) (.tuple #[.bool false]) := .tup (vs := #[.bool false]) rfl (fun j x v hx hv => (Reps.cons (.bool false) Reps.nil : Reps Γ ρ [.bool false] [.bool false]).2 j x v hx (by simpa using hv))
      split at hc
      . rename_i a b c hi
        cases hc
        rw [hi] at hk
        obtain ⟨mo, m1, m2⟩ := hk
        have m2 : mo = none := m2
        subst m2
        refine ⟨.tuple #[.bool false], w, ?_, Moves.stay h hfalse⟩
        simp [Instr.next, run_getObj_iter m1]
      . rename_i id since seen last hi
        rw [hi] at hk
        obtain ⟨mo, m1, l', m2, m3, rfl⟩ := hk
        split at hc
        . rename_i m hgm
          obtain ⟨hget, l1', l2', hit, A, a1, a2, a3⟩ := h.mapAt m2 hgm
          split at hc
          . cases hc
          . rename_i hno
            have hborns : A.all (fun e => decide (e.born ≥ last)) = m.born.all (fun b => Nat.ble last b) := by
              rw [<- a2, <- Array.all_toList, List.all_map]
              congr 1
              funext e
              by_cases hc : last <= e.born
              . simp [hc, Nat.ble_eq]
              . have : Nat.ble last e.born = false := by rw [<- Bool.not_eq_true, Nat.ble_eq]; exact hc
                simp [hc, this]
            have hempty : A.isEmpty = m.es.isEmpty := by
              have := a3.1
              cases hA : A.toList with
              | nil =>
                have : A = #[] := by apply Array.ext'; simpa using hA
                subst this
                cases hm : m.es with
                | nil => rfl
                | cons e es => simp [hm] at this
              | cons e es =>
                have hne : A.isEmpty = false := by
                  rw [<- Bool.not_eq_true, Array.isEmpty_iff]
                  intro e; subst e; simp at hA
                rw [hne]
                cases hm : m.es with
                | nil => rw [hA, hm] at this; simp at this
                | cons e es => rfl
            have hguard : (!seen.toArray.isEmpty && !A.isEmpty && A.all fun x => decide (x.born ≥ last)) = false := by
              rw [hborns, hempty]
              have : seen.toArray.isEmpty = seen.isEmpty := by cases seen <;> rfl
              rw [this]
              simpa using hno
            obtain ⟨c1, c2⟩ := leftM_ok seen m.born A.toList 0 a2 0
            have hleft : (A.filter fun e => !seen.toArray.contains e.born).toList = A.toList.filter fun e => !seen.contains e.born := by simp
            split at hc
            . rename_i hnil
              cases hc
              rw [hnil] at c1
              have hf : A.filter (fun e => !seen.toArray.contains e.born) = #[] := by
                apply Array.ext'
                rw [hleft]
                exact List.eq_nil_of_length_eq_zero (by simpa using c1.symm)
              refine ⟨.tuple #[.bool false], w, ?_, Moves.stay h hfalse⟩
              simp only [Instr.next, Sem.run_bind, run_getObj_iter m1, Result.andThen_ok, MapKept.run_getObj_map a1, hguard, hf, Bool.false_eq_true, if_false]
              simp [Question.forced]
            . rename_i i hone
              split at hc
              . rename_i e b he hb
                split at hc
                . rename_i hcond
                  cases hc
                  rw [Bool.and_eq_true] at hcond
                  have hsince : b < since := Nat.le_of_ble_eq_true hcond.1
                  have hid := Nat.le_of_ble_eq_true hcond.2
                  obtain ⟨a, ha, hak, hav⟩ := a3.at he
                  have hborn : a.born = b := by
                    have : (A.toList.map MapEntry.born)[i]? = some b := by rw [a2]; exact hb
                    rw [List.getElem?_map, ha] at this
                    simpa using this
                  obtain ⟨_, c3⟩ := c2 0 i (by rw [hone]; rfl)
                  rw [Nat.sub_zero, ha] at c3
                  rw [hone] at c1
                  have hf : A.filter (fun e => !seen.toArray.contains e.born) = #[a] := by
                    apply Array.ext'
                    rw [hleft]
                    generalize A.toList.filter (fun e => !seen.contains e.born) = F at c1 c3
                    match F, c1, c3 with
                    | [y], _, c3 => simp at c3; rw [c3]
                  obtain ⟨k1, k2⟩ := setMap_ok h h1 hid hq (o := .mapIter (some l'.block) since (seen ++ [b]).toArray m.clock) (m := { q with iter := some (some id, since, seen ++ [b], m.clock) })
                    ⟨l1, l2, some l'.block, putB_new _ m1, l', m2, m3, rfl⟩
                  refine ⟨.tuple #[.bool true, a.key, a.val], _, ?_, Γ, ρ, rep_three (.bool true) hak hav, k1, k2⟩
                  have hs2 : (seen ++ [b]).toArray = seen.toArray.push a.born := by rw [hborn]; simp
                  rw [hs2]
                  have h1' : a.born < since := by omega
                  have h2' : ¬ since <= a.born := by omega
                  simp only [Instr.next, Sem.run_bind, run_getObj_iter m1, Result.andThen_ok, MapKept.run_getObj_map a1, hguard, hf, Bool.false_eq_true, if_false]
                  simp [h1', h2', Question.forced, run_setObj_iter _ m1]
                . cases hc
              . cases hc
            . cases hc
        . cases hc
      . cases hc
    . cases hc
  . cases hc
theorem entryIterA_ok (h : Rel E fl Γ ρ σ w) {x p : PV} {v : Value} (hc : entryIterA σ x = some p) (hx : Rep Γ ρ x v) :
    ∃ r, (Instr.entry v).run E.P w = .ok r w /\ Rep Γ ρ p r := by
  unfold entryIterA at hc
  split at hc
  . rename_i it
    split at hc
    . rename_i q hq
      have hl : ∃ l : Loc, ρ it = some l /\ v = .pointer (some ⟨l.block, 0, none⟩) /\ MapOk Γ ρ w l q := by
        cases hx with
        | ptr l h1 h2 =>
          obtain ⟨ob, ho, hk⟩ := h.mem it l h1
          rw [hq] at ho
          cases ho
          exact ⟨l, h1, rfl, hk⟩
        | ptrOld l h1 h2 a =>
          obtain ⟨ob, ho, hk⟩ := h.mem it l h1
          rw [hq] at ho
          cases ho
          have := hk.2.1
          omega
      obtain ⟨l, h1, rfl, l1, l2, hk⟩ := hl
      split at hc
      . rename_i id since seen last hi
        rw [hi] at hk
        obtain ⟨mo, m1, l', m2, m3, rfl⟩ := hk
        split at hc
        . rename_i m b hgm hb
          obtain ⟨hget, l1', l2', hit, A, a1, a2, a3⟩ := h.mapAt m2 hgm
          split at hc
          . rename_i hcl
            split at hc
            . rename_i i hp
              simp only [Option.map_eq_some_iff] at hc
              obtain ⟨e, he, rfl⟩ := hc
              obtain ⟨_, hidx⟩ := placeI_ok hp a2
              have hidx := hidx A rfl
              rw [Nat.sub_zero] at hidx
              obtain ⟨a, ha, hak, hav⟩ := a3.at he
              have ha' : A[i]? = some a := by simpa using ha
              have hfind : A.find? (fun e => e.born == b) = some a := by
                have h1 : A.toList.findIdx? (fun e => (e.born : Int) == (b : Int)) = some i := by
                  rw [<- List.findIdx?_toArray]; exact hidx
                have e1 : (fun e : MapEntry => (e.born : Int) == (b : Int)) = fun e => e.born == b := by
                  funext e
                  rw [Bool.eq_iff_iff, beq_iff_eq, beq_iff_eq]
                  omega
                rw [e1] at h1
                rw [<- Array.find?_toList]
                obtain ⟨hlt, h2, h3⟩ := List.findIdx?_eq_some_iff_getElem.1 h1
                rw [List.find?_eq_some_iff_getElem]
                have hai : A.toList[i] = a := by
                  rw [List.getElem?_eq_getElem hlt] at ha
                  exact Option.some.inj ha
                exact ⟨by rw [<- hai]; exact h2, i, hlt, hai, fun j hj => by rw [Bool.not_eq_true']; exact Bool.eq_false_iff.2 (h3 j hj)⟩
              have hback : seen.toArray.back? = some b := by rw [List.back?_toArray]; exact hb
              refine ⟨.tuple #[a.key, a.val], ?_, rep_pair hak hav⟩
              simp [Instr.entry, run_getObj_iter m1, hback, MapKept.run_getObj_map a1, hcl, hfind]
            . cases hc
          . cases hc
        . cases hc
      . cases hc
    . cases hc
  . cases hc
end
end Go.Proofs.YtpbemfikhmeedaaGreatDoor.Am
