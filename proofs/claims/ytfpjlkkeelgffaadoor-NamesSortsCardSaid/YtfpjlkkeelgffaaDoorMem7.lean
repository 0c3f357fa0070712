/- append: the whole law. -/
import Derived.Test.YtfpjlkkeelgffaaDoorMem6
set_option linter.unusedVariables false
set_option linter.unusedSimpArgs false
namespace Go.Proofs.YtfpjlkkeelgffaaDoor.Am
section
variable {E : Env} {fl : Nat} {Γ : Sealed} {ρ : Ren} {σ : Store} {w : World}

theorem Same.drewAlloc (w : World) (o : Obj) : Same w (w.drew.alloc o) := ⟨by simp, rfl, rfl, ⟨rfl, fun _ => Nat.le_succ _⟩⟩

theorem drewAlloc_lt (w : World) (o : Obj) : ∀ b, b < w.heap.size → (w.drew.alloc o).heap[b]? = w.heap[b]? := fun b hb => heap_alloc_old w.drew o b hb

theorem drewAlloc_new (w : World) (o : Obj) : (w.drew.alloc o).heap[w.heap.size]? = some o := heap_alloc_new w.drew o

theorem Reads.first {xs : List PV} {a : Addr} (h : Reads Γ ρ w xs a) (P : Program) {size n cap : Nat} (hn : xs.length = n * size) :
    ∃ old : Array Value, Reps Γ ρ xs old.toList ∧ (Builtin.firstCells size n (.slice (some a) n cap)).run P w.drew = .ok old w.drew := by
  obtain ⟨h1, vs, h2, h3⟩ := h
  refine ⟨vs.toArray, by simpa using h2, ?_⟩
  have := run_loadCells_list (P := P) w.drew a vs (fun j v hv => by simpa using h3 j v hv)
  rw [h2.1, hn] at this
  simp [Builtin.firstCells, this]

theorem all_append {xs ys : List PV} (h : xs.all PV.oneCell = true) (k : ys.all PV.oneCell = true) : (xs ++ ys).all PV.oneCell = true := by simp [List.all_append, h, k]

/-- The cells of a grown slice. -/
theorem grown_reps {xs ys : List PV} {old cs rest : Array Value} (h : Reps Γ ρ xs old.toList) (k : Reps Γ ρ ys cs.toList) : Reps Γ ρ (xs ++ ys) ((old ++ cs ++ rest).toList.take (xs ++ ys).length) := by
  have e : (old ++ cs ++ rest).toList.take (xs ++ ys).length = old.toList ++ cs.toList := by
    have h1 := h.1
    have h2 := k.1
    simp only [Array.toList_append, List.length_append]
    rw [List.append_assoc, ← List.append_assoc, List.take_left' (by simp only [List.length_append]; omega)]
  rw [e]
  exact h.append k

set_option maxHeartbeats 1000000 in
theorem appendA_ok (h : Rel E fl Γ ρ σ w) (hfl : fl ≤ σ.length) {argTypes : Array TypeId} {ty t e : TypeId} {zeros : Bool} {x y p : PV} {v u : Value} {n : Nat} {new : List PV} {σ' : Store}
    (h0 : argTypes[0]? = some t) (hu : E.P.underlying t = some (.slice e)) (hint : isIntT E.P argTypes[1]? = some zeros) (hs : sourceA E σ zeros e y = some (n, new)) (ha : appendA E fl σ e x n new = some (p, σ'))
    (hx : Rep Γ ρ x v) (hy : Rep Γ ρ y u) :
    ∃ r w', (Builtin.append_ argTypes ty #[v, u]).run E.P w = .ok r w' ∧ Moves E fl Γ ρ σ w p σ' r w' := by
  unfold appendA at ha
  split at ha
  · rename_i i zp hi hzp
    dsimp only at ha
    split at ha
    · rename_i hc
      obtain ⟨c1, c2, c3, c4⟩ := hc
      obtain ⟨i', z, hi', hz, hrz, hz1⟩ := zeroT_rep (Γ := Γ) (ρ := ρ) hzp
      rw [hi] at hi'
      cases hi'
      have hzs : z.cells.size = i.size := by have := hrz.cells.1; simp at this; omega
      obtain ⟨cs, src⟩ := sourceA_ok h hi hz c1 hs hy c3
      have hcs : cs.size = n * i.size := by have := src.reps.1; simp at this; omega
      split at ha
      · rename_i hn0
        subst hn0
        have hcs0 : cs = #[] := Array.eq_empty_of_size_eq_zero (by simpa using hcs)
        have : p = x ∧ σ' = σ ∧ ∃ a sLen sCap, v = .slice a sLen sCap ∧ sLen ≤ sCap := by
          split at ha
          · cases ha; cases hx; exact ⟨rfl, rfl, _, _, _, rfl, Nat.le_refl _⟩
          · cases ha
            cases hx with
            | sl a cap vs hn hc hx h1 hr => exact ⟨rfl, rfl, _, _, _, rfl, hc⟩
            | slNil hx => exact ⟨rfl, rfl, _, _, _, rfl, Nat.le_refl _⟩
          · cases ha
            cases hx with
            | sln a cap => exact ⟨rfl, rfl, _, _, _, rfl, Nat.zero_le _⟩
          · cases ha
            cases hx with
            | osl l cap h1 h2 hc hx ho => exact ⟨rfl, rfl, _, _, _, rfl, hc⟩
            | oslOld l h1 h2 a cap hc hx' => exact ⟨rfl, rfl, _, _, _, rfl, hc⟩
          · cases ha
        obtain ⟨rfl, rfl, a, sLen, sCap, rfl, hle⟩ := this
        exact ⟨_, w, run_append_none h0 hu hi hz hint c4 src hcs0 hle, Moves.stay h hx⟩
      · rename_i hn0
        split at ha
        · -- nil
          split at ha
          · rename_i hsm
            cases ha
            cases hx
            have hrun := run_append_more (P := E.P) (ty := ty) (sLen := 0) (sCap := 0) (a := none) (old := #[]) h0 hu hi hz c1 hint c4 src (by omega) hn0 (by omega) (by simp [Builtin.firstCells])
            simp only [Nat.zero_add, Array.empty_append] at hrun
            refine ⟨_, _, hrun, ?_⟩
            have hge := grownCap_ge w n 0 e
            have hn := new_ok h hfl (Same.drewAlloc w (.cells (cs ++ Builtin.zeroCells z.cells (grownCap w n 0 e - n)) e)) (drewAlloc_lt w _) (m := ⟨new, i.size, n, false, false, false⟩) (cap := grownCap w n 0 e) (Nat.le_refl _) (drewAlloc_new w _)
              (by simp only [Array.size_append, size_zeroCells, hcs, hzs, ← Nat.add_mul]; congr 1; omega) c3 hge (fun hc => by cases hc) src.one (by
                have := grown_reps (xs := []) (old := #[]) (rest := Builtin.zeroCells z.cells (grownCap w n 0 e - n)) Reps.nil src.reps
                simpa using this)
            exact ⟨Γ, _, Rep.osl (id := σ.length) ⟨w.heap.size, grownCap w n 0 e, n, i.size⟩ _ hn.2.2 rfl hge (fun c hc => by cases hc) (fun _ => ⟨rfl, by simp⟩), hn.1, hn.2.1⟩
          · cases ha
        · -- sealed, its capacity known
          rename_i cells es len c
          split at ha
          · rename_i hb
            obtain ⟨b1, b2, b3, b4⟩ := hb
            cases ha
            subst b1
            cases hx with
            | slNil hx0 =>
              have hrun := run_append_more (P := E.P) (ty := ty) (sLen := 0) (sCap := 0) (a := none) (old := #[]) h0 hu hi hz c1 hint c4 src (by omega) hn0 (by omega) (by simp [Builtin.firstCells])
              simp only [Nat.zero_add, Array.empty_append, List.nil_append] at hrun ⊢
              refine ⟨_, _, hrun, ?_⟩
              have hge := grownCap_ge w n 0 e
              have hn := new_ok h hfl (Same.drewAlloc w (.cells (cs ++ Builtin.zeroCells z.cells (grownCap w n 0 e - n)) e)) (drewAlloc_lt w _) (m := ⟨new, i.size, n, false, false, false⟩) (cap := grownCap w n 0 e) (Nat.le_refl _) (drewAlloc_new w _)
                (by simp only [Array.size_append, size_zeroCells, hcs, hzs, ← Nat.add_mul]; congr 1; omega) c3 hge (fun hc => by cases hc) src.one (by
                  have := grown_reps (xs := []) (old := #[]) (rest := Builtin.zeroCells z.cells (grownCap w n 0 e - n)) Reps.nil src.reps
                  simpa using this)
              exact ⟨Γ, _, Rep.osl (id := σ.length) ⟨w.heap.size, grownCap w n 0 e, n, i.size⟩ _ hn.2.2 rfl hge (fun c hc => by cases hc) (fun _ => ⟨rfl, by simp⟩), hn.1, hn.2.1⟩
            | sl a cap vs hn hcap hxc h1 hr =>
              have hcc : cap = c := hxc c rfl
              obtain ⟨old, hold1, hold2⟩ := (sl_reads h h1 hr).first E.P (cap := cap) hn
              have hrun := run_append_more (P := E.P) (ty := ty) h0 hu hi hz c1 hint c4 src (by omega) hn0 (by omega) hold2
              refine ⟨_, _, hrun, ?_⟩
              have hge := grownCap_ge w (len + n) cap e
              have holds : old.size = len * i.size := by have := hold1.1; simp at this; omega
              have hnn := new_ok h hfl (Same.drewAlloc w (.cells (old ++ cs ++ Builtin.zeroCells z.cells (grownCap w (len + n) cap e - (len + n))) e)) (drewAlloc_lt w _) (m := ⟨cells ++ new, i.size, len + n, false, false, false⟩) (cap := grownCap w (len + n) cap e) (Nat.le_refl _) (drewAlloc_new w _)
                (by simp only [Array.size_append, size_zeroCells, hcs, hzs, holds, ← Nat.add_mul]; congr 1; omega) (by simp only [List.length_append, hn, c3, Nat.add_mul]) hge (fun hc => by cases hc) (all_append b4 src.one) (grown_reps hold1 src.reps)
              exact ⟨Γ, _, Rep.osl (id := σ.length) ⟨w.heap.size, grownCap w (len + n) cap e, len + n, i.size⟩ _ hnn.2.2 rfl hge (fun c hc => by cases hc) (fun _ => ⟨rfl, by simp⟩), hnn.1, hnn.2.1⟩
          · cases ha
        · -- an object's
          rename_i id blen coff es len
          split at ha
          · rename_i m hm
            split at ha
            · rename_i hb
              obtain ⟨b1, b2, b3, b4, b5, b6, b7, b8⟩ := hb
              subst b1
              cases hx with
              | oslOld l k1 k2 a cap hc' hx' =>
                have := (h.memAt k1 hm).2.1
                omega
              | osl l cap k1 k2 hcap hxc ho =>
                obtain ⟨hget, e1, e2, e3, e4, e5, e6, C, T, e7, e8, e9⟩ := h.memAt k1 hm
                obtain ⟨o1, o2⟩ := ho rfl
                split at ha
                · rename_i hin
                  cases ha
                  have hdiv : coff % i.size = 0 := by
                    have h1 : coff = l.cap * i.size - cap * i.size := by omega
                    rw [h1, ← Nat.sub_mul]
                    exact Nat.mul_mod_left _ _
                  have hco : coff / i.size * i.size = coff := by have := Nat.div_add_mod coff i.size; rw [Nat.mul_comm]; omega
                  have hcap2 : cap + coff / i.size = l.cap := by
                    have : (cap + coff / i.size) * i.size = l.cap * i.size := by rw [Nat.add_mul, hco]; exact o2
                    exact Nat.eq_of_mul_eq_mul_right c1 this
                  have hfit : coff + len * i.size + new.length ≤ m.cells.length := by
                    rw [e3, b2, c3]
                    have : (coff / i.size + len + n) * i.size ≤ m.len * i.size := Nat.mul_le_mul_right _ hin
                    rw [Nat.add_mul, Nat.add_mul, hco] at this
                    exact this
                  obtain ⟨w', ρ', q1, q2, q3, q4⟩ := write_ok h k1 hm b5 b4 (off := coff + len * i.size) src.reps src.one hfit
                  have hrun := run_append_room_some (P := E.P) (ty := ty) (sLen := len) (sCap := cap) (a := ⟨l.block, coff, none⟩) h0 hu hi hz c1 hzs hint c4 src (by omega) (by rw [add_mk]; exact q1 E.P)
                  refine ⟨_, w', hrun, Γ, ρ', ?_, q2, q3⟩
                  exact .osl l cap q4 k2 (by omega) (fun c hc => by cases hc) (fun _ => ⟨o1, o2⟩)
                · rename_i hin
                  split at ha
                  · rename_i hco
                    subst hco
                    cases ha
                    have hcapl : cap = l.cap := Nat.eq_of_mul_eq_mul_right c1 (by omega)
                    subst hcapl
                    have hgt : m.len < len + n := by
                      have : 0 / i.size = 0 := Nat.zero_div _
                      omega
                    have hlen : len ≤ m.len := by
                      have : len * i.size ≤ m.len * i.size := by rw [e3, b2] at b8; omega
                      exact Nat.le_of_mul_le_mul_right this c1
                    have hcl : len * i.size ≤ m.cells.length := by omega
                    have htake : Reps Γ ρ (m.cells.take (len * i.size)) (C.toList.take (len * i.size)) := by
                      have := e9.take (len * i.size)
                      rwa [List.take_take, Nat.min_eq_left hcl] at this
                    have hml : (m.cells.take (len * i.size) ++ new).length = (len + n) * i.size := by
                      simp only [List.length_append, List.length_take, Nat.min_eq_left hcl, c3, Nat.add_mul]
                    by_cases hroom : len + n ≤ l.cap
                    · -- there is room
                      have hCs : 0 + len * i.size + cs.toList.length ≤ C.size := by
                        have : (len + n) * i.size ≤ l.cap * i.size := Nat.mul_le_mul_right _ hroom
                        rw [Nat.add_mul] at this
                        simp only [Array.length_toList, hcs, e8, b2]
                        omega
                      have hst := run_storeCells_at E.P l.block (len * i.size) T cs.toList 0 C w e7 (by simpa using hCs) (src.reps.oneCell src.one)
                      simp only [Nat.add_zero] at hst
                      have hrun := run_append_room_some (P := E.P) (ty := ty) (sLen := len) (sCap := l.cap) (a := ⟨l.block, 0, none⟩) h0 hu hi hz c1 hzs hint c4 src hroom (by rw [add_mk, Nat.zero_add]; exact hst)
                      refine ⟨_, _, hrun, ?_⟩
                      have hch := change_ok h k1 hget b5 b4 (m' := { m with cells := m.cells.take (len * i.size) ++ new, len := len + n, exact := false }) (Same.setRow w l.block (C.toList.take (len * i.size) ++ cs.toList ++ C.toList.drop (len * i.size + cs.toList.length)).toArray)
                        (fun b _ hb => setRow_other w l.block b _ hb) (cap := l.cap) (blk := l.block) (.inl ⟨rfl, rfl⟩) (setRow_heap w l.block C _ T (0, 0) e7) (by simp at hCs ⊢; omega) rfl b4 (.inr ⟨hgt, by omega⟩)
                        (by simp only [b2]; exact hml) hroom (fun hc => by cases hc) (all_append (by
                          rw [List.all_eq_true] at e6 ⊢
                          exact fun x hx => e6 x (List.mem_of_mem_take hx)) src.one) (by
                          simp only
                          have e : (C.toList.take (len * i.size) ++ cs.toList ++ C.toList.drop (len * i.size + cs.toList.length)).toArray.toList.take (m.cells.take (len * i.size) ++ new).length = C.toList.take (len * i.size) ++ cs.toList := by
                            have h1 : (C.toList.take (len * i.size) ++ cs.toList).length = (m.cells.take (len * i.size) ++ new).length := (htake.append src.reps).1
                            simp only
                            exact List.take_left' h1
                          rw [e]
                          exact htake.append src.reps)
                      exact ⟨Γ, _, Rep.osl (id := id) ⟨l.block, l.cap, len + n, m.size⟩ l.cap hch.2.2 rfl hroom (fun c hc => by cases hc) (fun _ => ⟨b2.symm, by simp⟩), hch.1, hch.2.1⟩
                    · -- it moves
                      have hrd := h.reads k1 hm 0 (len * i.size) (by omega)
                      obtain ⟨old, hold1, hold2⟩ := hrd.first E.P (cap := l.cap) (size := i.size) (n := len) (by simp; omega)
                      have hrun := run_append_more (P := E.P) (ty := ty) h0 hu hi hz c1 hint c4 src (by omega) hn0 (by omega) hold2
                      refine ⟨_, _, hrun, ?_⟩
                      have hge := grownCap_ge w (len + n) l.cap e
                      have holds : old.size = len * i.size := by have := hold1.1; simp at this; omega
                      simp only [List.drop_zero] at hold1
                      have hch := change_ok h k1 hget b5 b4 (m' := { m with cells := m.cells.take (len * i.size) ++ new, len := len + n, exact := false }) (Same.drewAlloc w (.cells (old ++ cs ++ Builtin.zeroCells z.cells (grownCap w (len + n) l.cap e - (len + n))) e))
                        (fun b hb _ => drewAlloc_lt w _ b hb) (cap := grownCap w (len + n) l.cap e) (blk := w.heap.size) (.inr ⟨Nat.le_refl _, hgt⟩) (drewAlloc_new w _)
                        (by simp only [Array.size_append, size_zeroCells, hcs, hzs, holds, b2, ← Nat.add_mul]; congr 1; omega) rfl b4 (.inr ⟨hgt, by omega⟩)
                        (by simp only [b2]; exact hml) hge (fun hc => by cases hc) (all_append (by
                          rw [List.all_eq_true] at e6 ⊢
                          exact fun x hx => e6 x (List.mem_of_mem_take hx)) src.one) (grown_reps hold1 src.reps)
                      exact ⟨Γ, _, Rep.osl (id := id) ⟨w.heap.size, grownCap w (len + n) l.cap e, len + n, m.size⟩ _ hch.2.2 rfl hge (fun c hc => by cases hc) (fun _ => ⟨b2.symm, by simp⟩), hch.1, hch.2.1⟩
                  · cases ha
            · cases ha
          · cases ha
        · cases ha
    · cases ha
  · cases ha

end
end Go.Proofs.YtfpjlkkeelgffaaDoor.Am
