/- The other builtins, and the functions without a body: the machine does what the interpreter does. -/
import Derived.Test.YtfpjlkkeelgffaaDoorMem7
import Derived.Lib.Bytealg
import Derived.Laws.Externs
set_option linter.unusedVariables false
set_option linter.unusedSimpArgs false
namespace Go.Proofs.YtfpjlkkeelgffaaDoor.Am
section
variable {E : Env} {fl : Nat} {Γ : Sealed} {ρ : Ren} {σ : Store} {w : World}

theorem minA_ok : ∀ (xs : List PV) (x p : PV) {v : Value} {vs : List Value}, minA x xs = some p → Rep Γ ρ x v → Reps Γ ρ xs vs → ∃ r, Rep Γ ρ p r ∧ ∀ (P : Program) (w : World), (vs.foldlM Builtin.min2 v).run P w = .ok r w
  | [], x, p, v, vs, h, hx, hr => by
    cases h
    rw [hr.inv_nil]
    exact ⟨v, hx, fun P w => by simp⟩
  | y :: xs, x, p, v, vs, h, hx, hr => by
    obtain ⟨u, us, rfl, hy, hus⟩ := hr.inv_cons
    unfold minA at h
    split at h
    · rename_i e; cases e
    · rename_i k a kb b rest e
      cases e
      cases hx; cases hy
      obtain ⟨r, h1, h2⟩ := minA_ok xs _ p h (.int k (if b < a then b else a)) hus
      exact ⟨r, h1, fun P w => by simp [List.foldlM_cons, Builtin.min2, h2]⟩
    · cases h

theorem maxA_ok : ∀ (xs : List PV) (x p : PV) {v : Value} {vs : List Value}, maxA x xs = some p → Rep Γ ρ x v → Reps Γ ρ xs vs → ∃ r, Rep Γ ρ p r ∧ ∀ (P : Program) (w : World), (vs.foldlM Builtin.max2 v).run P w = .ok r w
  | [], x, p, v, vs, h, hx, hr => by
    cases h
    rw [hr.inv_nil]
    exact ⟨v, hx, fun P w => by simp⟩
  | y :: xs, x, p, v, vs, h, hx, hr => by
    obtain ⟨u, us, rfl, hy, hus⟩ := hr.inv_cons
    unfold maxA at h
    split at h
    · rename_i e; cases e
    · rename_i k a kb b rest e
      cases e
      cases hx; cases hy
      obtain ⟨r, h1, h2⟩ := maxA_ok xs _ p h (.int k (if b > a then b else a)) hus
      exact ⟨r, h1, fun P w => by simp [List.foldlM_cons, Builtin.max2, h2]⟩
    · cases h

theorem lenA_slice {x : PV} {n : Nat} (h : lenA x = some n) {v : Value} (hx : Rep Γ ρ x v) (hs : (match x with | .str _ => False | _ => True)) : ∃ a cap, v = .slice a n cap := by
  unfold lenA at h
  split at h <;> first
    | (cases h; done)
    | (cases h; cases hx <;> exact ⟨_, _, rfl⟩)
    | exact hs.elim

theorem writeCells_ok (h : Rel E fl Γ ρ σ w) {id blen coff es len : Nat} {xc : Option Nat} {v : Value} {ys : List PV} {us : List Value} {σ' : Store} (hw : writeCells fl σ id blen coff ys = some σ')
    (hx : Rep Γ ρ (.osl id blen coff es len xc) v) (hy : Reps Γ ρ ys us) (h1 : ys.all PV.oneCell = true) :
    ∃ b cap w' ρ', v = .slice (some ⟨b, coff, none⟩) len cap ∧ (∀ P, (storeCells ⟨b, coff, none⟩ us).run P w = .ok () w') ∧ Rel E fl Γ ρ' σ' w' ∧ Post fl Γ ρ σ w Γ ρ' σ' w' := by
  unfold writeCells at hw
  split at hw
  · rename_i m hm
    split at hw
    · rename_i hb
      obtain ⟨b1, b2, b3, b4⟩ := hb
      cases hw
      cases hx with
      | oslOld l k1 k2 a cap hc' hx' =>
        have := (h.memAt k1 hm).2.1
        omega
      | osl l cap k1 k2 hcap hxc ho =>
        obtain ⟨w', ρ', q1, q2, q3, q4⟩ := write_ok h k1 hm b1 b2 hy h1 b4
        exact ⟨l.block, cap, w', ρ', rfl, q1, q2, q3⟩
    · cases hw
  · cases hw

/-- The first cells of what is copied. -/
theorem source_first (h : Rel E fl Γ ρ σ w) {e : TypeId} {s : Nat} {x : PV} {u : Value} {n : Nat} {new : List PV} (hs : sourceA E σ false e x = some (n, new)) (hx : Rep Γ ρ x u) (hlen : new.length = n * s) (k : Nat) (hk : k ≤ n) :
    (Builtin.lenOf u).run E.P w = .ok n w ∧ ∃ cs : Array Value, Reps Γ ρ (new.take (k * s)) cs.toList ∧ new.all PV.oneCell = true ∧ (Builtin.firstCells s k u).run E.P w = .ok cs w := by
  unfold sourceA at hs
  simp only [Bool.false_eq_true, if_false] at hs
  split at hs
  · rename_i l
    cases hs
    cases hx
    have hsz : (⟨⟨l⟩⟩ : ByteArray).size = l.length := rfl
    have hext : (⟨⟨l⟩⟩ : ByteArray).extract 0 k = ⟨⟨l.take k⟩⟩ := by rw [extract_mk']; simp
    have htake : l.take k = l.take (k * s) := by
      rcases Nat.eq_zero_or_pos l.length with h0 | h0
      · have : l = [] := List.eq_nil_of_length_eq_zero h0
        simp [this]
      · have h1 : l.length * 1 = l.length * s := by simpa using hlen
        have : 1 = s := Nat.eq_of_mul_eq_mul_left h0 h1
        rw [← this, Nat.mul_one]
    refine ⟨by simp [Builtin.lenOf, hsz], ((l.take (k * s)).map fun b => Value.int .u8 b.toNat).toArray, ?_, by simp [PV.oneCell], ?_⟩
    · rw [← List.map_take]
      simpa using bytes_reps (Γ := Γ) (ρ := ρ) (l.take (k * s))
    · simp [Builtin.firstCells, hext, htake]
  · split at hs
    · rename_i m cs hm hcs
      cases hs
      rcases viewCells_ok h hcs hx with ⟨rfl, rfl, hl0⟩ | ⟨ad, m', cap, rfl, hm', hrd⟩
      · rw [hm] at hl0
        cases hl0
        exact ⟨by simp [Builtin.lenOf], #[], by simpa using Reps.nil, rfl, by simp [Builtin.firstCells]⟩
      · rw [hm] at hm'
        cases hm'
        obtain ⟨h1, vs, h2, h3⟩ := hrd
        refine ⟨by simp [Builtin.lenOf], (vs.take (k * s)).toArray, by simpa using h2.take (k * s), h1, ?_⟩
        have hkl : k * s ≤ n * s := Nat.mul_le_mul_right _ hk
        have := run_loadCells_list (P := E.P) w ad (vs.take (k * s)) (fun j v hv => h3 j v (by rw [List.getElem?_take] at hv; split at hv; exact hv; cases hv))
        have hl : (vs.take (k * s)).length = k * s := by rw [List.length_take, h2.1, hlen]; omega
        rw [hl] at this
        simp [Builtin.firstCells, this]
    · cases hs

theorem cmpBytes_eq : ∀ (a b : List UInt8), cmpBytes a b = Lib.compareBytes a b
  | [], [] => rfl
  | [], _ :: _ => rfl
  | _ :: _, [] => rfl
  | x :: a, y :: b => by
    unfold cmpBytes Lib.compareBytes
    by_cases hxy : x = y
    · subst hxy
      have hlt : ¬ x < x := UInt8.lt_irrefl x
      simp [hlt, cmpBytes_eq a b]
    · by_cases hlt : x < y
      · simp [hxy, hlt]
      · have : y < x := UInt8.lt_of_le_of_ne (UInt8.not_lt.1 hlt) (Ne.symm hxy)
        simp [hxy, hlt, this]

theorem run_loadBytes {P : Program} {a : Addr} : ∀ (ns : List Int) (k : Nat) (l : List UInt8), (∀ (j : Nat) (v : Value), (ns.map (Value.int .u8))[j]? = some v → w.cell? (a.add (k + j)) = some v) →
    (∀ n, (a.add n).add 1 = a.add (n + 1)) → (Extern.Bytes.loadBytes (a.add k) ns.length ⟨⟨l⟩⟩).run P w = .ok ⟨⟨l ++ ns.map fun n => UInt8.ofNat n.toNat⟩⟩ w
  | [], k, l, _, _ => by simp [Extern.Bytes.loadBytes]
  | n :: ns, k, l, h, hadd => by
    have h0 := h 0 (.int .u8 n) rfl
    simp only [Nat.add_zero] at h0
    have e : (⟨⟨l⟩⟩ : ByteArray).push (UInt8.ofNat n.toNat) = ⟨⟨l ++ [UInt8.ofNat n.toNat]⟩⟩ := by
      apply ByteArray.ext
      simp [ByteArray.push]
    have ih := run_loadBytes (P := P) (a := a) ns (k + 1) (l ++ [UInt8.ofNat n.toNat]) (fun j v hv => by rw [show k + 1 + j = k + (j + 1) by omega]; exact h (j + 1) v (by simpa using hv)) hadd
    simp only [List.length_cons, Extern.Bytes.loadBytes, Sem.run_bind, run_load, h0, Result.andThen_ok]
    have e2 : (⟨⟨l⟩⟩ : ByteArray).push n.toNat.toUInt8 = ⟨⟨l ++ [UInt8.ofNat n.toNat]⟩⟩ := e
    rw [e2, hadd, ih]
    simp

theorem add_add (a : Addr) (n : Nat) : (a.add n).add 1 = a.add (n + 1) := by
  unfold Addr.add
  by_cases h : n = 0
  · simp [h]
  · simp [h, Nat.add_assoc]

theorem bytesOf_run (h : Rel E fl Γ ρ σ w) {x : PV} {cells : List PV} {bs : List UInt8} {v : Value} (hv : viewCells σ x = some cells) (hb : bytesOf cells = some bs) (hlen : lenA x = some cells.length) (hx : Rep Γ ρ x v) :
    (Extern.Bytes.bytesOf v).run E.P w = .ok ⟨⟨bs⟩⟩ w := by
  rcases viewCells_ok h hv hx with ⟨rfl, rfl, _⟩ | ⟨ad, n, cap, rfl, hm, hrd⟩
  · cases hb
    simp [Extern.Bytes.bytesOf]
    rfl
  · rw [hlen] at hm
    cases hm
    obtain ⟨h1, vs, h2, h3⟩ := hrd
    obtain ⟨ns, rfl, rfl⟩ := bytesOf_ok hb h2
    have hl : ns.length = cells.length := by have := h2.1; simpa using this
    have := run_loadBytes (P := E.P) (w := w) (a := ad) ns 0 [] (fun j v hv => by rw [Nat.zero_add]; exact h3 j v hv) (add_add ad)
    have ha : ad.add 0 = ad := by simp [Addr.add]
    rw [ha, hl] at this
    have e0 : (ByteArray.empty : ByteArray) = ⟨⟨[]⟩⟩ := rfl
    simp only [Extern.Bytes.bytesOf]
    rw [e0, this]
    simp

end
end Go.Proofs.YtfpjlkkeelgffaaDoor.Am
