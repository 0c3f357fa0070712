/- Views, sealing, conversions, literals, make: the machine does what the interpreter does. -/
import Derived.Test.YtfpjlkkeelgffaaDoorMem1
import Derived.Laws.BytesString
import Derived.Laws.MakeOwn
import Derived.Lib.ConvBytes
import Derived.Great.BuildSlice
set_option linter.unusedVariables false
set_option linter.unusedSimpArgs false
namespace Go.Proofs.YtfpjlkkeelgffaaDoor.Am
section
variable {E : Env} {fl : Nat} {Γ : Sealed} {ρ : Ren} {σ : Store} {w : World}

theorem sl_reads (h : Rel E fl Γ ρ σ w) {cells : List PV} {a : Addr} {vs : Nat → Value} (hc : ∀ (j : Nat) (x : PV), cells[j]? = some x → a.spot = none ∧ Γ a.block (a.off + j) = some (vs j) ∧ x.oneCell = true)
    (hr : ∀ (j : Nat) (x : PV), cells[j]? = some x → Rep Γ ρ x (vs j)) : Reads Γ ρ w cells a := by
  cases hcells : cells with
  | nil => exact ⟨rfl, [], Reps.nil, fun j v hv => by simp at hv⟩
  | cons x xs =>
    have hs : a.spot = none := (hc 0 x (by rw [hcells]; rfl)).1
    have := sealed_reads h (cells := cells) (b := a.block) (o := a.off) (vs := vs) (fun j x hx => (hc j x hx).2) hr 0 cells.length (by omega)
    simp only [List.drop_zero, List.take_length, Nat.add_zero] at this
    rw [← hcells]
    have e : (⟨a.block, a.off, none⟩ : Addr) = a := by cases a; simp_all
    rwa [e] at this

theorem viewCells_ok (h : Rel E fl Γ ρ σ w) {x : PV} {xs : List PV} {v : Value} (hv : viewCells σ x = some xs) (hx : Rep Γ ρ x v) :
    (v = .slice none 0 0 ∧ xs = [] ∧ lenA x = some 0) ∨ ∃ (ad : Addr) (n cap : Nat), v = .slice (some ad) n cap ∧ lenA x = some n ∧ Reads Γ ρ w xs ad := by
  unfold viewCells at hv
  split at hv
  · cases hv; cases hx; exact .inl ⟨rfl, rfl, rfl⟩
  · cases hv
    cases hx with
    | sl a cap vs hn hc hx h1 hr => exact .inr ⟨a, _, cap, rfl, rfl, sl_reads h h1 hr⟩
    | slNil hx => exact .inl ⟨rfl, rfl, rfl⟩
  · cases hv
    cases hx with
    | sln a cap => exact .inr ⟨a, 0, cap, rfl, rfl, rfl, [], Reps.nil, fun j v hv => by simp at hv⟩
  · rename_i id blen coff es len xc
    split at hv
    · rename_i m hm
      split at hv
      · rename_i hb
        cases hv
        cases hx with
        | osl l cap h1 h2 hc hx ho => exact .inr ⟨_, _, cap, rfl, rfl, h.reads h1 hm coff _ hb.2⟩
        | oslOld l h1 h2 a cap hc' hx' =>
          have := (h.memAt h1 hm).2.1
          omega
      · cases hv
    · cases hv
  · cases hv

theorem Reads.get {xs : List PV} {a : Addr} (h : Reads Γ ρ w xs a) : ∃ vs : List Value, Reps Γ ρ xs vs ∧ ∀ (j : Nat) (v : Value), vs[j]? = some v → w.cell? (a.add j) = some v := h.2

theorem Reads.drew {xs : List PV} {a : Addr} (h : Reads Γ ρ w xs a) {w' : World} (hh : w'.heap = w.heap) : Reads Γ ρ w' xs a := by
  obtain ⟨h1, vs, h2, h3⟩ := h
  refine ⟨h1, vs, h2, fun j v hv => ?_⟩
  rw [← h3 j v hv]
  unfold World.cell?
  rw [hh]

theorem bytesOf_ok : ∀ {xs : List PV} {bs : List UInt8} {vs : List Value}, bytesOf xs = some bs → Reps Γ ρ xs vs → ∃ ns : List Int, vs = ns.map (Value.int .u8) ∧ bs = ns.map fun n => UInt8.ofNat n.toNat
  | [], bs, vs, h, hr => by cases h; exact ⟨[], by simpa using hr.inv_nil, rfl⟩
  | x :: xs, bs, vs, h, hr => by
    unfold bytesOf at h
    split at h
    · cases h; rename_i e; cases e
    · rename_i n rest e
      cases e
      cases hb : bytesOf xs with
      | none => simp [hb] at h
      | some bs' =>
        simp [hb] at h
        subst h
        obtain ⟨v, ws, rfl, h1, h2⟩ := hr.inv_cons
        cases h1
        obtain ⟨ns, rfl, rfl⟩ := bytesOf_ok hb h2
        exact ⟨n :: ns, rfl, rfl⟩
    · cases h

theorem foldl_bytes : ∀ (ns : List Int) (l : List UInt8), ns.foldl (fun (r : ByteArray) n => r.push (UInt8.ofNat n.toNat)) ⟨⟨l⟩⟩ = ⟨⟨l ++ ns.map fun n => UInt8.ofNat n.toNat⟩⟩
  | [], l => by simp
  | n :: ns, l => by
    have e : (⟨⟨l⟩⟩ : ByteArray).push (UInt8.ofNat n.toNat) = ⟨⟨l ++ [UInt8.ofNat n.toNat]⟩⟩ := by
      apply ByteArray.ext
      simp [ByteArray.push]
    simp only [List.foldl_cons, e]
    rw [foldl_bytes ns]
    simp

theorem convA_ok (h : Rel E fl Γ ρ σ w) {src dst : TypeId} {x p : PV} {v : Value} (hc : convA E σ src dst x = some p) (hx : Rep Γ ρ x v) :
    ∃ r w', (convert src dst v).run E.P w = .ok r w' ∧ Moves E fl Γ ρ σ w p σ r w' := by
  unfold convA at hc
  split at hc
  · rename_i d k k' n hs hd
    cases hc; cases hx
    exact ⟨_, w, by simp [convert, run_underlying hs, run_underlying hd, Conv.intToInt], Moves.stay h (.int _ _)⟩
  · rename_i d s hs hd
    cases hc; cases hx
    exact ⟨_, w, by simp [convert, run_underlying hs, run_underlying hd], Moves.stay h (.str _)⟩
  · rename_i d e s hs hd
    split at hc
    · rename_i he
      cases hc; cases hx
      refine ⟨_, _, Lib.run_convert_string_bytes w src dst e _ hs hd he, ?_⟩
      obtain ⟨k1, k2, k3⟩ := seal_new h (w' := Lib.bytesWorld w e ⟨⟨s⟩⟩) ⟨by rw [Lib.bytesWorld_size]; omega, rfl, rfl, ⟨rfl, fun _ => by show w.drawn ≤ w.drawn + 1; omega⟩⟩ (fun b hb => Lib.bytesWorld_at_old w e _ b hb) (Nat.le_refl _) (Lib.bytesWorld_at_new w e _)
      refine ⟨_, _, ?_, k1, k2⟩
      have hsz : (⟨⟨s⟩⟩ : ByteArray).size = s.length := rfl
      rw [hsz]
      refine .sl ⟨w.heap.size, 0, none⟩ _ (fun j => .int .u8 ((s.getD j 0).toNat : Int)) (by simp) (grownCap_ge w _ _ _) (fun c hc => by cases hc) (fun j x hj => ⟨rfl, ?_, ?_⟩) (fun j x hj => ?_)
      · have hlt : j < s.length := by have := (List.getElem?_eq_some_iff.1 hj).1; simpa using this
        simp [Lib.bytesCells, Array.getElem?_append, hlt, List.getD]
      · simp at hj; obtain ⟨b, _, rfl⟩ := hj; rfl
      · simp at hj; obtain ⟨b, hb, rfl⟩ := hj
        simp only [List.getD, hb, Option.getD_some]
        exact .int _ _
    · cases hc
  · rename_i e hs hd _
    split at hc
    · rename_i he
      split at hc
      · rename_i cells n hcells hlen
        split at hc
        · rename_i hn
          cases hb : bytesOf cells with
          | none => simp [hb] at hc
          | some bs =>
            simp [hb] at hc
            subst hc
            refine ⟨.string ⟨⟨bs⟩⟩, w, ?_, Moves.stay h (.str _)⟩
            rcases viewCells_ok h hcells hx with ⟨rfl, rfl, _⟩ | ⟨ad, m, cap, rfl, hm, hrd⟩
            · cases hb
              rw [run_convert_bytes_string w src dst e none 0 0 hs he hd]
              simp [Conv.bytesToString]
              rfl
            · rw [hlen] at hm
              cases hm
              obtain ⟨vs, h1, h2⟩ := hrd.load E.P
              obtain ⟨ns, rfl, rfl⟩ := bytesOf_ok hb h1
              rw [hn] at h2
              rw [run_convert_bytes_string w src dst e (some ad) n cap hs he hd, run_bytesToString w ad n cap ns (by simpa using h2)]
              have e0 : (ByteArray.empty : ByteArray) = ⟨⟨[]⟩⟩ := rfl
              rw [e0, foldl_bytes]
              simp
        · cases hc
      · cases hc
    · cases hc
  · cases hc

theorem sealCells_ok : ∀ (fuel : Nat) {σ : Store} {Γ : Sealed} {xs ys : List PV} {vs : List Value} {σ' : Store}, Rel E fl Γ ρ σ w → sealCells fuel σ xs = some (ys, σ') → Reps Γ ρ xs vs → xs.all PV.oneCell = true →
    ∃ Γ', Reps Γ' ρ ys vs ∧ ys.all PV.oneCell = true ∧ Rel E fl Γ' ρ σ' w ∧ Post fl Γ ρ σ w Γ' ρ σ' w
  | 0, σ, Γ, xs, ys, vs, σ', h, hs, hr, h1 => by cases hs
  | fuel + 1, σ, Γ, xs, ys, vs, σ', h, hs, hr, h1 => by
    unfold sealCells at hs
    split at hs
    · cases hs
      exact ⟨Γ, hr, h1, h, .refl _ _ _ _ _⟩
    rename_i hnc
    clear hnc
    split at hs
    · cases hs
      exact ⟨Γ, hr, rfl, h, .refl _ _ _ _ _⟩
    · rename_i id blen coff es len xc rest
      split at hs
      · rename_i m hm
        split at hs
        · rename_i hb
          obtain ⟨b1, b2, b3⟩ := hb
          split at hs
          · rename_i cs σ1 hcs
            split at hs
            · rename_i rs σ2 hrs
              cases hs
              obtain ⟨v, ws, rfl, hv, hws⟩ := hr.inv_cons
              cases hv with
              | oslOld l k1 k2 a cap hc' hx' =>
                have := (h.memAt k1 hm).2.1
                omega
              | osl l cap k1 k2 k3 k4 k5 =>
                obtain ⟨hget, hmok⟩ := h.memAt k1 hm
                obtain ⟨Γ1, r1, p1, q1⟩ := ice_ok h k1 hget
                have hfr : freezeId σ id = σ.set id (.mem { m with ice := true }) := by simp [freezeId, hget]
                rw [hfr] at hcs
                -- the content's values
                have hlen : ((m.cells.drop coff).take (len * es)).length = len * es := by simp; omega
                have hex : ∀ j, ∃ v, j < len * es → Γ1 l.block (coff + j) = some v ∧ ∀ x, ((m.cells.drop coff).take (len * es))[j]? = some x → Rep Γ1 ρ x v ∧ x.oneCell = true := fun j => by
                  by_cases hj : j < len * es
                  · have hlt : coff + j < m.cells.length := by omega
                    obtain ⟨v, g1, g2, g3⟩ := q1 (coff + j) _ (List.getElem?_eq_getElem hlt)
                    refine ⟨v, fun _ => ⟨g1, fun x hx => ?_⟩⟩
                    have := drop_take_get hx
                    rw [List.getElem?_eq_getElem hlt] at this
                    cases this
                    exact ⟨g2, g3⟩
                  · exact ⟨undef, fun hj' => absurd hj' hj⟩
                obtain ⟨us, hus⟩ := Classical.axiomOfChoice hex
                have hrc : Reps Γ1 ρ ((m.cells.drop coff).take (len * es)) ((List.range (len * es)).map us) := by
                  refine ⟨by simp [hlen], fun j x v hx hv => ?_⟩
                  have hj : j < len * es := by have := (List.getElem?_eq_some_iff.1 hx).1; omega
                  simp [hj] at hv
                  subst hv
                  exact ((hus j hj).2 x hx).1
                have hone : ((m.cells.drop coff).take (len * es)).all PV.oneCell = true := by
                  rw [List.all_eq_true]
                  intro x hx
                  obtain ⟨j, hj⟩ := List.getElem?_of_mem hx
                  have hj' : j < len * es := by have := (List.getElem?_eq_some_iff.1 hj).1; omega
                  exact ((hus j hj').2 x hj).2
                obtain ⟨Γ2, r2, o2, s2, p2⟩ := sealCells_ok fuel r1 hcs hrc hone
                have hws1 : Reps Γ2 ρ rest ws := (hws.mono p1.le).mono p2.le
                simp only [List.all_cons, Bool.and_eq_true] at h1
                obtain ⟨Γ3, r3, o3, s3, p3⟩ := sealCells_ok fuel s2 hrs hws1 h1.2
                refine ⟨Γ3, .cons ?_ r3, by simp [o3, PV.oneCell], s3, (p1.trans p2).trans p3⟩
                have hcl : cs.length = len * es := by have := r2.1; simp at this; omega
                have hval : ∀ (j : Nat) (x : PV), cs[j]? = some x → Γ3 l.block (coff + j) = some (us j) ∧ x.oneCell = true ∧ Rep Γ3 ρ x (us j) := fun j x hx => by
                  have hj : j < len * es := by have := (List.getElem?_eq_some_iff.1 hx).1; omega
                  exact ⟨p3.le.fix _ _ _ (p2.le.fix _ _ _ (hus j hj).1), List.all_eq_true.1 o2 x (List.mem_of_getElem? hx), (r2.2 j x (us j) hx (by simp [hj])).mono p3.le⟩
                exact .sl ⟨l.block, coff, none⟩ cap us hcl k3 (fun c hc => by cases hc) (fun j x hx => ⟨rfl, (hval j x hx).1, (hval j x hx).2.1⟩) (fun j x hx => (hval j x hx).2.2)
            · cases hs
          · cases hs
        · cases hs
      · cases hs
    · rename_i x rest hno
      split at hs
      · rename_i rs σ2 hrs
        cases hs
        obtain ⟨v, ws, rfl, hv, hws⟩ := hr.inv_cons
        simp only [List.all_cons, Bool.and_eq_true] at h1
        obtain ⟨Γ3, r3, o3, s3, p3⟩ := sealCells_ok fuel h hrs hws h1.2
        exact ⟨Γ3, .cons (hv.mono p3.le) r3, by simp [o3, h1.1], s3, p3⟩
      · cases hs

theorem sealList_ok (h : Rel E fl Γ ρ σ w) {xs ys : List PV} {vs : List Value} {σ' : Store} (hs : sealList σ xs = some (ys, σ')) (hr : Reps Γ ρ xs vs) (h1 : xs.all PV.oneCell = true) :
    ∃ Γ', Reps Γ' ρ ys vs ∧ ys.all PV.oneCell = true ∧ Rel E fl Γ' ρ σ' w ∧ Post fl Γ ρ σ w Γ' ρ σ' w := by
  unfold sealList at hs
  split at hs
  · cases hs; exact ⟨Γ, hr, h1, h, .refl _ _ _ _ _⟩
  · exact sealCells_ok _ h hs hr h1

theorem sealV_ok (h : Rel E fl Γ ρ σ w) {x y : PV} {v : Value} {σ' : Store} (hs : sealV σ x = some (y, σ')) (hr : Rep Γ ρ x v) :
    ∃ Γ', Rep Γ' ρ y v ∧ Rel E fl Γ' ρ σ' w ∧ Post fl Γ ρ σ w Γ' ρ σ' w := by
  unfold sealV at hs
  split at hs
  · rename_i cs
    split at hs
    · rename_i h1
      cases hl : sealList σ cs with
      | none => simp [hl] at hs
      | some r =>
        obtain ⟨ys, σ1⟩ := r
        simp [hl] at hs
        obtain ⟨rfl, rfl⟩ := hs
        obtain ⟨vs, rfl, hvs⟩ := Reps.of_agg hr
        obtain ⟨Γ', k1, k2, k3, k4⟩ := sealList_ok h hl hvs h1
        exact ⟨Γ', by simpa using k1.agg, k3, k4⟩
    · cases hs
  · split at hs
    · rename_i y' σ1 hl
      cases hs
      obtain ⟨Γ', k1, k2, k3, k4⟩ := sealList_ok h hl (Reps.cons hr Reps.nil) (by rfl)
      obtain ⟨v', ws, e, k5, _⟩ := k1.inv_cons
      cases e
      exact ⟨Γ', k5, k3, k4⟩
    · cases hs
  · cases hs
    exact ⟨Γ, hr, h, .refl _ _ _ _ _⟩

end
end Go.Proofs.YtfpjlkkeelgffaaDoor.Am
