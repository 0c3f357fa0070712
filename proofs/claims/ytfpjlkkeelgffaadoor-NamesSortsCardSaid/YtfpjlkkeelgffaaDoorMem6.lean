/- append: the machine does what the interpreter does. -/
import Derived.Test.YtfpjlkkeelgffaaDoorMem5
import Derived.Laws.Append
import Derived.Laws.AppendOwn
set_option linter.unusedVariables false
set_option linter.unusedSimpArgs false
namespace Go.Proofs.YtfpjlkkeelgffaaDoor.Am
section
variable {E : Env} {fl : Nat} {Γ : Sealed} {ρ : Ren} {σ : Store} {w : World}

/-- What is appended: its elements can be counted and read, before and behind a draw. -/
structure Src (P : Program) (Γ : Sealed) (ρ : Ren) (w : World) (zeros : Bool) (i : TypeInfo) (z u : Value) (n : Nat) (new : List PV) (cs : Array Value) : Prop where
  reps : Reps Γ ρ new cs.toList
  one : new.all PV.oneCell = true
  plain : zeros = false → (Builtin.lenOf u).run P w = .ok n w ∧ (Builtin.firstCells i.size n u).run P w = .ok cs w ∧ (Builtin.firstCells i.size n u).run P w.drew = .ok cs w.drew
  made : zeros = true → u = .int .i64 (n : Int) ∧ n ≤ 1048576 ∧ cs = Builtin.zeroCells z.cells n

theorem bytes_reps (s : List UInt8) : Reps Γ ρ (s.map fun b => PV.int .u8 b.toNat) (s.map fun b => Value.int .u8 b.toNat) := by
  refine ⟨by simp, fun j x v hx hv => ?_⟩
  simp only [List.getElem?_map, Option.map_eq_some_iff] at hx hv
  obtain ⟨b, hb, rfl⟩ := hx
  obtain ⟨b', hb', rfl⟩ := hv
  rw [hb] at hb'
  cases hb'
  exact .int _ _

theorem sourceA_ok (h : Rel E fl Γ ρ σ w) {zeros : Bool} {e : TypeId} {i : TypeInfo} {z : Value} (hi : E.P.info? e = some i) (hz : i.zero = some z) (hpos : 0 < i.size) {x : PV} {u : Value} {n : Nat} {new : List PV} (hs : sourceA E σ zeros e x = some (n, new))
    (hx : Rep Γ ρ x u) (hlen : new.length = n * i.size) : ∃ cs, Src E.P Γ ρ w zeros i z u n new cs := by
  unfold sourceA at hs
  split at hs
  · rename_i hze
    subst hze
    split at hs
    · rename_i k zp hzp
      split at hs
      · rename_i hb
        cases hs
        cases hx
        obtain ⟨i', z', hi', hz', hrz, h1⟩ := zeroT_rep (Γ := Γ) (ρ := ρ) hzp
        rw [hi] at hi'; cases hi'
        rw [hz] at hz'; cases hz'
        have hzl : 0 < zp.cells.length := hb.2.2
        refine ⟨Builtin.zeroCells z.cells k.toNat, ?_, repCells_all h1 _, (fun hc => by cases hc), (fun _ => ⟨by rw [Int.toNat_of_nonneg hb.1], by omega, rfl⟩)⟩
        have := made_reps hrz.cells hzl k.toNat
        have hsz : z.cells.size = zp.cells.length := by have := hrz.cells.1; simpa using this
        unfold Builtin.zeroCells
        rw [hsz] at this ⊢
        exact this
      · cases hs
    · cases hs
  · rename_i hze
    have hze' : zeros = false := by simpa using hze
    subst hze'
    split at hs
    · rename_i s
      cases hs
      cases hx
      refine ⟨(s.map fun b => Value.int .u8 b.toNat).toArray, by simpa using bytes_reps s, by simp [PV.oneCell], (fun _ => ?_), (fun hc => by cases hc)⟩
      have hsz : (⟨⟨s⟩⟩ : ByteArray).size = s.length := rfl
      have hext : (⟨⟨s⟩⟩ : ByteArray).extract 0 s.length = ⟨⟨s⟩⟩ := by rw [extract_mk']; simp
      refine ⟨by simp [Builtin.lenOf, hsz], by simp [Builtin.firstCells, hext], by simp [Builtin.firstCells, hext]⟩
    · split at hs
      · rename_i m cs hm hcs
        cases hs
        rcases viewCells_ok h hcs hx with ⟨rfl, rfl, hl0⟩ | ⟨ad, m', cap, rfl, hm', hrd⟩
        · rw [hm] at hl0
          cases hl0
          exact ⟨#[], Reps.nil, rfl, (fun _ => ⟨by simp [Builtin.lenOf], by simp [Builtin.firstCells], by simp [Builtin.firstCells]⟩), (fun hc => by cases hc)⟩
        · rw [hm] at hm'
          cases hm'
          obtain ⟨h1, vs, h2, h3⟩ := hrd
          have hvl : vs.length = n * i.size := by rw [h2.1, hlen]
          refine ⟨vs.toArray, by simpa using h2, h1, (fun _ => ⟨by simp [Builtin.lenOf], ?_, ?_⟩), (fun hc => by cases hc)⟩
          · have := run_loadCells_list (P := E.P) w ad vs h3
            rw [hvl] at this
            simp [Builtin.firstCells, this]
          · have := run_loadCells_list (P := E.P) w.drew ad vs (fun j v hv => by simpa using h3 j v hv)
            rw [hvl] at this
            simp [Builtin.firstCells, this]
      · cases hs

theorem isIntT_cases {P : Program} {t : Option TypeId} {zeros : Bool} (h : isIntT P t = some zeros) :
    (t = none ∧ zeros = false) ∨ (∃ x k, t = some x ∧ P.underlying x = some (.int k) ∧ zeros = true) ∨ (∃ x e, t = some x ∧ P.underlying x = some (.slice e) ∧ zeros = false) ∨ (∃ x, t = some x ∧ P.underlying x = some .string ∧ zeros = false) := by
  unfold isIntT at h
  split at h
  · cases h; exact .inl ⟨rfl, rfl⟩
  · split at h
    · rename_i hu; cases h; exact .inr (.inl ⟨_, _, rfl, hu, rfl⟩)
    · rename_i hu; cases h; exact .inr (.inr (.inl ⟨_, _, rfl, hu, rfl⟩))
    · rename_i hu; cases h; exact .inr (.inr (.inr ⟨_, rfl, hu, rfl⟩))
    · cases h

theorem run_append_room_some {P : Program} {argTypes : Array TypeId} {ty t e : TypeId} {i : TypeInfo} {z u : Value} {zeros : Bool} {n sLen sCap : Nat} {a : Addr} {new : List PV} {cs : Array Value} {w' : World}
    (h0 : argTypes[0]? = some t) (hu : P.underlying t = some (.slice e)) (hi : P.info? e = some i) (hz : i.zero = some z) (hzp : 0 < i.size) (hzs : z.cells.size = i.size) (hint : isIntT P argTypes[1]? = some zeros) (hb : i.bytes ≤ 65536)
    (src : Src P Γ ρ w zeros i z u n new cs) (hroom : sLen + n ≤ sCap) (hst : (storeCells (a.add (sLen * i.size)) cs.toList).run P w = .ok () w') :
    (Builtin.append_ argTypes ty #[.slice (some a) sLen sCap, u]).run P w = .ok (.slice (some a) (sLen + n) sCap) w' := by
  rcases isIntT_cases hint with ⟨h1, rfl⟩ | ⟨x, k, h1, h2, rfl⟩ | ⟨x, k, h1, h2, rfl⟩ | ⟨x, h1, h2, rfl⟩
  · obtain ⟨p1, p2, p3⟩ := src.plain rfl
    simp [Builtin.append_, h0, h1, run_underlying hu, sizeOf, typeInfo, hi, p1, p2, hroom, hst]
  · obtain ⟨rfl, m2, rfl⟩ := src.made rfl
    have hw : IntKind.i64.wrap (n : Int) = n := by rw [IntKind.wrap_i64]; omega
    have hneg : ¬ ((n : Int) < 0) := by omega
    have hbig : ¬ (281474976710656 < (n : Int) * (i.bytes : Int)) := by
      have : (n : Int) * (i.bytes : Int) ≤ 1048576 * 65536 := Int.mul_le_mul (by omega) (by omega) (by omega) (by omega)
      omega
    by_cases hn : n * i.size = 0
    · have hn0 : n = 0 := by rcases Nat.mul_eq_zero.1 hn with h | h <;> omega
      subst hn0
      have hw0 : IntKind.i64.wrap 0 = 0 := by rw [IntKind.wrap_i64]; omega
      have hzc : Builtin.zeroCells z.cells 0 = #[] := by simp [Builtin.zeroCells, Array.range_zero']
      rw [hzc] at hst
      simp [storeCells] at hst
      subst hst
      simp [Builtin.append_, h0, h1, h2, run_underlying hu, run_underlying h2, sizeOf, typeInfo, zeroValue, hi, hz, asInt, asIntOf, hw0, storeCells, show sLen ≤ sCap by omega]
    · simp [Builtin.append_, h0, h1, run_underlying hu, run_underlying h2, sizeOf, typeInfo, zeroValue, hi, hz, asInt, asIntOf, hw, hneg, hbig, hroom, hst, hn]
  · obtain ⟨p1, p2, p3⟩ := src.plain rfl
    simp [Builtin.append_, h0, h1, run_underlying hu, run_underlying h2, sizeOf, typeInfo, hi, p1, p2, hroom, hst]
  · obtain ⟨p1, p2, p3⟩ := src.plain rfl
    simp [Builtin.append_, h0, h1, run_underlying hu, run_underlying h2, sizeOf, typeInfo, hi, p1, p2, hroom, hst]

/-- Nothing is appended. -/
theorem run_append_none {P : Program} {argTypes : Array TypeId} {ty t e : TypeId} {i : TypeInfo} {z u : Value} {zeros : Bool} {sLen sCap : Nat} {a : Option Addr} {new : List PV} {cs : Array Value}
    (h0 : argTypes[0]? = some t) (hu : P.underlying t = some (.slice e)) (hi : P.info? e = some i) (hz : i.zero = some z) (hint : isIntT P argTypes[1]? = some zeros) (hb : i.bytes ≤ 65536)
    (src : Src P Γ ρ w zeros i z u 0 new cs) (hc : cs = #[]) (hroom : sLen ≤ sCap) :
    (Builtin.append_ argTypes ty #[.slice a sLen sCap, u]).run P w = .ok (.slice a sLen sCap) w := by
  subst hc
  rcases isIntT_cases hint with ⟨h1, rfl⟩ | ⟨x, k, h1, h2, rfl⟩ | ⟨x, k, h1, h2, rfl⟩ | ⟨x, h1, h2, rfl⟩
  · obtain ⟨p1, p2, p3⟩ := src.plain rfl
    cases a <;> simp [Builtin.append_, h0, h1, run_underlying hu, sizeOf, typeInfo, hi, p1, p2, hroom, storeCells]
  · obtain ⟨rfl, m2, m3⟩ := src.made rfl
    have hw : IntKind.i64.wrap 0 = 0 := by rw [IntKind.wrap_i64]; omega
    cases a <;> simp [Builtin.append_, h0, h1, run_underlying hu, run_underlying h2, sizeOf, typeInfo, zeroValue, hi, hz, asInt, asIntOf, hw, hroom, storeCells]
  · obtain ⟨p1, p2, p3⟩ := src.plain rfl
    cases a <;> simp [Builtin.append_, h0, h1, run_underlying hu, run_underlying h2, sizeOf, typeInfo, hi, p1, p2, hroom, storeCells]
  · obtain ⟨p1, p2, p3⟩ := src.plain rfl
    cases a <;> simp [Builtin.append_, h0, h1, run_underlying hu, run_underlying h2, sizeOf, typeInfo, hi, p1, p2, hroom, storeCells]

theorem run_append_more {P : Program} {argTypes : Array TypeId} {ty t e : TypeId} {i : TypeInfo} {z u : Value} {zeros : Bool} {n sLen sCap : Nat} {a : Option Addr} {new : List PV} {cs old : Array Value}
    (h0 : argTypes[0]? = some t) (hu : P.underlying t = some (.slice e)) (hi : P.info? e = some i) (hz : i.zero = some z) (hzp : 0 < i.size) (hint : isIntT P argTypes[1]? = some zeros) (hb : i.bytes ≤ 65536)
    (src : Src P Γ ρ w zeros i z u n new cs) (hroom : sCap < sLen + n) (hn0 : n ≠ 0) (hsmall : sLen + n ≤ 2097152)
    (hold : (Builtin.firstCells i.size sLen (.slice a sLen sCap)).run P w.drew = .ok old w.drew) :
    (Builtin.append_ argTypes ty #[.slice a sLen sCap, u]).run P w = .ok (.slice (some ⟨w.heap.size, 0, none⟩) (sLen + n) (grownCap w (sLen + n) sCap e))
      (w.drew.alloc (.cells (old ++ cs ++ Builtin.zeroCells z.cells (grownCap w (sLen + n) sCap e - (sLen + n))) e)) := by
  have hr : ¬ (sLen + n ≤ sCap) := by omega
  have h63 : ¬ (9223372036854775807 < ((sLen : Int) + (n : Int))) := by omega
  have hfit : ¬ (281474976710656 < Builtin.nextslicecap (sLen + n) sCap * i.bytes) := by
    have h1 := nextslicecap_le hroom
    have : Builtin.nextslicecap (sLen + n) sCap * i.bytes ≤ 4194304 * 65536 := Nat.mul_le_mul (by omega) hb
    omega
  rcases isIntT_cases hint with ⟨h1, rfl⟩ | ⟨x, k, h1, h2, rfl⟩ | ⟨x, k, h1, h2, rfl⟩ | ⟨x, h1, h2, rfl⟩
  · obtain ⟨p1, p2, p3⟩ := src.plain rfl
    simp [Builtin.append_, h0, h1, run_underlying hu, sizeOf, typeInfo, zeroValue, hi, hz, p1, p3, hr, h63, hfit, Question.forced, hold, newRow, grownCap]
  · obtain ⟨rfl, m2, rfl⟩ := src.made rfl
    have hw : IntKind.i64.wrap (n : Int) = n := by rw [IntKind.wrap_i64]; omega
    have hneg : ¬ ((n : Int) < 0) := by omega
    have hbig : ¬ (281474976710656 < (n : Int) * (i.bytes : Int)) := by
      have : (n : Int) * (i.bytes : Int) ≤ 1048576 * 65536 := Int.mul_le_mul (by omega) (by omega) (by omega) (by omega)
      omega
    have hn : ¬ (n * i.size = 0) := by
      have : 0 < n * i.size := Nat.mul_pos (by omega) hzp
      omega
    simp [Builtin.append_, h0, h1, run_underlying hu, run_underlying h2, sizeOf, typeInfo, zeroValue, hi, hz, asInt, asIntOf, hw, hneg, hbig, hn, hr, h63, hfit, Question.forced, hold, newRow, grownCap]
  · obtain ⟨p1, p2, p3⟩ := src.plain rfl
    simp [Builtin.append_, h0, h1, run_underlying hu, run_underlying h2, sizeOf, typeInfo, zeroValue, hi, hz, p1, p3, hr, h63, hfit, Question.forced, hold, newRow, grownCap]
  · obtain ⟨p1, p2, p3⟩ := src.plain rfl
    simp [Builtin.append_, h0, h1, run_underlying hu, run_underlying h2, sizeOf, typeInfo, zeroValue, hi, hz, p1, p3, hr, h63, hfit, Question.forced, hold, newRow, grownCap]

end
end Go.Proofs.YtfpjlkkeelgffaaDoor.Am
