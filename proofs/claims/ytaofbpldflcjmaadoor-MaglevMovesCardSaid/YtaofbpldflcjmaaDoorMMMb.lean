/- Slicing of texts and arrays: the machine does what the interpreter does. -/
import Derived.Test.YtaofbpldflcjmaaDoorMMMa
import Derived.Laws.Append
import Derived.Laws.AppendOwn
import Derived.Lib.Bytealg
import Derived.Laws.Externs
set_option linter.unusedVariables false
set_option linter.unusedSimpArgs false
namespace Go.Proofs.YtaofbpldflcjmaaDoor.Am
section
section
variable {E : Env} {fl : Nat} {Γ : Sealed} {ρ : Ren} {σ : Store} {w : World}
theorem extract_mk' (l : List UInt8) (a b : Nat) : (⟨⟨l⟩⟩ : ByteArray).extract a b = ⟨⟨(l.drop a).take (b - a)⟩⟩ := ByteArray.extract_mk l a b
theorem run_sliceArr {P : Program} {t e : TypeId} {s n l h m : Nat} {a : Addr} {lv hv mv : Option Value} (hu : P.underlying t = some (.array n e)) (hs : sizeT P e = some s)
    (hb : ∀ w, (Instr.sliceBounds false n n lv hv mv).run P w = .ok (l, h, m) w) (w : World) :
    (Instr.sliceAt t (.pointer (some a)) lv hv mv).run P w = .ok (.slice (some (if m = l then a else a.add (l * s))) (h - l) (m - l)) w := by
  simp [Instr.sliceAt, run_underlying hu, Instr.sureAddr, hb w, run_sizeT hs]
theorem sliceA_ok (h : Rel E fl Γ ρ σ w) {t : TypeId} {x p : PV} {lo hi mx : Option PV} {v : Value} {lv hv mv : Option Value}
    (hc : sliceA E σ t x lo hi mx = some p) (hx : Rep Γ ρ x v) (hl : RepOpt Γ ρ lo lv) (hh : RepOpt Γ ρ hi hv) (hm : RepOpt Γ ρ mx mv) :
    ∃ r, Rep Γ ρ p r /\ (Instr.sliceAt t v lv hv mv).run E.P w = .ok r w := by
  unfold sliceA at hc
  split at hc
  . cases hc
  . rename_i hno
    have hno' : (hi.isNone && mx.isSome) = false := by simpa using hno
    split at hc
    . rename_i s hu
      cases hx
      split at hc
      . cases hc
      . split at hc
        . rename_i hh' eh
          split at hc
          . rename_i l el
            cases hc
            cases mv with
            | some _ => exact hm.elim
            | none =>
              obtain ⟨k1, k2, k3, k4⟩ := bounds_ok (P := E.P) (isSlice := false) (mx := none) (mv := none) (cap := s.length) (room := s.length) (m := s.length) hl hh trivial (Nat.le_refl _) (by simp) rfl eh el (fun _ _ => Nat.le_refl _)
              refine ⟨_, .str _, ?_⟩
              have hsz : (⟨⟨s⟩⟩ : ByteArray).size = s.length := rfl
              simp [Instr.sliceAt, Instr.slice, run_underlying hu, hsz, k1, extract_mk']
          . cases hc
        . cases hc
    . rename_i e hu
      split at hc
      . rename_i s hs
        split at hc
        . rename_i hpos
          exact sliceSl_ok h hu hs hpos hno' hc hx hl hh hm
        . cases hc
      . cases hc
    . rename_i n e hu
      split at hc
      . rename_i s hs
        split at hc
        . cases hc
        . split at hc
          . rename_i m em
            split at hc
            . rename_i hh' eh
              split at hc
              . rename_i l el
                obtain ⟨k1, k2, k3, k4⟩ := bounds_ok (P := E.P) (isSlice := false) (cap := n) hl hh hm (Nat.le_refl _) hno' em eh el (fun _ _ => Nat.le_refl _)
                have k1' : ∀ w, (Instr.sliceBounds false n n lv hv mv).run E.P w = .ok (l, hh', m) w := fun w => by
                  have h1 := k1 w
                  cases mx with
                  | none => simp only [optBound, Option.some.injEq] at em; subst em; exact h1
                  | some _ => exact h1
                by_cases hempty : l = hh'
                . rw [if_pos hempty] at hc
                  have : p = .sl [] s 0 (some (m - l)) /\ ∃ a : Addr, v = .pointer (some a) := by
                    split at hc <;> first
                      | (cases hc; done)
                      | (cases hc; cases hx <;> exact ⟨rfl, _, rfl⟩)
                  obtain ⟨rfl, a, rfl⟩ := this
                  refine ⟨_, ?_, run_sliceArr hu hs k1' w⟩
                  subst hempty
                  rw [Nat.sub_self]
                  exact Rep.sl (cells := []) (es := s) (len := 0) (xc := some (m - l)) _ (m - l) (fun _ => undef) (by simp) (by omega) (fun c hc => by cases hc; rfl) (fun j x hj => by simp at hj) (fun j x hj => by simp at hj)
                . rw [if_neg hempty] at hc
                  have hne : m ≠ l := by omega
                  split at hc
                  . rename_i id blen off
                    cases hc
                    cases hx with
                    | ptr loc h1 h2 =>
                      refine ⟨_, ?_, run_sliceArr hu hs k1' w⟩
                      rw [if_neg hne, add_mk]
                      exact .osl loc (m - l) h1 h2 (by omega) (fun c hc => by cases hc; rfl) (fun hc => by cases hc)
                    | ptrOld loc h1 h2 a =>
                      refine ⟨_, ?_, run_sliceArr hu hs k1' w⟩
                      rw [if_neg hne]
                      exact .oslOld loc h1 h2 _ _ (by omega) (fun c hc => by cases hc; rfl)
                  . rename_i cells off
                    split at hc
                    . rename_i hbd
                      cases hc
                      cases hx with
                      | eptr b o vs h1 h2 =>
                        refine ⟨_, ?_, run_sliceArr hu hs k1' w⟩
                        rw [if_neg hne, add_mk]
                        have hmul : l * s + (hh' - l) * s = hh' * s := by rw [<- Nat.add_mul]; congr 1; omega
                        exact .sl ⟨b, o + off + l * s, none⟩ (m - l) (fun j => vs (off + l * s + j)) (by simp; omega) (by omega) (fun c hc => by cases hc; rfl)
                          (fun j x hj => by
                            have := h1 _ x (drop_take_get hj)
                            exact ⟨rfl, by rw [show o + off + l * s + j = o + (off + l * s + j) by omega]; exact this.1, this.2⟩)
                          (fun j x hj => h2 _ x (drop_take_get hj))
                    . cases hc
                  . rename_i g off
                    split at hc
                    . rename_i cells hg
                      split at hc
                      . rename_i hbd
                        cases hc
                        cases hx with
                        | glob =>
                          obtain ⟨vs, hv⟩ := h.glob g cells hg
                          refine ⟨_, ?_, run_sliceArr hu hs k1' w⟩
                          rw [if_neg hne, add_mk]
                          have hmul : l * s + (hh' - l) * s = hh' * s := by rw [<- Nat.add_mul]; congr 1; omega
                          exact .sl ⟨g, off + l * s, none⟩ (m - l) (fun j => vs (off + l * s + j)) (by simp; omega) (by omega) (fun c hc => by cases hc; rfl)
                            (fun j x hj => by
                              have := hv _ x (drop_take_get hj)
                              exact ⟨rfl, this.1, this.2.1⟩)
                            (fun j x hj => (hv _ x (drop_take_get hj)).2.2)
                      . cases hc
                    . cases hc
                  . cases hc
              . cases hc
            . cases hc
          . cases hc
      . cases hc
    . cases hc
end
end
section
section
variable {E : Env} {fl : Nat} {Γ : Sealed} {ρ : Ren} {σ : Store} {w : World}
structure Src (P : Program) (Γ : Sealed) (ρ : Ren) (w : World) (zeros : Bool) (i : TypeInfo) (z u : Value) (n : Nat) (new : List PV) (cs : Array Value) : Prop where
  reps : Reps Γ ρ new cs.toList
  one : new.all PV.oneCell = true
  plain : zeros = false -> (Builtin.lenOf u).run P w = .ok n w /\ (Builtin.firstCells i.size n u).run P w = .ok cs w /\ (Builtin.firstCells i.size n u).run P w.drew = .ok cs w.drew
  made : zeros = true -> u = .int .i64 (n : Int) /\ n <= 1048576 /\ cs = Builtin.zeroCells z.cells n
theorem bytes_reps (s : List UInt8) : Reps Γ ρ (s.map fun b => PV.int .u8 b.toNat) (s.map fun b => Value.int .u8 b.toNat) := by
  refine ⟨by simp, fun j x v hx hv => ?_⟩
  simp only [List.getElem?_map, Option.map_eq_some_iff] at hx hv
  obtain ⟨b, hb, rfl⟩ := hx
  obtain ⟨b', hb', rfl⟩ := hv
  rw [hb] at hb'
  cases hb'
  exact .int _ _
theorem sourceA_ok (h : Rel E fl Γ ρ σ w) {zeros : Bool} {e : TypeId} {i : TypeInfo} {z : Value} (hi : E.P.info? e = some i) (hz : i.zero = some z) (hpos : 0 < i.size) {x : PV} {u : Value} {n : Nat} {new : List PV} (hs : sourceA E σ zeros e x = some (n, new))
    (hx : Rep Γ ρ x u) (hlen : new.length = n * i.size) : ∃ cs, Src E.P Γ ρ w zeros i z u n new cs := by
  unfold sourceA at hs
  split at hs
  . rename_i hze
    subst hze
    split at hs
    . rename_i k zp hzp
      split at hs
      . rename_i hb
        cases hs
        cases hx
        obtain ⟨i', z', hi', hz', hrz, h1⟩ := zeroT_rep (Γ := Γ) (ρ := ρ) hzp
        rw [hi] at hi'; cases hi'
        rw [hz] at hz'; cases hz'
        have hzl : 0 < zp.cells.length := hb.2.2
        refine ⟨Builtin.zeroCells z.cells k.toNat, ?_, repCells_all h1 _, (fun hc => by cases hc), (fun _ => ⟨by rw [Int.toNat_of_nonneg hb.1], by omega, rfl⟩)⟩
        have := made_reps hrz.cells hzl k.toNat
        have hsz : z.cells.size = zp.cells.length := by have := hrz.cells.1; simpa using this
        unfold Builtin.zeroCells
        rw [hsz] at this ⊢
        exact this
      . cases hs
    . cases hs
  . rename_i hze
    have hze' : zeros = false := by simpa using hze
    subst hze'
    split at hs
    . rename_i s
      cases hs
      cases hx
      refine ⟨(s.map fun b => Value.int .u8 b.toNat).toArray, by simpa using bytes_reps s, by simp [PV.oneCell], (fun _ => ?_), (fun hc => by cases hc)⟩
      have hsz : (⟨⟨s⟩⟩ : ByteArray).size = s.length := rfl
      have hext : (⟨⟨s⟩⟩ : ByteArray).extract 0 s.length = ⟨⟨s⟩⟩ := by rw [extract_mk']; simp
      refine ⟨by simp [Builtin.lenOf, hsz], by simp [Builtin.firstCells, hext], by simp [Builtin.firstCells, hext]⟩
    . split at hs
      . rename_i m cs hm hcs
        cases hs
        rcases viewCells_ok h hcs hx with ⟨rfl, rfl, hl0⟩ | ⟨ad, m', cap, rfl, hm', hrd⟩
        . rw [hm] at hl0
          cases hl0
          exact ⟨#[], Reps.nil, rfl, (fun _ => ⟨by simp [Builtin.lenOf], by simp [Builtin.firstCells], by simp [Builtin.firstCells]⟩), (fun hc => by cases hc)⟩
        . rw [hm] at hm'
          cases hm'
          obtain ⟨h1, vs, h2, h3⟩ := hrd
          have hvl : vs.length = n * i.size := by rw [h2.1, hlen]
          refine ⟨vs.toArray, by simpa using h2, h1, (fun _ => ⟨by simp [Builtin.lenOf], ?_, ?_⟩), (fun hc => by cases hc)⟩
          . have := run_loadCells_list (P := E.P) w ad vs h3
            rw [hvl] at this
            simp [Builtin.firstCells, this]
          . have := run_loadCells_list (P := E.P) w.drew ad vs (fun j v hv => by simpa using h3 j v hv)
            rw [hvl] at this
            simp [Builtin.firstCells, this]
      . cases hs
theorem isIntT_cases {P : Program} {t : Option TypeId} {zeros : Bool} (h : isIntT P t = some zeros) :
    (t = none /\ zeros = false) ∨ (∃ x k, t = some x /\ P.underlying x = some (.int k) /\ zeros = true) ∨ (∃ x e, t = some x /\ P.underlying x = some (.slice e) /\ zeros = false) ∨ (∃ x, t = some x /\ P.underlying x = some .string /\ zeros = false) := by
  unfold isIntT at h
  split at h
  . cases h; exact .inl ⟨rfl, rfl⟩
  . split at h
    . rename_i hu; cases h; exact .inr (.inl ⟨_, _, rfl, hu, rfl⟩)
    . rename_i hu; cases h; exact .inr (.inr (.inl ⟨_, _, rfl, hu, rfl⟩))
    . rename_i hu; cases h; exact .inr (.inr (.inr ⟨_, rfl, hu, rfl⟩))
    . cases h
theorem run_append_room_some {P : Program} {argTypes : Array TypeId} {ty t e : TypeId} {i : TypeInfo} {z u : Value} {zeros : Bool} {n sLen sCap : Nat} {a : Addr} {new : List PV} {cs : Array Value} {w' : World}
    (h0 : argTypes[0]? = some t) (hu : P.underlying t = some (.slice e)) (hi : P.info? e = some i) (hz : i.zero = some z) (hzp : 0 < i.size) (hzs : z.cells.size = i.size) (hint : isIntT P argTypes[1]? = some zeros) (hb : i.bytes <= 65536)
    (src : Src P Γ ρ w zeros i z u n new cs) (hroom : sLen + n <= sCap) (hst : (storeCells (a.add (sLen * i.size)) cs.toList).run P w = .ok () w') :
    (Builtin.append_ argTypes ty #[.slice (some a) sLen sCap, u]).run P w = .ok (.slice (some a) (sLen + n) sCap) w' := by
  rcases isIntT_cases hint with ⟨h1, rfl⟩ | ⟨x, k, h1, h2, rfl⟩ | ⟨x, k, h1, h2, rfl⟩ | ⟨x, h1, h2, rfl⟩
  . obtain ⟨p1, p2, p3⟩ := src.plain rfl
    simp [Builtin.append_, h0, h1, run_underlying hu, sizeOf, typeInfo, hi, p1, p2, hroom, hst]
  . obtain ⟨rfl, m2, rfl⟩ := src.made rfl
    have hw : IntKind.i64.wrap (n : Int) = n := by rw [IntKind.wrap_i64]; omega
    have hneg : ¬ ((n : Int) < 0) := by omega
    have hbig : ¬ (281474976710656 < (n : Int) * (i.bytes : Int)) := by
      have : (n : Int) * (i.bytes : Int) <= 1048576 * 65536 := Int.mul_le_mul (by omega) (by omega) (by omega) (by omega)
      omega
    by_cases hn : n * i.size = 0
    . have hn0 : n = 0 := by rcases Nat.mul_eq_zero.1 hn with h | h <;> omega
      subst hn0
      have hw0 : IntKind.i64.wrap 0 = 0 := by rw [IntKind.wrap_i64]; omega
      have hzc : Builtin.zeroCells z.cells 0 = #[] := by simp [Builtin.zeroCells, Array.range_zero']
      rw [hzc] at hst
      simp [storeCells] at hst
      subst hst
      simp [Builtin.append_, h0, h1, h2, run_underlying hu, run_underlying h2, sizeOf, typeInfo, zeroValue, hi, hz, asInt, asIntOf, hw0, storeCells, show sLen <= sCap by omega]
    . simp [Builtin.append_, h0, h1, run_underlying hu, run_underlying h2, sizeOf, typeInfo, zeroValue, hi, hz, asInt, asIntOf, hw, hneg, hbig, hroom, hst, hn]
  . obtain ⟨p1, p2, p3⟩ := src.plain rfl
    simp [Builtin.append_, h0, h1, run_underlying hu, run_underlying h2, sizeOf, typeInfo, hi, p1, p2, hroom, hst]
  . obtain ⟨p1, p2, p3⟩ := src.plain rfl
    simp [Builtin.append_, h0, h1, run_underlying hu, run_underlying h2, sizeOf, typeInfo, hi, p1, p2, hroom, hst]
theorem run_append_none {P : Program} {argTypes : Array TypeId} {ty t e : TypeId} {i : TypeInfo} {z u : Value} {zeros : Bool} {sLen sCap : Nat} {a : Option Addr} {new : List PV} {cs : Array Value}
    (h0 : argTypes[0]? = some t) (hu : P.underlying t = some (.slice e)) (hi : P.info? e = some i) (hz : i.zero = some z) (hint : isIntT P argTypes[1]? = some zeros) (hb : i.bytes <= 65536)
    (src : Src P Γ ρ w zeros i z u 0 new cs) (hc : cs = #[]) (hroom : sLen <= sCap) :
    (Builtin.append_ argTypes ty #[.slice a sLen sCap, u]).run P w = .ok (.slice a sLen sCap) w := by
  subst hc
  rcases isIntT_cases hint with ⟨h1, rfl⟩ | ⟨x, k, h1, h2, rfl⟩ | ⟨x, k, h1, h2, rfl⟩ | ⟨x, h1, h2, rfl⟩
  . obtain ⟨p1, p2, p3⟩ := src.plain rfl
    cases a <;> simp [Builtin.append_, h0, h1, run_underlying hu, sizeOf, typeInfo, hi, p1, p2, hroom, storeCells]
  . obtain ⟨rfl, m2, m3⟩ := src.made rfl
    have hw : IntKind.i64.wrap 0 = 0 := by rw [IntKind.wrap_i64]; omega
    cases a <;> simp [Builtin.append_, h0, h1, run_underlying hu, run_underlying h2, sizeOf, typeInfo, zeroValue, hi, hz, asInt, asIntOf, hw, hroom, storeCells]
  . obtain ⟨p1, p2, p3⟩ := src.plain rfl
    cases a <;> simp [Builtin.append_, h0, h1, run_underlying hu, run_underlying h2, sizeOf, typeInfo, hi, p1, p2, hroom, storeCells]
  . obtain ⟨p1, p2, p3⟩ := src.plain rfl
    cases a <;> simp [Builtin.append_, h0, h1, run_underlying hu, run_underlying h2, sizeOf, typeInfo, hi, p1, p2, hroom, storeCells]
theorem run_append_more {P : Program} {argTypes : Array TypeId} {ty t e : TypeId} {i : TypeInfo} {z u : Value} {zeros : Bool} {n sLen sCap : Nat} {a : Option Addr} {new : List PV} {cs old : Array Value}
    (h0 : argTypes[0]? = some t) (hu : P.underlying t = some (.slice e)) (hi : P.info? e = some i) (hz : i.zero = some z) (hzp : 0 < i.size) (hint : isIntT P argTypes[1]? = some zeros) (hb : i.bytes <= 65536)
    (src : Src P Γ ρ w zeros i z u n new cs) (hroom : sCap < sLen + n) (hn0 : n ≠ 0) (hsmall : sLen + n <= 2097152)
    (hold : (Builtin.firstCells i.size sLen (.slice a sLen sCap)).run P w.drew = .ok old w.drew) :
    (Builtin.append_ argTypes ty #[.slice a sLen sCap, u]).run P w = .ok (.slice (some ⟨w.heap.size, 0, none⟩) (sLen + n) (grownCap w (sLen + n) sCap e))
      (w.drew.alloc (.cells (old ++ cs ++ Builtin.zeroCells z.cells (grownCap w (sLen + n) sCap e - (sLen + n))) e)) := by
  have hr : ¬ (sLen + n <= sCap) := by omega
  have h63 : ¬ (9223372036854775807 < ((sLen : Int) + (n : Int))) := by omega
  have hfit : ¬ (281474976710656 < Builtin.nextslicecap (sLen + n) sCap * i.bytes) := by
    have h1 := nextslicecap_le hroom
    have : Builtin.nextslicecap (sLen + n) sCap * i.bytes <= 4194304 * 65536 := Nat.mul_le_mul (by omega) hb
    omega
  rcases isIntT_cases hint with ⟨h1, rfl⟩ | ⟨x, k, h1, h2, rfl⟩ | ⟨x, k, h1, h2, rfl⟩ | ⟨x, h1, h2, rfl⟩
  . obtain ⟨p1, p2, p3⟩ := src.plain rfl
    simp [Builtin.append_, h0, h1, run_underlying hu, sizeOf, typeInfo, zeroValue, hi, hz, p1, p3, hr, h63, hfit, Question.forced, hold, newRow, grownCap]
  . obtain ⟨rfl, m2, rfl⟩ := src.made rfl
    have hw : IntKind.i64.wrap (n : Int) = n := by rw [IntKind.wrap_i64]; omega
    have hneg : ¬ ((n : Int) < 0) := by omega
    have hbig : ¬ (281474976710656 < (n : Int) * (i.bytes : Int)) := by
      have : (n : Int) * (i.bytes : Int) <= 1048576 * 65536 := Int.mul_le_mul (by omega) (by omega) (by omega) (by omega)
      omega
    have hn : ¬ (n * i.size = 0) := by
      have : 0 < n * i.size := Nat.mul_pos (by omega) hzp
      omega
    simp [Builtin.append_, h0, h1, run_underlying hu, run_underlying h2, sizeOf, typeInfo, zeroValue, hi, hz, asInt, asIntOf, hw, hneg, hbig, hn, hr, h63, hfit, Question.forced, hold, newRow, grownCap]
  . obtain ⟨p1, p2, p3⟩ := src.plain rfl
    simp [Builtin.append_, h0, h1, run_underlying hu, run_underlying h2, sizeOf, typeInfo, zeroValue, hi, hz, p1, p3, hr, h63, hfit, Question.forced, hold, newRow, grownCap]
  . obtain ⟨p1, p2, p3⟩ := src.plain rfl
    simp [Builtin.append_, h0, h1, run_underlying hu, run_underlying h2, sizeOf, typeInfo, zeroValue, hi, hz, p1, p3, hr, h63, hfit, Question.forced, hold, newRow, grownCap]
end
end
section
section
variable {E : Env} {fl : Nat} {Γ : Sealed} {ρ : Ren} {σ : Store} {w : World}
theorem Same.drewAlloc (w : World) (o : Obj) : Same w (w.drew.alloc o) := ⟨by simp, rfl, rfl, ⟨rfl, fun _ => Nat.le_succ _⟩⟩
theorem drewAlloc_lt (w : World) (o : Obj) : ∀ b, b < w.heap.size -> (w.drew.alloc o).heap[b]? = w.heap[b]? := fun b hb => heap_alloc_old w.drew o b hb
theorem drewAlloc_new (w : World) (o : Obj) : (w.drew.alloc o).heap[w.heap.size]? = some o := heap_alloc_new w.drew o
theorem Reads.first {xs : List PV} {a : Addr} (h : Reads Γ ρ w xs a) (P : Program) {size n cap : Nat} (hn : xs.length = n * size) :
    ∃ old : Array Value, Reps Γ ρ xs old.toList /\ (Builtin.firstCells size n (.slice (some a) n cap)).run P w.drew = .ok old w.drew := by
  obtain ⟨h1, vs, h2, h3⟩ := h
  refine ⟨vs.toArray, by simpa using h2, ?_⟩
  have := run_loadCells_list (P := P) w.drew a vs (fun j v hv => by simpa using h3 j v hv)
  rw [h2.1, hn] at this
  simp [Builtin.firstCells, this]
theorem all_append {xs ys : List PV} (h : xs.all PV.oneCell = true) (k : ys.all PV.oneCell = true) : (xs ++ ys).all PV.oneCell = true := by simp [List.all_append, h, k]
theorem grown_reps {xs ys : List PV} {old cs rest : Array Value} (h : Reps Γ ρ xs old.toList) (k : Reps Γ ρ ys cs.toList) : Reps Γ ρ (xs ++ ys) ((old ++ cs ++ rest).toList.take (xs ++ ys).length) := by
  have e : (old ++ cs ++ rest).toList.take (xs ++ ys).length = old.toList ++ cs.toList := by
    have h1 := h.1
    have h2 := k.1
    simp only [Array.toList_append, List.length_append]
    rw [List.append_assoc, <- List.append_assoc, List.take_left' (by simp only [List.length_append]; omega)]
  rw [e]
  exact h.append k
set_option maxHeartbeats 1000000 in
theorem appendA_ok (h : Rel E fl Γ ρ σ w) (hfl : fl <= σ.length) {argTypes : Array TypeId} {ty t e : TypeId} {zeros : Bool} {x y p : PV} {v u : Value} {n : Nat} {new : List PV} {σ' : Store}
    (h0 : argTypes[0]? = some t) (hu : E.P.underlying t = some (.slice e)) (hint : isIntT E.P argTypes[1]? = some zeros) (hs : sourceA E σ zeros e y = some (n, new)) (ha : appendA E fl σ e x n new = some (p, σ'))
    (hx : Rep Γ ρ x v) (hy : Rep Γ ρ y u) :
    ∃ r w', (Builtin.append_ argTypes ty #[v, u]).run E.P w = .ok r w' /\ Moves E fl Γ ρ σ w p σ' r w' := by
  unfold appendA at ha
  split at ha
  . rename_i i zp hi hzp
    dsimp only at ha
    split at ha
    . rename_i hc
      obtain ⟨c1, c2, c3, c4⟩ := hc
      obtain ⟨i', z, hi', hz, hrz, hz1⟩ := zeroT_rep (Γ := Γ) (ρ := ρ) hzp
      rw [hi] at hi'
      cases hi'
      have hzs : z.cells.size = i.size := by have := hrz.cells.1; simp at this; omega
      obtain ⟨cs, src⟩ := sourceA_ok h hi hz c1 hs hy c3
      have hcs : cs.size = n * i.size := by have := src.reps.1; simp at this; omega
      split at ha
      . rename_i hn0
        subst hn0
        have hcs0 : cs = #[] := Array.eq_empty_of_size_eq_zero (by simpa using hcs)
        have : p = x /\ σ' = σ /\ ∃ a sLen sCap, v = .slice a sLen sCap /\ sLen <= sCap := by
          split at ha
          . cases ha; cases hx; exact ⟨rfl, rfl, _, _, _, rfl, Nat.le_refl _⟩
          . cases ha
            cases hx with
            | sl a cap vs hn hc hx h1 hr => exact ⟨rfl, rfl, _, _, _, rfl, hc⟩
            | slNil hx => exact ⟨rfl, rfl, _, _, _, rfl, Nat.le_refl _⟩
          . cases ha
            cases hx with
            | sln a cap => exact ⟨rfl, rfl, _, _, _, rfl, Nat.zero_le _⟩
          . cases ha
            cases hx with
            | osl l cap h1 h2 hc hx ho => exact ⟨rfl, rfl, _, _, _, rfl, hc⟩
            | oslOld l h1 h2 a cap hc hx' => exact ⟨rfl, rfl, _, _, _, rfl, hc⟩
          . cases ha
        obtain ⟨rfl, rfl, a, sLen, sCap, rfl, hle⟩ := this
        exact ⟨_, w, run_append_none h0 hu hi hz hint c4 src hcs0 hle, Moves.stay h hx⟩
      . rename_i hn0
        split at ha
        . -- nil
          split at ha
          . rename_i hsm
            cases ha
            cases hx
            have hrun := run_append_more (P := E.P) (ty := ty) (sLen := 0) (sCap := 0) (a := none) (old := #[]) h0 hu hi hz c1 hint c4 src (by omega) hn0 (by omega) (by simp [Builtin.firstCells])
            simp only [Nat.zero_add, Array.empty_append] at hrun
            refine ⟨_, _, hrun, ?_⟩
            have hge := grownCap_ge w n 0 e
            have hn := new_ok h hfl (Same.drewAlloc w (.cells (cs ++ Builtin.zeroCells z.cells (grownCap w n 0 e - n)) e)) (drewAlloc_lt w _) (m := ⟨new, i.size, n, false, false, ptrT E.P e⟩) (cap := grownCap w n 0 e) (Nat.le_refl _) (drewAlloc_new w _)
              (by simp only [Array.size_append, size_zeroCells, hcs, hzs, <- Nat.add_mul]; congr 1; omega) c3 hge (fun hc => by cases hc) src.one (by
                have := grown_reps (xs := []) (old := #[]) (rest := Builtin.zeroCells z.cells (grownCap w n 0 e - n)) Reps.nil src.reps
                simpa using this)
            exact ⟨Γ, _, Rep.osl (id := σ.length) ⟨w.heap.size, grownCap w n 0 e, n, i.size⟩ _ hn.2.2 rfl hge (fun c hc => by cases hc) (fun _ => ⟨rfl, by simp⟩), hn.1, hn.2.1⟩
          . cases ha
        . -- sealed, its capacity known
          rename_i cells es len c
          split at ha
          . rename_i hb
            obtain ⟨b1, b2, b3, b4⟩ := hb
            cases ha
            subst b1
            cases hx with
            | slNil hx0 =>
              have hrun := run_append_more (P := E.P) (ty := ty) (sLen := 0) (sCap := 0) (a := none) (old := #[]) h0 hu hi hz c1 hint c4 src (by omega) hn0 (by omega) (by simp [Builtin.firstCells])
              simp only [Nat.zero_add, Array.empty_append, List.nil_append] at hrun ⊢
              refine ⟨_, _, hrun, ?_⟩
              have hge := grownCap_ge w n 0 e
              have hn := new_ok h hfl (Same.drewAlloc w (.cells (cs ++ Builtin.zeroCells z.cells (grownCap w n 0 e - n)) e)) (drewAlloc_lt w _) (m := ⟨new, i.size, n, false, false, false⟩) (cap := grownCap w n 0 e) (Nat.le_refl _) (drewAlloc_new w _)
                (by simp only [Array.size_append, size_zeroCells, hcs, hzs, <- Nat.add_mul]; congr 1; omega) c3 hge (fun hc => by cases hc) src.one (by
                  have := grown_reps (xs := []) (old := #[]) (rest := Builtin.zeroCells z.cells (grownCap w n 0 e - n)) Reps.nil src.reps
                  simpa using this)
              exact ⟨Γ, _, Rep.osl (id := σ.length) ⟨w.heap.size, grownCap w n 0 e, n, i.size⟩ _ hn.2.2 rfl hge (fun c hc => by cases hc) (fun _ => ⟨rfl, by simp⟩), hn.1, hn.2.1⟩
            | sl a cap vs hn hcap hxc h1 hr =>
              have hcc : cap = c := hxc c rfl
              obtain ⟨old, hold1, hold2⟩ := (sl_reads h h1 hr).first E.P (cap := cap) hn
              have hrun := run_append_more (P := E.P) (ty := ty) h0 hu hi hz c1 hint c4 src (by omega) hn0 (by omega) hold2
              refine ⟨_, _, hrun, ?_⟩
              have hge := grownCap_ge w (len + n) cap e
              have holds : old.size = len * i.size := by have := hold1.1; simp at this; omega
              have hnn := new_ok h hfl (Same.drewAlloc w (.cells (old ++ cs ++ Builtin.zeroCells z.cells (grownCap w (len + n) cap e - (len + n))) e)) (drewAlloc_lt w _) (m := ⟨cells ++ new, i.size, len + n, false, false, false⟩) (cap := grownCap w (len + n) cap e) (Nat.le_refl _) (drewAlloc_new w _)
                (by simp only [Array.size_append, size_zeroCells, hcs, hzs, holds, <- Nat.add_mul]; congr 1; omega) (by simp only [List.length_append, hn, c3, Nat.add_mul]) hge (fun hc => by cases hc) (all_append b4 src.one) (grown_reps hold1 src.reps)
              exact ⟨Γ, _, Rep.osl (id := σ.length) ⟨w.heap.size, grownCap w (len + n) cap e, len + n, i.size⟩ _ hnn.2.2 rfl hge (fun c hc => by cases hc) (fun _ => ⟨rfl, by simp⟩), hnn.1, hnn.2.1⟩
          . cases ha
        . -- an object's
          rename_i id blen coff es len
          split at ha
          . rename_i m hm
            split at ha
            . rename_i hb
              obtain ⟨b1, b2, b3, b4, b5, b6, b7, b8⟩ := hb
              subst b1
              cases hx with
              | oslOld l k1 k2 a cap hc' hx' =>
                have := (h.memAt k1 hm).2.1
                omega
              | osl l cap k1 k2 hcap hxc ho =>
                obtain ⟨hget, e1, e2, e3, e4, e5, e6, C, T, e7, e8, e9⟩ := h.memAt k1 hm
                obtain ⟨o1, o2⟩ := ho rfl
                split at ha
                . rename_i hin
                  cases ha
                  have hdiv : coff % i.size = 0 := by
                    have h1 : coff = l.cap * i.size - cap * i.size := by omega
                    rw [h1, <- Nat.sub_mul]
                    exact Nat.mul_mod_left _ _
                  have hco : coff / i.size * i.size = coff := by have := Nat.div_add_mod coff i.size; rw [Nat.mul_comm]; omega
                  have hcap2 : cap + coff / i.size = l.cap := by
                    have : (cap + coff / i.size) * i.size = l.cap * i.size := by rw [Nat.add_mul, hco]; exact o2
                    exact Nat.eq_of_mul_eq_mul_right c1 this
                  have hfit : coff + len * i.size + new.length <= m.cells.length := by
                    rw [e3, b2, c3]
                    have : (coff / i.size + len + n) * i.size <= m.len * i.size := Nat.mul_le_mul_right _ hin
                    rw [Nat.add_mul, Nat.add_mul, hco] at this
                    exact this
                  obtain ⟨w', ρ', q1, q2, q3, q4⟩ := write_ok h k1 hm b5 b4 (off := coff + len * i.size) src.reps src.one hfit
                  have hrun := run_append_room_some (P := E.P) (ty := ty) (sLen := len) (sCap := cap) (a := ⟨l.block, coff, none⟩) h0 hu hi hz c1 hzs hint c4 src (by omega) (by rw [add_mk]; exact q1 E.P)
                  refine ⟨_, w', hrun, Γ, ρ', ?_, q2, q3⟩
                  exact .osl l cap q4 k2 (by omega) (fun c hc => by cases hc) (fun _ => ⟨o1, o2⟩)
                . rename_i hin
                  split at ha
                  . rename_i hco
                    subst hco
                    cases ha
                    have hcapl : cap = l.cap := Nat.eq_of_mul_eq_mul_right c1 (by omega)
                    subst hcapl
                    have hgt : m.len < len + n := by
                      have : 0 / i.size = 0 := Nat.zero_div _
                      omega
                    have hlen : len <= m.len := by
                      have : len * i.size <= m.len * i.size := by rw [e3, b2] at b8; omega
                      exact Nat.le_of_mul_le_mul_right this c1
                    have hcl : len * i.size <= m.cells.length := by omega
                    have htake : Reps Γ ρ (m.cells.take (len * i.size)) (C.toList.take (len * i.size)) := by
                      have := e9.take (len * i.size)
                      rwa [List.take_take, Nat.min_eq_left hcl] at this
                    have hml : (m.cells.take (len * i.size) ++ new).length = (len + n) * i.size := by
                      simp only [List.length_append, List.length_take, Nat.min_eq_left hcl, c3, Nat.add_mul]
                    by_cases hroom : len + n <= l.cap
                    . -- there is room
                      have hCs : 0 + len * i.size + cs.toList.length <= C.size := by
                        have : (len + n) * i.size <= l.cap * i.size := Nat.mul_le_mul_right _ hroom
                        rw [Nat.add_mul] at this
                        simp only [Array.length_toList, hcs, e8, b2]
                        omega
                      have hst := run_storeCells_at E.P l.block (len * i.size) T cs.toList 0 C w e7 (by simpa using hCs) (src.reps.oneCell src.one)
                      simp only [Nat.add_zero] at hst
                      have hrun := run_append_room_some (P := E.P) (ty := ty) (sLen := len) (sCap := l.cap) (a := ⟨l.block, 0, none⟩) h0 hu hi hz c1 hzs hint c4 src hroom (by rw [add_mk, Nat.zero_add]; exact hst)
                      refine ⟨_, _, hrun, ?_⟩
                      have hch := change_ok h k1 hget b5 b4 (m' := { m with cells := m.cells.take (len * i.size) ++ new, len := len + n, exact := false }) (Same.setRow w l.block (C.toList.take (len * i.size) ++ cs.toList ++ C.toList.drop (len * i.size + cs.toList.length)).toArray)
                        (fun b _ hb => setRow_other w l.block b _ hb) (cap := l.cap) (blk := l.block) (.inl ⟨rfl, rfl⟩) (setRow_heap w l.block C _ T (0, 0) e7) (by simp at hCs ⊢; omega) rfl b4 (.inr ⟨hgt, by omega⟩)
                        (by simp only [b2]; exact hml) hroom (fun hc => by cases hc) (all_append (by
                          rw [List.all_eq_true] at e6 ⊢
                          exact fun x hx => e6 x (List.mem_of_mem_take hx)) src.one) (by
                          simp only
                          have e : (C.toList.take (len * i.size) ++ cs.toList ++ C.toList.drop (len * i.size + cs.toList.length)).toArray.toList.take (m.cells.take (len * i.size) ++ new).length = C.toList.take (len * i.size) ++ cs.toList := by
                            have h1 : (C.toList.take (len * i.size) ++ cs.toList).length = (m.cells.take (len * i.size) ++ new).length := (htake.append src.reps).1
                            simp only
                            exact List.take_left' h1
                          rw [e]
                          exact htake.append src.reps)
                      exact ⟨Γ, _, Rep.osl (id := id) ⟨l.block, l.cap, len + n, m.size⟩ l.cap hch.2.2 rfl hroom (fun c hc => by cases hc) (fun _ => ⟨b2.symm, by simp⟩), hch.1, hch.2.1⟩
                    . -- it moves
                      have hrd := h.reads k1 hm 0 (len * i.size) (by omega)
                      obtain ⟨old, hold1, hold2⟩ := hrd.first E.P (cap := l.cap) (size := i.size) (n := len) (by simp; omega)
                      have hrun := run_append_more (P := E.P) (ty := ty) h0 hu hi hz c1 hint c4 src (by omega) hn0 (by omega) hold2
                      refine ⟨_, _, hrun, ?_⟩
                      have hge := grownCap_ge w (len + n) l.cap e
                      have holds : old.size = len * i.size := by have := hold1.1; simp at this; omega
                      simp only [List.drop_zero] at hold1
                      have hch := change_ok h k1 hget b5 b4 (m' := { m with cells := m.cells.take (len * i.size) ++ new, len := len + n, exact := false }) (Same.drewAlloc w (.cells (old ++ cs ++ Builtin.zeroCells z.cells (grownCap w (len + n) l.cap e - (len + n))) e))
                        (fun b hb _ => drewAlloc_lt w _ b hb) (cap := grownCap w (len + n) l.cap e) (blk := w.heap.size) (.inr ⟨Nat.le_refl _, hgt⟩) (drewAlloc_new w _)
                        (by simp only [Array.size_append, size_zeroCells, hcs, hzs, holds, b2, <- Nat.add_mul]; congr 1; omega) rfl b4 (.inr ⟨hgt, by omega⟩)
                        (by simp only [b2]; exact hml) hge (fun hc => by cases hc) (all_append (by
                          rw [List.all_eq_true] at e6 ⊢
                          exact fun x hx => e6 x (List.mem_of_mem_take hx)) src.one) (grown_reps hold1 src.reps)
                      exact ⟨Γ, _, Rep.osl (id := id) ⟨w.heap.size, grownCap w (len + n) l.cap e, len + n, m.size⟩ _ hch.2.2 rfl hge (fun c hc => by cases hc) (fun _ => ⟨b2.symm, by simp⟩), hch.1, hch.2.1⟩
                  . cases ha
            . cases ha
          . cases ha
        . cases ha
    . cases ha
  . cases ha
end
end
section
section
variable {E : Env} {fl : Nat} {Γ : Sealed} {ρ : Ren} {σ : Store} {w : World}
theorem minA_ok : ∀ (xs : List PV) (x p : PV) {v : Value} {vs : List Value}, minA x xs = some p -> Rep Γ ρ x v -> Reps Γ ρ xs vs -> ∃ r, Rep Γ ρ p r /\ ∀ (P : Program) (w : World), (vs.foldlM Builtin.min2 v).run P w = .ok r w
  | [], x, p, v, vs, h, hx, hr => by
    cases h
    rw [hr.inv_nil]
    exact ⟨v, hx, fun P w => by simp⟩
  | y :: xs, x, p, v, vs, h, hx, hr => by
    obtain ⟨u, us, rfl, hy, hus⟩ := hr.inv_cons
    unfold minA at h
    split at h
    . rename_i e; cases e
    . rename_i k a kb b rest e
      cases e
      cases hx; cases hy
      obtain ⟨r, h1, h2⟩ := minA_ok xs _ p h (.int k (if b < a then b else a)) hus
      exact ⟨r, h1, fun P w => by simp [List.foldlM_cons, Builtin.min2, h2]⟩
    . cases h
theorem maxA_ok : ∀ (xs : List PV) (x p : PV) {v : Value} {vs : List Value}, maxA x xs = some p -> Rep Γ ρ x v -> Reps Γ ρ xs vs -> ∃ r, Rep Γ ρ p r /\ ∀ (P : Program) (w : World), (vs.foldlM Builtin.max2 v).run P w = .ok r w
  | [], x, p, v, vs, h, hx, hr => by
    cases h
    rw [hr.inv_nil]
    exact ⟨v, hx, fun P w => by simp⟩
  | y :: xs, x, p, v, vs, h, hx, hr => by
    obtain ⟨u, us, rfl, hy, hus⟩ := hr.inv_cons
    unfold maxA at h
    split at h
    . rename_i e; cases e
    . rename_i k a kb b rest e
      cases e
      cases hx; cases hy
      obtain ⟨r, h1, h2⟩ := maxA_ok xs _ p h (.int k (if b > a then b else a)) hus
      exact ⟨r, h1, fun P w => by simp [List.foldlM_cons, Builtin.max2, h2]⟩
    . cases h
theorem lenA_slice {x : PV} {n : Nat} (h : lenA x = some n) {v : Value} (hx : Rep Γ ρ x v) (hs : (match x with | .str _ => False | _ => True)) : ∃ a cap, v = .slice a n cap := by
  unfold lenA at h
  split at h <;> first
    | (cases h; done)
    | (cases h; cases hx <;> exact ⟨_, _, rfl⟩)
    | exact hs.elim
theorem writeCells_ok (h : Rel E fl Γ ρ σ w) {id blen coff es len : Nat} {xc : Option Nat} {v : Value} {ys : List PV} {us : List Value} {σ' : Store} (hw : writeCells fl σ id blen coff ys = some σ')
    (hx : Rep Γ ρ (.osl id blen coff es len xc) v) (hy : Reps Γ ρ ys us) (h1 : ys.all PV.oneCell = true) :
    ∃ b cap w' ρ', v = .slice (some ⟨b, coff, none⟩) len cap /\ (∀ P, (storeCells ⟨b, coff, none⟩ us).run P w = .ok () w') /\ Rel E fl Γ ρ' σ' w' /\ Post fl Γ ρ σ w Γ ρ' σ' w' := by
  unfold writeCells at hw
  split at hw
  . rename_i m hm
    split at hw
    . rename_i hb
      obtain ⟨b1, b2, b3, b4⟩ := hb
      cases hw
      cases hx with
      | oslOld l k1 k2 a cap hc' hx' =>
        have := (h.memAt k1 hm).2.1
        omega
      | osl l cap k1 k2 hcap hxc ho =>
        obtain ⟨w', ρ', q1, q2, q3, q4⟩ := write_ok h k1 hm b1 b2 hy h1 b4
        exact ⟨l.block, cap, w', ρ', rfl, q1, q2, q3⟩
    . cases hw
  . cases hw
theorem source_first (h : Rel E fl Γ ρ σ w) {e : TypeId} {s : Nat} {x : PV} {u : Value} {n : Nat} {new : List PV} (hs : sourceA E σ false e x = some (n, new)) (hx : Rep Γ ρ x u) (hlen : new.length = n * s) (k : Nat) (hk : k <= n) :
    (Builtin.lenOf u).run E.P w = .ok n w /\ ∃ cs : Array Value, Reps Γ ρ (new.take (k * s)) cs.toList /\ new.all PV.oneCell = true /\ (Builtin.firstCells s k u).run E.P w = .ok cs w := by
  unfold sourceA at hs
  simp only [Bool.false_eq_true, if_false] at hs
  split at hs
  . rename_i l
    cases hs
    cases hx
    have hsz : (⟨⟨l⟩⟩ : ByteArray).size = l.length := rfl
    have hext : (⟨⟨l⟩⟩ : ByteArray).extract 0 k = ⟨⟨l.take k⟩⟩ := by rw [extract_mk']; simp
    have htake : l.take k = l.take (k * s) := by
      rcases Nat.eq_zero_or_pos l.length with h0 | h0
      . have : l = [] := List.eq_nil_of_length_eq_zero h0
        simp [this]
      . have h1 : l.length * 1 = l.length * s := by simpa using hlen
        have : 1 = s := Nat.eq_of_mul_eq_mul_left h0 h1
        rw [<- this, Nat.mul_one]
    refine ⟨by simp [Builtin.lenOf, hsz], ((l.take (k * s)).map fun b => Value.int .u8 b.toNat).toArray, ?_, by simp [PV.oneCell], ?_⟩
    . rw [<- List.map_take]
      simpa using bytes_reps (Γ := Γ) (ρ := ρ) (l.take (k * s))
    . simp [Builtin.firstCells, hext, htake]
  . split at hs
    . rename_i m cs hm hcs
      cases hs
      rcases viewCells_ok h hcs hx with ⟨rfl, rfl, hl0⟩ | ⟨ad, m', cap, rfl, hm', hrd⟩
      . rw [hm] at hl0
        cases hl0
        exact ⟨by simp [Builtin.lenOf], #[], by simpa using Reps.nil, rfl, by simp [Builtin.firstCells]⟩
      . rw [hm] at hm'
        cases hm'
        obtain ⟨h1, vs, h2, h3⟩ := hrd
        refine ⟨by simp [Builtin.lenOf], (vs.take (k * s)).toArray, by simpa using h2.take (k * s), h1, ?_⟩
        have hkl : k * s <= n * s := Nat.mul_le_mul_right _ hk
        have := run_loadCells_list (P := E.P) w ad (vs.take (k * s)) (fun j v hv => h3 j v (by rw [List.getElem?_take] at hv; split at hv; exact hv; cases hv))
        have hl : (vs.take (k * s)).length = k * s := by rw [List.length_take, h2.1, hlen]; omega
        rw [hl] at this
        simp [Builtin.firstCells, this]
    . cases hs
theorem cmpBytes_eq : ∀ (a b : List UInt8), cmpBytes a b = Lib.compareBytes a b
  | [], [] => rfl
  | [], _ :: _ => rfl
  | _ :: _, [] => rfl
  | x :: a, y :: b => by
    unfold cmpBytes Lib.compareBytes
    by_cases hxy : x = y
    . subst hxy
      have hlt : ¬ x < x := UInt8.lt_irrefl x
      simp [hlt, cmpBytes_eq a b]
    . by_cases hlt : x < y
      . simp [hxy, hlt]
      . have : y < x := UInt8.lt_of_le_of_ne (UInt8.not_lt.1 hlt) (Ne.symm hxy)
        simp [hxy, hlt, this]
theorem run_loadBytes {P : Program} {a : Addr} : ∀ (ns : List Int) (k : Nat) (l : List UInt8), (∀ (j : Nat) (v : Value), (ns.map (Value.int .u8))[j]? = some v -> w.cell? (a.add (k + j)) = some v) ->
    (∀ n, (a.add n).add 1 = a.add (n + 1)) -> (Extern.Bytes.loadBytes (a.add k) ns.length ⟨⟨l⟩⟩).run P w = .ok ⟨⟨l ++ ns.map fun n => UInt8.ofNat n.toNat⟩⟩ w
  | [], k, l, _, _ => by simp [Extern.Bytes.loadBytes]
  | n :: ns, k, l, h, hadd => by
    have h0 := h 0 (.int .u8 n) rfl
    simp only [Nat.add_zero] at h0
    have e : (⟨⟨l⟩⟩ : ByteArray).push (UInt8.ofNat n.toNat) = ⟨⟨l ++ [UInt8.ofNat n.toNat]⟩⟩ := by
      apply ByteArray.ext
      simp [ByteArray.push]
    have ih := run_loadBytes (P := P) (a := a) ns (k + 1) (l ++ [UInt8.ofNat n.toNat]) (fun j v hv => by rw [show k + 1 + j = k + (j + 1) by omega]; exact h (j + 1) v (by simpa using hv)) hadd
    simp only [List.length_cons, Extern.Bytes.loadBytes, Sem.run_bind, run_load, h0, Result.andThen_ok]
    have e2 : (⟨⟨l⟩⟩ : ByteArray).push n.toNat.toUInt8 = ⟨⟨l ++ [UInt8.ofNat n.toNat]⟩⟩ := e
    rw [e2, hadd, ih]
    simp
theorem add_add (a : Addr) (n : Nat) : (a.add n).add 1 = a.add (n + 1) := by
  unfold Addr.add
  by_cases h : n = 0
  . simp [h]
  . simp [h, Nat.add_assoc]
theorem bytesOf_run (h : Rel E fl Γ ρ σ w) {x : PV} {cells : List PV} {bs : List UInt8} {v : Value} (hv : viewCells σ x = some cells) (hb : bytesOf cells = some bs) (hlen : lenA x = some cells.length) (hx : Rep Γ ρ x v) :
    (Extern.Bytes.bytesOf v).run E.P w = .ok ⟨⟨bs⟩⟩ w := by
  rcases viewCells_ok h hv hx with ⟨rfl, rfl, _⟩ | ⟨ad, n, cap, rfl, hm, hrd⟩
  . cases hb
    simp [Extern.Bytes.bytesOf]
    rfl
  . rw [hlen] at hm
    cases hm
    obtain ⟨h1, vs, h2, h3⟩ := hrd
    obtain ⟨ns, rfl, rfl⟩ := bytesOf_ok hb h2
    have hl : ns.length = cells.length := by have := h2.1; simpa using this
    have := run_loadBytes (P := E.P) (w := w) (a := ad) ns 0 [] (fun j v hv => by rw [Nat.zero_add]; exact h3 j v hv) (add_add ad)
    have ha : ad.add 0 = ad := by simp [Addr.add]
    rw [ha, hl] at this
    have e0 : (ByteArray.empty : ByteArray) = ⟨⟨[]⟩⟩ := rfl
    simp only [Extern.Bytes.bytesOf]
    rw [e0, this]
    simp
end
end
end Go.Proofs.YtaofbpldflcjmaaDoor.Am
