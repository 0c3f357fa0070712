/- Evaluation with unknown parts: where it answers, the interpreter answers so. Steps. -/
import Derived.Test.YtaofbpldflcjmaaDoorMZSym
set_option linter.unusedVariables false
set_option linter.unusedSimpArgs false
namespace Go.Proofs.YtaofbpldflcjmaaDoor.Am
theorem ass_some {R : Type} {c : Bool} {x : Option R} {r : R} (h : ass c x = some r) : c = true /\ x = some r := by
  cases c with
  | true => exact ⟨rfl, h⟩
  | false => cases h
theorem brH_some {R : Type} {h : Option Bool} {c : Bool} {a b : Option R} {r : R} (e : brH h c a b = some r) : (bif c then a else b) = some r := by
  unfold brH at e
  split at e
  . exact e
  . obtain ⟨rfl, e⟩ := ass_some e; exact e
  . obtain ⟨h1, e⟩ := ass_some e
    have : c = false := by simpa using h1
    rw [this]; exact e
theorem then1_some {A R : Type} {x : Option A} {k : A -> Option R} {r : R} (h : then1 x k = some r) : ∃ a, x = some a /\ k a = some r := by
  cases x with
  | none => cases h
  | some a => exact ⟨a, rfl, h⟩
theorem then2_some {A B R : Type} {x : Option (A × B)} {k : A -> B -> Option R} {r : R} (h : then2 x k = some r) : ∃ a b, x = some (a, b) /\ k a b = some r := by
  cases x with
  | none => cases h
  | some p => exact ⟨p.1, p.2, rfl, h⟩
theorem Kd.ok_view {k : Kd} {x : PV} (h : k.ok x = true) : viewC k x = k.shape x := by
  cases k <;> cases x <;> simp_all [Kd.ok, viewC, Kd.shape, asI, asB, asS, slCells, slLen, slCap]
theorem Kd.ok_viewW {k : Kd} {x : PV} (h : k.ok x = true) : viewW k x = k.shapeW x := by
  cases k <;> cases x <;> simp_all [Kd.ok, viewW, Kd.shapeW, Kd.shape, asI, asB, asS, slCells, slLen, slCap]
theorem okAt_lt {k : Kd} {ks : List Kd} {cells : List PV} {off : Nat} (h : okAt (k :: ks) cells off = true) : ∃ x, cells[off]? = some x /\ k.ok x = true /\ okAt ks cells (off + 1) = true := by
  simp only [okAt, Bool.and_eq_true] at h
  obtain ⟨h1, h2⟩ := h
  split at h1
  . rename_i x hx; exact ⟨x, hx, h1, h2⟩
  . cases h1
theorem okAt_take : ∀ (ks : List Kd) (cells : List PV) (off : Nat), off <= cells.length -> okAt ks cells off = true -> off + ks.length <= cells.length /\ viewL ks ((cells.drop off).take ks.length) = shapeAt ks cells off
  | [], cells, off, hl, _ => ⟨by simpa using hl, by simp [viewL, shapeAt]⟩
  | k :: ks, cells, off, hl, h => by
    obtain ⟨x, hx, hk, h2⟩ := okAt_lt h
    obtain ⟨hlt, hxe⟩ := List.getElem?_eq_some_iff.1 hx
    obtain ⟨r1, r2⟩ := okAt_take ks cells (off + 1) hlt h2
    refine ⟨by simp only [List.length_cons]; omega, ?_⟩
    rw [List.drop_eq_getElem_cons hlt]
    simp only [List.length_cons, List.take_succ_cons, viewL, shapeAt]
    rw [r2, hxe, Kd.ok_viewW hk]
    congr 1
    rw [List.getD_eq_getElem?_getD, hx]
    rfl
section
variable {E : Env} {σ : Store} {R : Type} {r : R}
mutual
theorem oldVS_ok {n : Nat} : ∀ {x : PV} {k : Option R}, oldVS n x k = some r -> oldV n x = true /\ k = some r
  | .ptr id _ _, k, h => by
    simp only [oldVS] at h
    split at h
    . rename_i hb; exact ⟨by simpa [oldV] using (show id < n from Nat.le_of_ble_eq_true hb), h⟩
    . cases h
  | .osl id _ _ _ _ _, k, h => by
    simp only [oldVS] at h
    split at h
    . rename_i hb; exact ⟨by simpa [oldV] using (show id < n from Nat.le_of_ble_eq_true hb), h⟩
    . cases h
  | .mp id, k, h => by
    simp only [oldVS] at h
    split at h
    . rename_i hb; exact ⟨by simpa [oldV] using (show id < n from Nat.le_of_ble_eq_true hb), h⟩
    . cases h
  | .eptr cells _, k, h => by simp only [oldVS] at h; simpa [oldV] using ass_some h
  | .sl cells _ _ _, k, h => by simp only [oldVS] at h; simpa [oldV] using ass_some h
  | .agg cs, k, h => by simp only [oldVS] at h; simpa [oldV] using oldLS_ok h
  | .tup cs, k, h => by simp only [oldVS] at h; simpa [oldV] using oldLS_ok h
  | .fn _ a b, k, h => by
    simp only [oldVS] at h
    obtain ⟨h1, h⟩ := oldLS_ok h
    obtain ⟨h2, h⟩ := oldLS_ok h
    exact ⟨by simp [oldV, h1, h2], h⟩
  | .iface _ v, k, h => by simp only [oldVS] at h; simpa [oldV] using oldVS_ok h
  | .bool _, k, h => ⟨rfl, h⟩
  | .int _ _, k, h => ⟨rfl, h⟩
  | .str _, k, h => ⟨rfl, h⟩
  | .nilp, k, h => ⟨rfl, h⟩
  | .glob _ _, k, h => ⟨rfl, h⟩
  | .gptr _, k, h => ⟨rfl, h⟩
  | .nils, k, h => ⟨rfl, h⟩
  | .sln _, k, h => ⟨rfl, h⟩
  | .nilfn, k, h => ⟨rfl, h⟩
  | .nilif, k, h => ⟨rfl, h⟩
  | .nilm, k, h => ⟨rfl, h⟩
  | .yld, k, h => ⟨rfl, h⟩
theorem oldLS_ok {n : Nat} : ∀ {xs : List PV} {k : Option R}, oldLS n xs k = some r -> oldL n xs = true /\ k = some r
  | [], k, h => ⟨rfl, h⟩
  | x :: xs, k, h => by
    simp only [oldLS] at h
    obtain ⟨h1, h⟩ := oldVS_ok h
    obtain ⟨h2, h⟩ := oldLS_ok h
    exact ⟨by simp [oldL, h1, h2], h⟩
end
mutual
theorem renVS_ok {n : Nat} {L : List Nat} : ∀ {x : PV} {k : PV -> Option R}, renVS n L x k = some r -> ∃ y, renV n L x = some y /\ k y = some r
  | .ptr id b o, k, h => by
    simp only [renVS] at h
    split at h
    . rename_i id' hid; exact ⟨_, by simp [renV, hid], h⟩
    . cases h
  | .osl id b c e l x, k, h => by
    simp only [renVS] at h
    split at h
    . rename_i id' hid; exact ⟨_, by simp [renV, hid], h⟩
    . cases h
  | .mp id, k, h => by
    simp only [renVS] at h
    split at h
    . rename_i id' hid; exact ⟨_, by simp [renV, hid], h⟩
    . cases h
  | .eptr cells _, k, h => by
    simp only [renVS] at h
    obtain ⟨h1, h⟩ := ass_some h
    exact ⟨_, by simp [renV, h1], h⟩
  | .sl cells _ _ _, k, h => by
    simp only [renVS] at h
    obtain ⟨h1, h⟩ := ass_some h
    exact ⟨_, by simp [renV, h1], h⟩
  | .agg cs, k, h => by
    simp only [renVS] at h
    obtain ⟨ys, h1, h⟩ := renLS_ok h
    exact ⟨_, by simp [renV, h1], h⟩
  | .tup cs, k, h => by
    simp only [renVS] at h
    obtain ⟨ys, h1, h⟩ := renLS_ok h
    exact ⟨_, by simp [renV, h1], h⟩
  | .fn f a b, k, h => by
    simp only [renVS] at h
    obtain ⟨ys, h1, h⟩ := renLS_ok h
    obtain ⟨zs, h2, h⟩ := renLS_ok h
    exact ⟨_, by simp [renV, h1, h2], h⟩
  | .iface _ v, k, h => by
    simp only [renVS] at h
    obtain ⟨y, h1, h⟩ := renVS_ok h
    exact ⟨_, by simp [renV, h1], h⟩
  | .bool _, k, h => ⟨_, rfl, h⟩
  | .int _ _, k, h => ⟨_, rfl, h⟩
  | .str _, k, h => ⟨_, rfl, h⟩
  | .nilp, k, h => ⟨_, rfl, h⟩
  | .glob _ _, k, h => ⟨_, rfl, h⟩
  | .gptr _, k, h => ⟨_, rfl, h⟩
  | .nils, k, h => ⟨_, rfl, h⟩
  | .sln _, k, h => ⟨_, rfl, h⟩
  | .nilfn, k, h => ⟨_, rfl, h⟩
  | .nilif, k, h => ⟨_, rfl, h⟩
  | .nilm, k, h => ⟨_, rfl, h⟩
  | .yld, k, h => ⟨_, rfl, h⟩
theorem renLS_ok {n : Nat} {L : List Nat} : ∀ {xs : List PV} {k : List PV -> Option R}, renLS n L xs k = some r -> ∃ ys, renL n L xs = some ys /\ k ys = some r
  | [], k, h => ⟨_, rfl, h⟩
  | x :: xs, k, h => by
    simp only [renLS] at h
    obtain ⟨y, h1, h⟩ := renVS_ok h
    obtain ⟨ys, h2, h⟩ := renLS_ok h
    exact ⟨_, by simp [renL, h1, h2], h⟩
end
theorem renSlotsS_ok {n : Nat} {L : List Nat} : ∀ {s : Slots} {k : Slots -> Option R}, renSlotsS n L s k = some r -> ∃ ys, renSlots n L s = some ys /\ k ys = some r
  | [], k, h => ⟨_, rfl, h⟩
  | none :: s, k, h => by
    simp only [renSlotsS] at h
    obtain ⟨ys, h2, h⟩ := renSlotsS_ok h
    exact ⟨_, by simp [renSlots, h2], h⟩
  | some v :: s, k, h => by
    simp only [renSlotsS] at h
    obtain ⟨y, h1, h⟩ := renVS_ok h
    obtain ⟨ys, h2, h⟩ := renSlotsS_ok h
    exact ⟨_, by simp [renSlots, h1, h2], h⟩
theorem renStoreS_ok {n : Nat} {L : List Nat} : ∀ {os : List Ob} {k : Store -> Option R}, renStoreS n L os k = some r -> ∃ ys, renStore n L os = some ys /\ k ys = some r
  | [], k, h => ⟨_, rfl, h⟩
  | .mem m :: os, k, h => by
    simp only [renStoreS] at h
    split at h
    . rename_i hb
      obtain ⟨cs, h1, h⟩ := renLS_ok h
      obtain ⟨ys, h2, h⟩ := renStoreS_ok h
      exact ⟨_, by simp [renStore, renOb, hb, h1, h2], h⟩
    . rename_i hb
      obtain ⟨h1, h⟩ := ass_some h
      obtain ⟨ys, h2, h⟩ := renStoreS_ok h
      exact ⟨_, by simp [renStore, renOb, hb, h1, h2], h⟩
  | .map m :: os, k, h => by
    simp only [renStoreS] at h
    obtain ⟨h1, h⟩ := ass_some h
    obtain ⟨ys, h2, h⟩ := renStoreS_ok h
    refine ⟨_, ?_, h⟩
    simp only [renStore, renOb, h1, if_true, h2]
theorem loadL_ok {t : TypeId} {cells : List PV} {off : Nat} {a : PV} {k : PV -> Option R} (hc : ∀ n, off + n <= cells.length -> cellsAt E σ a n = some ((cells.drop off).take n))
    (h : loadL E t cells off (loadAt E σ t a) k = some r) : ∃ v, loadAt E σ t a = some v /\ k v = some r := by
  unfold loadL at h
  split at h
  . exact then1_some h
  . rename_i k0 ks hk
    split at h
    . rename_i n hag hsz
      split at h
      . rename_i hn
        have hn : n = ks.length + 1 := Nat.eq_of_beq_eq_true hn
        obtain ⟨h1, h2⟩ := ass_some h
        obtain ⟨x, hx, _, _⟩ := okAt_lt h1
        have hlt := (List.getElem?_eq_some_iff.1 hx).1
        obtain ⟨r1, r2⟩ := okAt_take (k0 :: ks) cells off (Nat.le_of_lt hlt) h1
        refine ⟨_, ?_, h2⟩
        have := hc n (by rw [hn]; exact r1)
        unfold loadAt loadRaw
        simp only [hag, hsz, this, hk, Option.map_some, viewV]
        rw [hn, show ks.length + 1 = (k0 :: ks).length from rfl, r2]
      . cases h
    . rename_i n hag hsz
      split at h
      . obtain ⟨h1, h2⟩ := ass_some h
        obtain ⟨x, hx, hok, _⟩ := okAt_lt h1
        obtain ⟨hlt, hxe⟩ := List.getElem?_eq_some_iff.1 hx
        refine ⟨_, ?_, h2⟩
        have := hc 1 hlt
        rw [List.drop_eq_getElem_cons hlt, hxe] at this
        unfold loadAt loadRaw
        simp only [hag, this, hk, List.take_succ_cons, List.take_zero, Option.map_some, Option.some.injEq]
        have hg : cells.getD off .nilp = x := by rw [List.getD_eq_getElem?_getD, hx]; rfl
        rw [hg, <- Kd.ok_view hok]
        unfold viewV
        split
        . rename_i e; cases e
        . rename_i cs _
          cases k0 <;> simp [Kd.ok] at hok
          cases cs <;> simp [viewL, viewC, viewW]
        . rename_i e _; cases e; rfl
      . cases h
    . cases h
theorem caseL_ok {k : PV -> Option R} : ∀ {cells : List PV} {i off : Nat}, caseL cells i off k = some r -> ∃ x, i <= off /\ cells[off - i]? = some x /\ k x = some r
  | [], i, off, h => by cases h
  | x :: xs, i, off, h => by
    unfold caseL at h
    cases hb : Nat.beq off i with
    | true =>
      rw [hb] at h
      have := Nat.eq_of_beq_eq_true hb
      subst this
      exact ⟨x, Nat.le_refl _, by simp, h⟩
    | false =>
      rw [hb] at h
      obtain ⟨y, h1, h2, h3⟩ := caseL_ok h
      exact ⟨y, by omega, by rw [show off - i = (off - (i + 1)) + 1 from by omega, List.getElem?_cons_succ]; exact h2, h3⟩
theorem loadS_ok {t : TypeId} {a : PV} {k : PV -> Option R} (h : loadS E σ t a k = some r) : ∃ v, loadAt E σ t a = some v /\ k v = some r := by
  unfold loadS at h
  split at h
  . rename_i cells off
    exact loadL_ok (fun n hn => by simp [cellsAt, hn]) h
  . rename_i g off
    split at h
    . rename_i cells hg
      exact loadL_ok (fun n hn => by simp [cellsAt, hg, hn]) h
    . cases h
  . rename_i id blen off
    split at h
    . rename_i m hm
      split at h
      . split at h
        . rename_i hp
          obtain ⟨h1, h2⟩ := ass_some h
          have hl : m.len = blen := by simpa using h1
          obtain ⟨x, _, hx, h3⟩ := caseL_ok h2
          obtain ⟨hlt, hxe⟩ := List.getElem?_eq_some_iff.1 hx
          have hag : aggT E.P t = some false := by
            unfold ptrT at hp
            unfold aggT
            split at hp
            . rename_i u hu
              rw [hu]
            . cases hp
          refine ⟨viewV (E.kinds t) x, ?_, h3⟩
          unfold loadAt loadRaw
          simp only [Nat.sub_zero] at hlt hxe
          have hc : cellsAt E σ (.ptr id blen off) 1 = some [x] := by
            unfold cellsAt
            simp only [hm]
            rw [if_pos ⟨hl, by omega⟩, List.drop_eq_getElem_cons hlt, hxe]
            rfl
          simp only [hag, hc, Option.map_some]
        . exact then1_some h
      . obtain ⟨h1, h2⟩ := ass_some h
        have hl : m.len = blen := by simpa using h1
        exact loadL_ok (fun n hn => by simp [cellsAt, hm, hl, hn]) h2
    . cases h
  . cases h
theorem indexAddrS_ok {t : TypeId} {x i : PV} {k : PV -> Option R} (h : indexAddrS E t x i k = some r) : ∃ v, indexAddrA E t x i = some v /\ k v = some r := by
  unfold indexAddrS at h
  unfold indexAddrA
  split at h
  . rename_i kd i n e hu
    simp only [hu]
    split at h
    . rename_i s hs
      split at h
      . rename_i p hp
        obtain ⟨h1, h2⟩ := ass_some h
        simp only [Bool.and_eq_true, decide_eq_true_eq] at h1
        exact ⟨p, by simp [hs, h1, hp], h2⟩
      . cases h
    . cases h
  . rename_i kd i e cells es len xc hu
    simp only [hu]
    split at h
    . rename_i s hs
      split at h
      . rename_i hb
        simp only [Bool.and_eq_true] at hb
        have e1 : es = s := Nat.eq_of_beq_eq_true hb.1
        have e2 : 0 < s := Nat.le_of_ble_eq_true hb.2
        obtain ⟨h1, h2⟩ := ass_some h
        simp only [Bool.and_eq_true, decide_eq_true_eq] at h1
        exact ⟨_, by simp [hs, h1, e1, e2], h2⟩
      . cases h
    . cases h
  . rename_i kd i e id blen coff es len xc hu
    simp only [hu]
    split at h
    . rename_i s hs
      split at h
      . rename_i hb
        have e1 : es = s := Nat.eq_of_beq_eq_true hb
        obtain ⟨h1, h2⟩ := ass_some h
        simp only [Bool.and_eq_true, decide_eq_true_eq] at h1
        exact ⟨_, by simp [hs, h1, e1], h2⟩
      . cases h
    . cases h
  . cases h
theorem indexS_ok {t : TypeId} {x i : PV} {k : PV -> Option R} (h : indexS E t x i k = some r) : ∃ v, indexA E t x i = some v /\ k v = some r := by
  unfold indexS at h
  split at h
  . rename_i kd i s hu
    unfold indexA
    simp only [hu]
    obtain ⟨h1, h2⟩ := ass_some h
    simp only [Bool.and_eq_true, decide_eq_true_eq] at h1
    refine ⟨_, ?_, h2⟩
    rw [if_pos h1.1, List.getElem?_eq_getElem h1.2, List.getD_eq_getElem?_getD, List.getElem?_eq_getElem h1.2]
    rfl
  . exact then1_some h
theorem boundS_ok {x : PV} {y : Nat} {k : Nat -> Option R} (h : boundS x y k = some r) : ∃ n, boundA x y = some n /\ k n = some r := by
  unfold boundS at h
  split at h
  . obtain ⟨h1, h2⟩ := ass_some h
    simp only [Bool.and_eq_true, decide_eq_true_eq] at h1
    exact ⟨_, by simp [boundA, h1], h2⟩
  . cases h
theorem optS_ok {x : Option PV} {d y : Nat} {k : Nat -> Option R} (h : optS x d y k = some r) : ∃ n, optBound x d y = some n /\ k n = some r := by
  unfold optS at h
  split at h
  . exact ⟨d, rfl, h⟩
  . exact boundS_ok h
theorem roomS_eq (xc : Option Nat) (m : Mem) (s coff len : Nat) : roomS xc m s coff len = roomA xc m s coff len := by
  unfold roomS roomA
  cases xc with
  | some c => rfl
  | none =>
    simp only
    split
    . rename_i h; rw [if_pos (Nat.eq_of_beq_eq_true h)]
    . rename_i h; rw [if_neg fun e => by rw [e, Nat.beq_refl] at h; cases h]
theorem sliceSlS_ok {hs : List (Option Bool)} {s : Nat} {x : PV} {lo hi mx : Option PV} {k : PV -> Option R} (h : sliceSlS hs σ s x lo hi mx k = some r) : ∃ v, sliceSl σ s x lo hi mx = some v /\ k v = some r := by
  unfold sliceSlS at h
  split at h
  . exact then1_some h
  . rename_i cells es len xc
    split at h
    . rename_i hb
      have e1 : es = s := Nat.eq_of_beq_eq_true hb
      obtain ⟨m, h1, h⟩ := optS_ok h
      obtain ⟨hh, h2, h⟩ := optS_ok h
      obtain ⟨l, h3, h⟩ := optS_ok h
      exact ⟨_, by simp [sliceSl, e1, h1, h2, h3], h⟩
    . cases h
  . exact then1_some h
  . rename_i id blen coff es len xc
    split at h
    . rename_i hb
      have e1 : es = s := Nat.eq_of_beq_eq_true hb
      split at h
      . rename_i m hm
        obtain ⟨g, h⟩ := ass_some h
        simp only [Bool.and_eq_true, decide_eq_true_eq, beq_iff_eq] at g
        rw [roomS_eq] at h
        obtain ⟨q, h1, h⟩ := optS_ok h
        obtain ⟨hh, h2, h⟩ := optS_ok h
        obtain ⟨l, h3, h⟩ := optS_ok h
        have h := brH_some h
        subst e1
        cases hc : (decide (l = hh) && decide (0 < l)) with
        | true =>
          rw [hc] at h
          simp only [Bool.and_eq_true, decide_eq_true_eq] at hc
          obtain ⟨rfl, hc⟩ := hc
          exact ⟨_, by simp only [sliceSl, ne_eq, not_true, if_false, hm, g, and_self, if_true, h1, h2, h3, hc], h⟩
        | false =>
          rw [hc] at h
          have hn : ¬ (l = hh /\ 0 < l) := fun e => by simp [e] at hc; omega
          exact ⟨_, by simp only [sliceSl, ne_eq, not_true, if_false, hm, g, and_self, if_true, h1, h2, h3, if_neg hn], h⟩
      . cases h
    . cases h
  . cases h
theorem sliceS_ok {hs : List (Option Bool)} {t : TypeId} {x : PV} {lo hi mx : Option PV} {k : PV -> Option R} (h : sliceS E hs σ t x lo hi mx k = some r) : ∃ v, sliceA E σ t x lo hi mx = some v /\ k v = some r := by
  unfold sliceS at h
  split at h
  . cases h
  . rename_i hg
    split at h
    . rename_i s hu
      split at h
      . cases h
      . obtain ⟨hh, h2, h⟩ := optS_ok h
        obtain ⟨l, h3, h⟩ := optS_ok h
        exact ⟨_, by simp [sliceA, hu, h2, h3], h⟩
    . rename_i e hu
      split at h
      . rename_i s hs
        split at h
        . rename_i hb
          have e2 : 0 < s := Nat.le_of_ble_eq_true hb
          obtain ⟨v, h1, h2⟩ := sliceSlS_ok h
          exact ⟨v, by simp [sliceA, hg, hu, hs, e2, h1], h2⟩
        . cases h
      . cases h
    . exact then1_some h
theorem viewS_ok {x : PV} {k : List PV -> Option R} (h : viewS σ x k = some r) : ∃ cs, viewCells σ x = some cs /\ k cs = some r := by
  unfold viewS at h
  split at h
  . exact ⟨_, rfl, h⟩
  . exact ⟨_, rfl, h⟩
  . exact ⟨_, rfl, h⟩
  . split at h
    . rename_i m hm
      obtain ⟨g, h⟩ := ass_some h
      simp only [Bool.and_eq_true, decide_eq_true_eq, beq_iff_eq] at g
      exact ⟨_, by simp [viewCells, hm, g], h⟩
    . cases h
  . cases h
theorem bytesOf_all : ∀ (cs : List PV), cs.all okByte = true -> bytesOf cs = some (bytesL cs)
  | [], _ => rfl
  | x :: cs, h => by
    simp only [List.all_cons, Bool.and_eq_true] at h
    obtain ⟨h1, h2⟩ := h
    unfold okByte at h1
    split at h1
    . simp [bytesOf, bytesOf_all cs h2, bytesL, asI]
    . cases h1
theorem convS_ok {s d : TypeId} {x : PV} {k : PV -> Option R} (h : convS E σ s d x k = some r) : ∃ v, convA E σ s d x = some v /\ k v = some r := by
  unfold convS at h
  split at h
  . rename_i e hu hv
    split at h
    . rename_i he
      split at h
      . rename_i n hn
        obtain ⟨cs, h1, h2⟩ := viewS_ok h
        obtain ⟨g, h3⟩ := ass_some h2
        simp only [Bool.and_eq_true, beq_iff_eq] at g
        refine ⟨_, ?_, h3⟩
        have hx : ∀ s, x ≠ .str s := fun s e => by subst e; simp [viewCells] at h1
        cases x <;> first
          | exact absurd rfl (hx _)
          | simp [convA, hu, hv, he, hn, h1, g.1, bytesOf_all cs g.2]
      . cases h
    . cases h
  . exact then1_some h
theorem sealCellS_ok {x : PV} {k : PV -> Store -> Option R} (h : sealCellS σ x k = some r) :
    (∃ id blen coff es len xc m, x = .osl id blen coff es len xc /\ getMem σ id = some m /\ m.len = blen /\ coff + len * es <= m.cells.length /\ 0 < es /\ ((m.cells.drop coff).take (len * es)).all PV.calm = true /\
      k (.sl ((m.cells.drop coff).take (len * es)) es len none) (freezeId σ id) = some r) ∨ (x.calm = true /\ k x σ = some r) := by
  unfold sealCellS at h
  split at h
  . rename_i id blen coff es len xc
    split at h
    . rename_i m hm
      obtain ⟨g, h⟩ := ass_some h
      simp only [Bool.and_eq_true, decide_eq_true_eq, beq_iff_eq] at g
      exact .inl ⟨_, _, _, _, _, _, m, rfl, hm, g.1, g.2.1, g.2.2.1, g.2.2.2, h⟩
    . cases h
  . rename_i hno
    refine .inr ⟨?_, h⟩
    cases x <;> first | rfl | exact absurd rfl (hno _ _ _ _ _ _)
theorem sealCells_calm (fuel : Nat) (σ : Store) (xs : List PV) (h : xs.all PV.calm = true) : sealCells (fuel + 1) σ xs = some (xs, σ) := by
  unfold sealCells
  rw [if_pos h]
theorem sealLS_ok : ∀ (xs : List PV) (σ : Store) (k : List PV -> Store -> Option R), sealLS σ xs k = some r ->
    ∃ ys σ', k ys σ' = some r /\ (xs.all PV.calm = true -> ys = xs /\ σ' = σ) /\ ∀ fuel, xs.length < fuel -> sealCells fuel σ xs = some (ys, σ')
  | [], σ, k, h => ⟨[], σ, h, fun _ => ⟨rfl, rfl⟩, fun fuel hf => by
    obtain ⟨m, rfl⟩ : ∃ m, fuel = m + 1 := ⟨fuel - 1, by simp at hf; omega⟩
    exact sealCells_calm m σ [] rfl⟩
  | x :: xs, σ, k, h => by
    simp only [sealLS] at h
    rcases sealCellS_ok h with ⟨id, blen, coff, es, len, xc, m, rfl, hm, b1, b2, b3, b4, h⟩ | ⟨hc, h⟩
    . obtain ⟨ys, σ', h1, h2, h3⟩ := sealLS_ok xs _ _ h
      refine ⟨_, σ', h1, fun hall => by simp [PV.calm] at hall, fun fuel hf => ?_⟩
      obtain ⟨q, rfl⟩ : ∃ m, fuel = m + 1 := ⟨fuel - 1, by simp at hf; omega⟩
      simp only [List.length_cons] at hf
      obtain ⟨q', rfl⟩ : ∃ m, q = m + 1 := ⟨q - 1, by omega⟩
      unfold sealCells
      rw [if_neg (by simp [PV.calm])]
      simp only [hm, b1, b2, b3, and_self, if_true, sealCells_calm q' _ _ b4, h3 (q' + 1) (by omega)]
    . obtain ⟨ys, σ', h1, h2, h3⟩ := sealLS_ok xs σ _ h
      refine ⟨_, σ', h1, fun hall => ?_, fun fuel hf => ?_⟩
      . simp only [List.all_cons, Bool.and_eq_true] at hall
        obtain ⟨rfl, rfl⟩ := h2 hall.2
        exact ⟨rfl, rfl⟩
      . obtain ⟨q, rfl⟩ : ∃ m, fuel = m + 1 := ⟨fuel - 1, by simp at hf; omega⟩
        simp only [List.length_cons] at hf
        have h4 := h3 q (by omega)
        by_cases hall : xs.all PV.calm = true
        . obtain ⟨rfl, rfl⟩ := h2 hall
          exact sealCells_calm q _ _ (by simp [hc, hall])
        . unfold sealCells
          rw [if_neg (by simp only [List.all_cons, hc, Bool.true_and]; exact hall)]
          cases x <;> first
            | (simp [PV.calm] at hc; done)
            | simp only [h4]
theorem sealVS_ok {x : PV} {k : PV -> Store -> Option R} (h : sealVS σ x k = some r) : ∃ y σ', sealV σ x = some (y, σ') /\ k y σ' = some r := by
  unfold sealVS at h
  split at h
  . rename_i cs
    obtain ⟨g, h⟩ := ass_some h
    obtain ⟨ys, σ', h1, h2, h3⟩ := sealLS_ok cs σ _ h
    refine ⟨_, _, ?_, h1⟩
    simp only [sealV, if_pos g, sealList]
    by_cases hall : cs.all PV.calm = true
    . obtain ⟨rfl, rfl⟩ := h2 hall
      rw [if_pos hall]
      rfl
    . rw [if_neg hall, h3 _ (by omega)]
      rfl
  . rename_i hno
    rcases sealCellS_ok h with ⟨id, blen, coff, es, len, xc, m, rfl, hm, b1, b2, b3, b4, h⟩ | ⟨hc, h⟩
    . refine ⟨_, _, ?_, h⟩
      simp only [sealV, sealList]
      rw [if_neg (by simp [PV.calm])]
      have : sealCells ([PV.osl id blen coff es len xc].length + 4000) σ [.osl id blen coff es len xc] = some ([.sl ((m.cells.drop coff).take (len * es)) es len none], freezeId σ id) := by
        rw [show [PV.osl id blen coff es len xc].length + 4000 = 3999 + 1 + 1 from rfl]
        unfold sealCells
        rw [if_neg (by simp [PV.calm])]
        simp only [hm, b1, b2, b3, and_self, if_true, sealCells_calm 3999 _ _ b4, sealCells_calm 3999 _ [] rfl]
      rw [this]
    . refine ⟨x, σ, ?_, h⟩
      cases x <;> first
        | rfl
        | exact absurd rfl (hno _)
        | (simp [PV.calm] at hc; done)
theorem sealArgsS_ok : ∀ (xs : List PV) (σ : Store) (k : List PV -> Store -> Option R), sealArgsS σ xs k = some r -> ∃ ys σ', sealArgs σ xs = some (ys, σ') /\ k ys σ' = some r
  | [], σ, k, h => ⟨_, _, rfl, h⟩
  | x :: xs, σ, k, h => by
    simp only [sealArgsS] at h
    obtain ⟨y, σ1, h1, h⟩ := sealVS_ok h
    obtain ⟨ys, σ2, h2, h⟩ := sealArgsS_ok xs σ1 _ h
    exact ⟨_, _, by simp [sealArgs, h1, h2], h⟩
theorem sealPS_ok {σ : Store} {x : PV} {k : PV -> Store -> Option R} (h : sealPS σ x k = some r) : ∃ y σ', sealP σ x = some (y, σ') /\ k y σ' = some r := by
  unfold sealPS at h
  split at h
  . split at h
    . rename_i m hm
      obtain ⟨g, h⟩ := ass_some h
      simp only [Bool.and_eq_true, beq_iff_eq] at g
      exact ⟨_, _, by simp only [sealP, hm, if_pos g], h⟩
    . cases h
  . rename_i hno
    obtain ⟨y, σ1, h1, h2⟩ := sealVS_ok h
    refine ⟨y, σ1, ?_, h2⟩
    unfold sealP
    split
    . exact absurd rfl (hno _ _ _)
    . exact h1
theorem sealPAS_ok : ∀ (xs : List PV) (σ : Store) (k : List PV -> Store -> Option R), sealPAS σ xs k = some r -> ∃ ys σ', sealPA σ xs = some (ys, σ') /\ k ys σ' = some r
  | [], σ, k, h => ⟨_, _, rfl, h⟩
  | x :: xs, σ, k, h => by
    simp only [sealPAS] at h
    obtain ⟨y, σ1, h1, h⟩ := sealPS_ok h
    obtain ⟨ys, σ2, h2, h⟩ := sealPAS_ok xs σ1 _ h
    exact ⟨_, _, by simp [sealPA, h1, h2], h⟩
theorem sealPartsS_ok : ∀ (xs : List (Nat × PV)) (σ : Store) (k : List (Nat × PV) -> Store -> Option R), sealPartsS σ xs k = some r -> ∃ ys σ', sealParts σ xs = some (ys, σ') /\ k ys σ' = some r
  | [], σ, k, h => ⟨_, _, rfl, h⟩
  | (i, x) :: xs, σ, k, h => by
    simp only [sealPartsS] at h
    obtain ⟨y, σ1, h1, h⟩ := sealVS_ok h
    obtain ⟨ys, σ2, h2, h⟩ := sealPartsS_ok xs σ1 _ h
    exact ⟨_, _, by simp [sealParts, h1, h2], h⟩
theorem sealResS_ok {v : PV} {k : PV -> Store -> Option R} (h : sealResS σ v k = some r) : ∃ y σ', sealRes σ v = some (y, σ') /\ k y σ' = some r := by
  unfold sealResS at h
  split at h
  . obtain ⟨ys, σ1, h1, h⟩ := sealArgsS_ok _ σ _ h
    exact ⟨_, _, by simp [sealRes, h1], h⟩
  . rename_i hno
    obtain ⟨y, σ1, h1, h⟩ := sealVS_ok h
    refine ⟨y, σ1, ?_, h⟩
    cases v <;> first
      | exact h1
      | exact absurd rfl (hno _)
theorem storeS_ok {fl : Nat} {t : TypeId} {a v : PV} {k : Store -> Option R} (h : storeS E fl σ t a v k = some r) : ∃ σ', storeAt E fl σ t a v = some σ' /\ k σ' = some r := by
  unfold storeS at h
  split at h
  . split at h
    . rename_i m n hm hn
      split at h
      . exact then1_some h
      . split at h
        . rename_i hb
          simp only [Bool.and_eq_true, Bool.not_eq_true'] at hb
          obtain ⟨g, h⟩ := ass_some h
          simp only [Bool.and_eq_true, decide_eq_true_eq, beq_iff_eq] at g
          obtain ⟨g1, g2, g3, g4⟩ := g
          exact ⟨_, by simp only [storeAt, hm, hn]; rw [if_pos ⟨Nat.le_of_ble_eq_true hb.1, hb.2, g1, g2, g3, g4⟩], h⟩
        . cases h
    . cases h
  . cases h
theorem buildSliceS_ok {t : TypeId} {n : Nat} {parts : List (Nat × PV)} {k : PV -> Store -> Option R} (h : buildSliceS E σ t n parts k = some r) : ∃ y σ', buildSliceA E σ t n parts = some (y, σ') /\ k y σ' = some r := by
  unfold buildSliceS at h
  obtain ⟨ps, σ1, h1, h⟩ := sealPartsS_ok _ _ _ h
  split at h
  . rename_i e hu
    split at h
    . rename_i s z hs hz
      split at h
      . rename_i hc
        obtain ⟨cells, h2, h⟩ := then1_some h
        exact ⟨_, _, by simp only [buildSliceA, hu, hs, hz, h1]; rw [if_pos hc, h2]; rfl, h⟩
      . cases h
    . cases h
  . cases h
theorem makeSliceS_ok {t : TypeId} {l c : PV} {k : PV -> Store -> Option R} (h : makeSliceS E σ t l c k = some r) : ∃ y σ', makeSliceA E σ t l c = some (y, σ') /\ k y σ' = some r := by
  unfold makeSliceS at h
  split at h
  . rename_i e kd l kd' c hu
    split at h
    . rename_i i z hi hz
      split at h
      . rename_i hc
        obtain ⟨g, h⟩ := ass_some h
        simp only [Bool.and_eq_true, decide_eq_true_eq] at g
        exact ⟨_, _, by simp only [makeSliceA, hu, hi, hz]; rw [if_pos ⟨g.1, g.2.1, g.2.2, hc.1, hc.2.1, hc.2.2⟩], h⟩
      . cases h
    . cases h
  . cases h
theorem binS_ok {op : BinOp} {t : TypeId} {x y : Operand} {a b : PV} {k : PV -> Option R} (h : binS E op t x y a b k = some r) : ∃ v, binA E op t x y a b = some v /\ k v = some r := by
  unfold binS at h
  split at h
  . exact then1_some (ass_some h).2
  . exact then1_some (ass_some h).2
  . split at h
    . rename_i hk
      obtain ⟨g, h⟩ := ass_some h
      exact ⟨_, by simp only [binA, if_pos hk, intOp]; rw [if_neg (by simpa using g)], h⟩
    . cases h
  . split at h
    . rename_i hk
      obtain ⟨g, h⟩ := ass_some h
      exact ⟨_, by simp only [binA, if_pos hk, intOp]; rw [if_neg (by simpa using g)], h⟩
    . cases h
  . split at h
    . rename_i hu
      obtain ⟨g, h⟩ := ass_some h
      simp only [bne_iff_ne, ne_eq] at g
      exact ⟨_, by simp [binA, eqGuardOk, eqA, hu, g], h⟩
    . cases h
  . split at h
    . rename_i hu
      obtain ⟨g, h⟩ := ass_some h
      simp only [bne_iff_ne, ne_eq] at g
      exact ⟨_, by simp [binA, eqGuardOk, eqA, hu, g], h⟩
    . cases h
  . obtain ⟨g, h⟩ := ass_some h
    have g := of_decide_eq_true g
    exact ⟨_, by simp only [binA, strOp]; rw [if_pos g], h⟩
  . exact then1_some h
theorem sourceS_ok {zeros : Bool} {e : TypeId} {x : PV} {k : Nat -> List PV -> Option R} (h : sourceS E σ zeros e x k = some r) : ∃ n cs, sourceA E σ zeros e x = some (n, cs) /\ k n cs = some r := by
  unfold sourceS at h
  split at h
  . split at h
    . rename_i n z hz
      split at h
      . rename_i hb
        obtain ⟨g, h⟩ := ass_some h
        simp only [Bool.and_eq_true, decide_eq_true_eq] at g
        have hb : 0 < z.cells.length := Nat.le_of_ble_eq_true hb
        exact ⟨_, _, by simp only [sourceA, hz, if_pos (And.intro g.1 (And.intro g.2 hb))]; rfl, h⟩
      . cases h
    . cases h
  . split at h
    . exact ⟨_, _, rfl, h⟩
    . rename_i hno
      split at h
      . rename_i n hn
        obtain ⟨cs, h1, h2⟩ := viewS_ok h
        refine ⟨n, cs, ?_, h2⟩
        cases x <;> first
          | exact absurd rfl (hno _)
          | simp [sourceA, hn, h1]
      . cases h
theorem appendS_ok {hs : List (Option Bool)} {fl : Nat} {e : TypeId} {x : PV} {n : Nat} {new : List PV} {k : PV -> Store -> Option R} (h : appendS E hs fl σ e x n new k = some r) : ∃ v σ', appendA E fl σ e x n new = some (v, σ') /\ k v σ' = some r := by
  unfold appendS at h
  split at h
  . rename_i i z hi hz
    split at h
    . rename_i hc
      obtain ⟨g, h⟩ := ass_some h
      have g : new.length = n * i.size := by simpa using g
      have hcc : 0 < i.size /\ z.cells.length = i.size /\ new.length = n * i.size /\ i.bytes <= 65536 := ⟨hc.1, hc.2.1, g, hc.2.2⟩
      unfold appendA
      simp only [hi, hz, if_pos hcc]
      split at h
      . have h := brH_some h
        cases hn : decide (n = 0) with
        | true =>
          rw [hn] at h
          rw [if_pos (by simpa using hn)]
          exact ⟨_, _, rfl, h⟩
        | false =>
          rw [hn] at h
          rw [if_neg (by simpa using hn)]
          obtain ⟨g2, h⟩ := ass_some h
          exact ⟨_, _, by simp only [if_pos (of_decide_eq_true g2)], h⟩
      . have h := brH_some h
        cases hn : decide (n = 0) with
        | true =>
          rw [hn] at h
          rw [if_pos (by simpa using hn)]
          exact ⟨_, _, rfl, h⟩
        | false =>
          rw [hn] at h
          cases h
      . have h := brH_some h
        cases hn : decide (n = 0) with
        | true =>
          rw [hn] at h
          rw [if_pos (by simpa using hn)]
          exact ⟨_, _, rfl, h⟩
        | false =>
          rw [hn] at h
          rw [if_neg (by simpa using hn)]
          simp only [cond_false] at h
          split at h
          . obtain ⟨g2, h⟩ := ass_some h
            simp only [Bool.and_eq_true, decide_eq_true_eq, beq_iff_eq] at g2
            exact ⟨_, _, by simp only [if_pos g2], h⟩
          . cases h
      . rename_i id blen coff es len xc _
        have h := brH_some h
        cases hn : decide (n = 0) with
        | true =>
          rw [hn] at h
          rw [if_pos (by simpa using hn)]
          exact ⟨_, _, rfl, h⟩
        | false =>
          rw [hn] at h
          rw [if_neg (by simpa using hn)]
          simp only [cond_false] at h
          split at h
          . split at h
            . rename_i m hm
              split at h
              . rename_i hb
                simp only [Bool.and_eq_true, Bool.not_eq_true'] at hb
                obtain ⟨b1, b2, b3, b4⟩ := hb
                have b1 := Nat.eq_of_beq_eq_true b1
                have b2 := Nat.eq_of_beq_eq_true b2
                have b4 := Nat.le_of_ble_eq_true b4
                obtain ⟨g2, h⟩ := ass_some h
                simp only [Bool.and_eq_true, decide_eq_true_eq, beq_iff_eq] at g2
                obtain ⟨g3, g4, g5, g6⟩ := g2
                have hcond : es = i.size /\ m.size = i.size /\ m.len = blen /\ m.ice = false /\ fl <= id /\ m.len <= 1048576 /\ n <= 1048576 /\ coff + len * i.size <= m.cells.length := ⟨b1, b2, g3, b3, b4, g4, g5, g6⟩
                simp only [hm, if_pos hcond]
                have h := brH_some h
                cases hr : decide (coff / i.size + len + n <= m.len) with
                | true =>
                  rw [hr] at h
                  rw [if_pos (of_decide_eq_true hr)]
                  exact ⟨_, _, rfl, h⟩
                | false =>
                  rw [hr] at h
                  rw [if_neg (of_decide_eq_false hr)]
                  simp only [cond_false] at h
                  split at h
                  . rename_i h0
                    rw [if_pos (Nat.eq_of_beq_eq_true h0)]
                    exact ⟨_, _, rfl, h⟩
                  . cases h
              . cases h
            . cases h
          . cases h
      . cases h
    . cases h
  . cases h
theorem writeS_ok {fl id blen coff : Nat} {new : List PV} {k : Store -> Option R} (h : writeS fl σ id blen coff new k = some r) : ∃ σ', writeCells fl σ id blen coff new = some σ' /\ k σ' = some r := by
  unfold writeS at h
  split at h
  . rename_i m hm
    split at h
    . rename_i hb
      simp only [Bool.and_eq_true, Bool.not_eq_true'] at hb
      obtain ⟨g, h⟩ := ass_some h
      simp only [Bool.and_eq_true, decide_eq_true_eq, beq_iff_eq] at g
      exact ⟨_, by simp only [writeCells, hm]; rw [if_pos ⟨Nat.le_of_ble_eq_true hb.1, hb.2, g.1, g.2⟩], h⟩
    . cases h
  . cases h
theorem builtinS_ok {hs : List (Option Bool)} {fl : Nat} {b : Builtin} {ts : Array TypeId} {args : List PV} {k : PV -> Store -> Option R} (h : builtinS E hs fl σ b ts args k = some r) : ∃ v σ', builtinA E fl σ b ts args = some (v, σ') /\ k v σ' = some r := by
  unfold builtinS at h
  split at h
  . rename_i x y
    split at h
    . rename_i t zeros ht hz
      split at h
      . rename_i e hu
        obtain ⟨n, cs, h1, h⟩ := sourceS_ok h
        obtain ⟨v, σ1, h2, h⟩ := appendS_ok h
        exact ⟨v, σ1, by simp only [builtinA, ht, hz, hu, h1, h2], h⟩
      . cases h
    . cases h
  . rename_i id blen coff es len0 xc y
    split at h
    . rename_i t ht
      split at h
      . rename_i e hu
        split at h
        . rename_i s hs
          split at h
          . rename_i hb
            have hb := Nat.eq_of_beq_eq_true hb
            obtain ⟨n, cs, h1, h⟩ := sourceS_ok h
            obtain ⟨g, h⟩ := ass_some h
            have g : cs.length = n * s := by simpa using g
            obtain ⟨σ1, h2, h⟩ := writeS_ok h
            exact ⟨_, _, by simp only [builtinA, ht, hu, hs, h1, if_pos g, if_pos hb, h2]; rfl, h⟩
          . cases h
        . cases h
      . cases h
    . cases h
  . rename_i id blen coff es len0
    split at h
    . rename_i t ht
      split at h
      . rename_i e hu
        split at h
        . rename_i m hm
          split at h
          . rename_i hb
            simp only [Bool.and_eq_true] at hb
            obtain ⟨b1, b2, b3⟩ := hb
            have b2 := Nat.eq_of_beq_eq_true b2
            have b3 : 0 < es := Nat.le_of_ble_eq_true b3
            obtain ⟨g, h⟩ := ass_some h
            simp only [Bool.and_eq_true, decide_eq_true_eq, beq_iff_eq] at g
            obtain ⟨g1, g2, g3⟩ := g
            have g2 := Nat.eq_of_beq_eq_true g2
            exact ⟨_, _, by simp only [builtinA, ht, hu, hm]; rw [if_pos ⟨g1, b1, b2, b3, g2, g3⟩], h⟩
          . cases h
        . cases h
      . cases h
    . cases h
  . rename_i id blen coff es len0 xc
    split at h
    . rename_i t ht
      split at h
      . rename_i e hu
        split at h
        . rename_i s z hs' hz
          split at h
          . rename_i hb
            simp only [Bool.and_eq_true] at hb
            obtain ⟨b1, b2, b3⟩ := hb
            have b1 := Nat.eq_of_beq_eq_true b1
            have b2 := Nat.eq_of_beq_eq_true b2
            have b3 : 0 < s := Nat.le_of_ble_eq_true b3
            have h := brH_some h
            cases len0 with
            | zero =>
              simp only [decide_true, cond_true] at h
              exact ⟨_, _, by simp only [builtinA, ht, hu], h⟩
            | succ len =>
              simp only [Nat.add_one_ne_zero, decide_false, cond_false] at h
              obtain ⟨σ1, h2, h⟩ := writeS_ok h
              exact ⟨_, _, by simp only [builtinA, ht, hu, hs', hz]; rw [if_pos ⟨b1, b2, b3⟩, h2]; rfl, h⟩
          . cases h
        . cases h
      . cases h
    . cases h
  . exact then2_some h
end
end Go.Proofs.YtaofbpldflcjmaaDoor.Am
