/- strings.Join as an answer known from elsewhere: the kit's contract, laid at this program. -/
import Derived.Test.YtcjcinipfdameacGreatDoorJnLay
import Derived.Test.YtcjcinipfdameacGreatDoorRun3
set_option linter.unusedVariables false
set_option linter.unusedSimpArgs false
set_option maxRecDepth 100000
namespace Go.Proofs.YtcjcinipfdameacGreatDoor.Am
open Go.RowKit Go.Shelf

/-- Texts. -/
def textsP : List PV → Option (List (List UInt8))
  | [] => some []
  | .str s :: xs => match textsP xs with
    | some r => some (s :: r)
    | none => none
  | _ :: _ => none

/-- Texts, one behind the other, with one between. -/
def Sp.joined (sep : List UInt8) : List (List UInt8) → List UInt8
  | [] => []
  | [x] => x
  | x :: y :: r => x ++ (sep ++ Sp.joined sep (y :: r))

theorem joined_eq (sep : List UInt8) : ∀ (l : List (List UInt8)), Lib.join l sep = Sp.joined sep l
  | [] => by simp [Lib.join, Sp.joined]
  | [x] => by simp [Lib.join, Sp.joined]
  | x :: y :: r => by
    have ih := joined_eq sep (y :: r)
    simp only [Sp.joined, ← ih]
    simp [Lib.join]

theorem textsP_len : ∀ {xs : List PV} {r : List (List UInt8)}, textsP xs = some r → r.length = xs.length
  | [], r, h => by cases h; rfl
  | x :: xs, r, h => by
    cases x <;> first | (cases h; done) | skip
    simp only [textsP] at h
    split at h
    · rename_i r1 h1
      cases h
      simp [textsP_len h1]
    · cases h

theorem textsP_at : ∀ {xs : List PV} {r : List (List UInt8)}, textsP xs = some r → ∀ (j : Nat) (s : List UInt8), r[j]? = some s → xs[j]? = some (.str s)
  | [], r, h, j, s, hj => by cases h; simp at hj
  | x :: xs, r, h, j, s, hj => by
    cases x <;> first | (cases h; done) | skip
    simp only [textsP] at h
    split at h
    · rename_i r1 h1
      cases h
      cases j with
      | zero => simp at hj; subst hj; rfl
      | succ j => exact textsP_at h1 j s (by simpa using hj)
    · cases h

def pureJoin (f : Nat) (xs : List PV) : Option PV := bif Nat.beq f 17 then (match xs with
  | [.sl cells 1 n _, .str sep] => match textsP cells with
    | some l => bif decide (n ≤ 1000000) && decide ((Sp.joined sep l).length ≤ 140737488355328) then some (.str (Sp.joined sep l)) else none
    | none => none
  | _ => none) else none

theorem pureJoin_ok {E : Env} (hP : E.P = Tryz.prog) (f : FuncId) (args : List PV) (r : PV) (h : pureJoin f args = some r) : oldV 0 r = true ∧ ∀ (Γ : Sealed) (w : World) (vs : List Value), Rel E 0 Γ (fun _ => none) [] w → Reps Γ (fun _ => none) args vs →
    Calls E.P f vs.toArray w fun e w' => ∃ v, e = .returned v ∧ Moves E 0 Γ (fun _ => none) [] w r [] v w' := by
  unfold pureJoin at h
  cases hf : Nat.beq f 17 with
  | false => rw [hf] at h; cases h
  | true =>
    rw [hf] at h
    have hf := Nat.eq_of_beq_eq_true hf
    subst hf
    simp only [cond_true] at h
    split at h
    · rename_i cells n xc sep
      split at h
      · rename_i l hl
        cases hc : (decide (n ≤ 1000000) && decide ((Sp.joined sep l).length ≤ 140737488355328)) with
        | false => rw [hc] at h; cases h
        | true =>
          rw [hc] at h
          simp only [cond_true, Option.some.injEq] at h
          subst h
          simp only [Bool.and_eq_true, decide_eq_true_eq] at hc
          obtain ⟨hn, hj⟩ := hc
          refine ⟨rfl, fun Γ w vs hR hr => ?_⟩
          obtain ⟨v, ws, rfl, hv, hr⟩ := hr.inv_cons
          obtain ⟨u, ws, rfl, hu, hr⟩ := hr.inv_cons
          have := hr.inv_nil
          subst this
          cases hu
          rw [hP]
          have fin : ∀ (w' : World) (x : List UInt8), Below w.heap.size w w' → Moves E 0 Γ (fun _ => none) [] w (.str x) [] (.string ⟨⟨x⟩⟩) w' := fun w' x hB =>
            ⟨Γ, _, .str _, hR.world hB.block, { Post.refl 0 Γ (fun _ => none) [] w with frame := fun b hb _ => hB.block b hb, size := hB.size, os := hB.os, tape := hB.tape, output := hB.output, blocks := fun id l h => (by cases h), fresh := fun b o h k => absurd h k }⟩
          have hlen := textsP_len hl
          have zero : ∀ (a : Option Addr) (cap : Nat), l = [] → Calls Tryz.prog 17 #[.slice a 0 cap, .string ⟨⟨sep⟩⟩] w fun e w' => ∃ v, e = .returned v ∧ Moves E 0 Γ (fun _ => none) [] w (.str (Sp.joined sep l)) [] v w' := by
            rintro a cap rfl
            refine (Tryz.strings_Join_none a cap ⟨⟨sep⟩⟩ w).mono ?_
            rintro e w' ⟨rfl, rfl⟩
            exact ⟨_, rfl, fin w' [] (Below.refl _ _)⟩
          cases hv with
          | slNil => exact zero none 0 (List.eq_nil_of_length_eq_zero hlen)
          | sl a cap us hn' hcap hx h hrr =>
            by_cases hz : n = 0
            · subst hz
              exact zero (some a) cap (List.eq_nil_of_length_eq_zero (by omega))
            · have hln : l.length = n := by omega
              subst hln
              have hat : ∀ (j : Nat) (s : List UInt8), l[j]? = some s → a.spot = none ∧ w.cell? ⟨a.block, a.off + j, none⟩ = some (.string ⟨⟨s⟩⟩) := by
                intro j s hs
                have h1 := textsP_at hl j s hs
                obtain ⟨k1, k2, _⟩ := h j _ h1
                have k3 := hrr j _ h1
                have k4 := hR.fix _ _ _ k2
                generalize us j = u at k3 k4
                cases k3
                exact ⟨k1, k4⟩
              obtain ⟨b, off, spot⟩ := a
              obtain ⟨s0, hs0⟩ : ∃ s, l[0]? = some s := ⟨l[0]'(by omega), List.getElem?_eq_getElem (by omega)⟩
              have hsp : spot = none := (hat 0 s0 hs0).1
              subst hsp
              have key := Tryz.strings_Join b off cap (l.map fun s => (⟨⟨s⟩⟩ : ByteArray)) ⟨⟨sep⟩⟩ w (fun j x hx => by
                  simp only [List.getElem?_map, Option.map_eq_some_iff] at hx
                  obtain ⟨s, hs, rfl⟩ := hx
                  exact (hat j s hs).2) (World.block_lt_of_cell? _ _ (hat 0 s0 hs0).2) (by simp only [List.length_map]; omega) (by simpa using hcap)
                (by
                  have e : (l.map fun s => (⟨⟨s⟩⟩ : ByteArray)).map (·.data.toList) = l := by rw [List.map_map]; exact List.map_id l
                  rw [e, joined_eq]
                  exact hj)
              have e : (l.map fun s => (⟨⟨s⟩⟩ : ByteArray)).map (·.data.toList) = l := by rw [List.map_map]; exact List.map_id l
              rw [e, joined_eq, List.length_map] at key
              refine key.mono ?_
              rintro e w' ⟨rfl, hB⟩
              exact ⟨_, rfl, fin w' _ hB⟩
      · cases h
    · cases h

end Go.Proofs.YtcjcinipfdameacGreatDoor.Am
