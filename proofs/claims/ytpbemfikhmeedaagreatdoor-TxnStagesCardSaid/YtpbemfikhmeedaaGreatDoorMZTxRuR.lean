/- Rows that stay, moved to the front: the plain law of DeleteFunc's loop. -/
import Derived.Test.YtpbemfikhmeedaaGreatDoorMBQ
set_option linter.unusedVariables false
set_option linter.unusedSimpArgs false
namespace Go.Proofs.YtpbemfikhmeedaaGreatDoor.Am
open St
structure Kept (good : List PV -> Bool) (R S : List (List PV)) (w j : Nat) : Prop where
  len : S.length = R.length
  front : S.take w = (R.take j).filter good
  ahead : S.drop j = R.drop j
  le : w <= j
theorem Kept.at {good : List PV -> Bool} {R S : List (List PV)} {w j : Nat} (h : Kept good R S w j) (hj : j < R.length) : S[j]'(by rw [h.len]; exact hj) = R[j] := by
  have h1 : S.drop j = S[j]'(by rw [h.len]; exact hj) :: S.drop (j + 1) := List.drop_eq_getElem_cons (by rw [h.len]; exact hj)
  have h2 : R.drop j = R[j] :: R.drop (j + 1) := List.drop_eq_getElem_cons hj
  have h3 := h.ahead
  rw [h1, h2] at h3
  exact (List.cons.inj h3).1
theorem Kept.out {good : List PV -> Bool} {R S : List (List PV)} {w j : Nat} (h : Kept good R S w j) (hj : j < R.length) (hg : good R[j] = false) : Kept good R S w (j + 1) where
  len := h.len
  front := by rw [h.front, List.take_succ_eq_append_getElem hj, List.filter_append]; simp [hg]
  ahead := by
    have := congrArg (List.drop 1) h.ahead
    rwa [List.drop_drop, List.drop_drop] at this
  le := Nat.le_succ_of_le h.le
theorem Kept.in {good : List PV -> Bool} {R S : List (List PV)} {w j : Nat} (h : Kept good R S w j) (hj : j < R.length) (hg : good R[j] = true) : Kept good R (S.set w R[j]) (w + 1) (j + 1) where
  len := by rw [List.length_set]; exact h.len
  front := by
    have hw : w < S.length := by rw [h.len]; have := h.le; omega
    rw [List.take_succ_eq_append_getElem (by rw [List.length_set]; exact hw), List.getElem_set_self, List.take_set_of_le (Nat.le_refl w), h.front, List.take_succ_eq_append_getElem hj, List.filter_append]
    simp [hg]
  ahead := by
    have h1 := congrArg (List.drop 1) h.ahead
    rw [List.drop_drop, List.drop_drop] at h1
    rw [List.drop_set_of_lt (by have := h.le; omega)]
    exact h1
  le := Nat.succ_le_succ h.le
theorem Kept.start {good : List PV -> Bool} {R : List (List PV)} {z : Nat} (hz : z < R.length) (hf : ∀ (i : Nat) (hi : i < z), good (R[i]'(by omega)) = true) (hb : good R[z] = false) : Kept good R R z (z + 1) where
  len := rfl
  front := by
    rw [List.take_succ_eq_append_getElem hz, List.filter_append]
    have : (R.take z).filter good = R.take z := by
      rw [List.filter_eq_self]
      intro x hx
      obtain ⟨i, hi, rfl⟩ := List.mem_iff_getElem.1 hx
      rw [List.length_take] at hi
      rw [List.getElem_take]
      exact hf i (by omega)
    rw [this]
    simp [hb]
  ahead := rfl
  le := Nat.le_succ z
theorem Kept.done {good : List PV -> Bool} {R S : List (List PV)} {w : Nat} (h : Kept good R S w R.length) : S.take w = R.filter good := by
  rw [h.front, List.take_length]
end Go.Proofs.YtpbemfikhmeedaaGreatDoor.Am
