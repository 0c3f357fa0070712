/- Lists of rows as cells: lemmas for trees. -/
import Derived.Test.YtpbemfikhmeedaaGreatDoorMZSymRun
set_option linter.unusedVariables false
set_option linter.unusedSimpArgs false
namespace Go.Proofs.YtpbemfikhmeedaaGreatDoor.Am
@[simp] theorem ass_true {R : Type} (x : Option R) : ass true x = x := rfl
theorem ass_of {R : Type} {c : Bool} {x : Option R} (h : c = true) : ass c x = x := by rw [h]; rfl
section
variable {α : Type} {enc : α -> List PV} {s : Nat}
theorem flat_length (he : ∀ x, (enc x).length = s) : ∀ l : List α, (l.flatMap enc).length = l.length * s
  | [] => by simp
  | x :: l => by simp [flat_length he l, he x, Nat.add_mul]; omega
theorem flat_drop (he : ∀ x, (enc x).length = s) : ∀ (l : List α) (i : Nat), (l.flatMap enc).drop (i * s) = (l.drop i).flatMap enc
  | [], i => by simp
  | x :: l, 0 => by simp
  | x :: l, i + 1 => by
    have e : (i + 1) * s = s + i * s := by rw [Nat.add_mul]; omega
    rw [e, <- List.drop_drop]
    have : List.drop s (List.flatMap enc (x :: l)) = l.flatMap enc := by
      rw [List.flatMap_cons, List.drop_left' (he x)]
    rw [this, flat_drop he l i, List.drop_succ_cons]
theorem flat_get? (he : ∀ x, (enc x).length = s) {l : List α} {i j : Nat} (hi : i < l.length) (hj : j < s) : (l.flatMap enc)[i * s + j]? = (enc l[i])[j]? := by
  rw [<- List.getElem?_drop, flat_drop he, List.drop_eq_getElem_cons hi, List.flatMap_cons, List.getElem?_append_left (by rw [he]; exact hj)]
end
open Classical in
open Classical in
open Classical in
theorem wrap_nat {n : Nat} (h : n < 9223372036854775808) : IntKind.i64.wrap (n : Int) = n := by
  rw [IntKind.wrap_i64]; omega
theorem wrap_succ {n : Nat} (h : n < 9223372036854775807) : IntKind.i64.wrap ((n : Int) + 1) = ((n + 1 : Nat) : Int) := by
  rw [IntKind.wrap_i64]; omega
end Go.Proofs.YtpbemfikhmeedaaGreatDoor.Am
