/- sums.Add as an answer known from elsewhere. -/
import Derived.Test.YtcjcinipfdameacGreatDoorSum
import Derived.Test.YtcjcinipfdameacGreatDoorRun3
set_option linter.unusedVariables false
set_option linter.unusedSimpArgs false
namespace Go.Proofs.YtcjcinipfdameacGreatDoor.Am
open Go.RowKit

/-- Bytes, as numbers. -/
def byteP : PV → Option Nat
  | .int .u8 (.ofNat n) => if n < 256 then some n else none
  | _ => none

def bytesP : List PV → Option (List Nat)
  | [] => some []
  | x :: xs => match byteP x, bytesP xs with
    | some n, some ns => some (n :: ns)
    | _, _ => none

theorem byteP_eq {x : PV} {n : Nat} (h : byteP x = some n) : x = .int .u8 (n : Int) ∧ n < 256 := by
  unfold byteP at h
  split at h
  · split at h
    · cases h; exact ⟨rfl, by assumption⟩
    · cases h
  · cases h

theorem bytesP_len {xs : List PV} {ns : List Nat} (h : bytesP xs = some ns) : ns.length = xs.length := by
  induction xs generalizing ns with
  | nil => cases h; rfl
  | cons x xs ih =>
    unfold bytesP at h
    split at h
    · rename_i n m h1 h2
      cases h
      simp [ih h2]
    · cases h

theorem bytesP_at {xs : List PV} {ns : List Nat} (h : bytesP xs = some ns) (j : Nat) (hj : j < ns.length) : xs[j]? = some (.int .u8 ((Sp_at ns j : Nat) : Int)) ∧ Sp_at ns j < 256 := by
  induction xs generalizing ns j with
  | nil => cases h; simp at hj
  | cons x xs ih =>
    unfold bytesP at h
    split at h
    · rename_i n m h1 h2
      cases h
      obtain ⟨rfl, h3⟩ := byteP_eq h1
      cases j with
      | zero => exact ⟨rfl, h3⟩
      | succ j => exact ih h2 j (by simpa using hj)
    · cases h

/-- A row of 0, 1, .. up to a number, with nothing to unfold by hand. -/
def pureSum (f : Nat) (xs : List PV) : Option PV := bif Nat.beq f 119 then (match xs with
  | [.int .i64 s, .sl cells 1 n _] => bif decide (0 ≤ s) && (decide (s ≤ 1099511627776) && decide (n ≤ 1000000)) then (match bytesP cells with
    | some ns => some (.int .i64 (Sp_add s ns))
    | none => none) else none
  | _ => none) else none

theorem pureSum_ok {E : Env} (hP : E.P = Tryz.prog) (f : FuncId) (args : List PV) (r : PV) (h : pureSum f args = some r) : oldV 0 r = true ∧ ∀ (Γ : Sealed) (w : World) (vs : List Value), Rel E 0 Γ (fun _ => none) [] w → Reps Γ (fun _ => none) args vs →
    Calls E.P f vs.toArray w fun e w' => ∃ v, e = .returned v ∧ Moves E 0 Γ (fun _ => none) [] w r [] v w' := by
  unfold pureSum at h
  cases hf : Nat.beq f 119 with
  | false => rw [hf] at h; cases h
  | true =>
    rw [hf] at h
    have hf := Nat.eq_of_beq_eq_true hf
    subst hf
    simp only [cond_true] at h
    split at h
    · rename_i s cells n xc
      cases hc : (decide (0 ≤ s) && (decide (s ≤ 1099511627776) && decide (n ≤ 1000000))) with
      | false => rw [hc] at h; cases h
      | true =>
        rw [hc] at h
        simp only [cond_true] at h
        simp only [Bool.and_eq_true, decide_eq_true_eq] at hc
        obtain ⟨hs0, hs1, hn⟩ := hc
        split at h
        · rename_i ns hns
          cases h
          refine ⟨rfl, fun Γ w vs hR hr => ?_⟩
          obtain ⟨v, ws, rfl, hv, hr⟩ := hr.inv_cons
          obtain ⟨u, ws, rfl, hu, hr⟩ := hr.inv_cons
          have := hr.inv_nil
          subst this
          cases hv
          rw [hP]
          have fin : ∀ (w' : World), Below w.heap.size w w' → Moves E 0 Γ (fun _ => none) [] w (.int .i64 (Sp_add s ns)) [] (.int .i64 (Sp_add s ns)) w' := fun w' hB =>
            ⟨Γ, _, .int _ _, hR.world hB.block, { Post.refl 0 Γ (fun _ => none) [] w with frame := fun b hb _ => hB.block b hb, size := hB.size, os := hB.os, tape := hB.tape, output := hB.output, blocks := fun id l h => (by cases h), fresh := fun b o h k => absurd h k }⟩
          have hl := bytesP_len hns
          have zero : ∀ (a : Option Addr) (cap : Nat), ns = [] → Calls Tryz.prog 119 #[.int .i64 s, .slice a 0 cap] w fun e w' => ∃ v, e = .returned v ∧ Moves E 0 Γ (fun _ => none) [] w (.int .i64 (Sp_add s ns)) [] v w' := by
            rintro a cap rfl
            refine (callsIn_wide.1 (add0_in Fence.wide 5 trivial trivial trivial rfl (Nat.le_refl _) s hs0 hs1 a cap w)).mono ?_
            rintro e w' ⟨rfl, hB⟩
            exact ⟨_, rfl, fin w' hB⟩
          cases hu with
          | slNil => exact zero none 0 (List.eq_nil_of_length_eq_zero hl)
          | sl a cap us hn' hcap hx h hrr =>
            by_cases hz : n = 0
            · subst hz
              exact zero (some a) cap (List.eq_nil_of_length_eq_zero (by omega))
            · have hlen : ns.length = n := by omega
              subst hlen
              have hat : ∀ j, j < ns.length → a.spot = none ∧ w.cell? ⟨a.block, a.off + j, none⟩ = some (.int .u8 (Sp_at ns j)) := by
                intro j hj
                obtain ⟨h1, _⟩ := bytesP_at hns j hj
                obtain ⟨k1, k2, _⟩ := h j _ h1
                have k3 := hrr j _ h1
                have k4 := hR.fix _ _ _ k2
                generalize us j = u at k3 k4
                cases k3
                exact ⟨k1, k4⟩
              obtain ⟨b, off, spot⟩ := a
              have hsp : spot = none := (hat 0 (by omega)).1
              subst hsp
              refine (callsIn_wide.1 (add_in Fence.wide 5 trivial trivial trivial trivial rfl (Nat.le_refl _) s hs0 hs1 b off cap ns (by omega) (by omega) hcap (fun j hj => (bytesP_at hns j hj).2) w (World.block_lt_of_cell? _ _ (hat 0 (by omega)).2) (fun j hj => (hat j hj).2))).mono ?_
              rintro e w' ⟨rfl, hB⟩
              exact ⟨_, rfl, fin w' hB⟩
        · cases h
    · cases h

end Go.Proofs.YtcjcinipfdameacGreatDoor.Am
