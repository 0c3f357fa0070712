/- slices.Repeat of one number below nought: every size that a table may have. -/
import Derived.Test.YtaofbpldflcjmaaDoorMMM2
import Derived.Test.YtaofbpldflcjmaaDoorMMRs
set_option linter.unusedVariables false
set_option linter.unusedSimpArgs false
set_option maxRecDepth 1000000
set_option maxHeartbeats 4000000
namespace Go.Proofs.YtaofbpldflcjmaaDoor.Am
open St
def isM1 : PV -> Bool
  | .int .i64 (.negSucc 0) => true
  | _ => false
def isRep (z : Nat) : Option PV -> Bool
  | some (.tup [.osl 0 bl 0 1 n none, .tup [.tup [.agg cs, .ptr 1 l 0, .bool true, .bool false, .bool false]]]) => Nat.beq bl z && (Nat.beq n z && (Nat.beq l z && (Nat.beq cs.length z && cs.all isM1)))
  | _ => false
def repOb (z : Nat) : Ob := .mem ⟨List.replicate z (vI (-1)), 1, z, true, false, false⟩
theorem isM1_rep : ∀ (cs : List PV), cs.all isM1 = true -> cs = List.replicate cs.length (vI (-1))
  | [], _ => rfl
  | x :: cs, h => by
    simp only [List.all_cons, Bool.and_eq_true] at h
    have hx : x = vI (-1) := by
      have h1 := h.1
      unfold isM1 at h1
      split at h1
      . rfl
      . cases h1
    rw [List.length_cons, List.replicate_succ, <- isM1_rep cs h.2, hx]
theorem isRep_eq {z : Nat} {x : Option PV} (h : isRep z x = true) : x = some (.tup [.osl 0 z 0 1 z none, encS [repOb z]]) := by
  unfold isRep at h
  split at h
  . rename_i bl n cs l
    simp only [Bool.and_eq_true] at h
    obtain ⟨h1, h2, h3, h4, h5⟩ := h
    have h4 := Nat.eq_of_beq_eq_true h4
    have e := isM1_rep cs h5
    rw [h4] at e
    rw [Nat.eq_of_beq_eq_true h1, Nat.eq_of_beq_eq_true h2, Nat.eq_of_beq_eq_true h3, e]
    rfl
  . cases h
def allR (p : Nat -> Bool) : Nat -> Bool
  | 0 => true
  | n + 1 => p n && allR p n
theorem allR_ok {p : Nat -> Bool} : ∀ {n : Nat}, allR p n = true -> ∀ k, k < n -> p k = true
  | 0, _, k, h => absurd h (Nat.not_lt_zero k)
  | n + 1, h, k, hk => by
    unfold allR at h
    simp only [Bool.and_eq_true] at h
    by_cases e : k = n
    . rw [e]; exact h.1
    . exact allR_ok h.2 k (by omega)
noncomputable def repC (z : Nat) : Bool := Nat.beq z 0 || isRep z (footSR EN T0 H0 1000009 5 18 [.sl [vI (-1)] 1 1 (some 1), .int .i64 (Int.ofNat z), .tup []])
def prm0 : List Nat := [2, 3, 5, 7, 11, 13, 17, 19, 23, 29, 31, 37, 41, 43]
theorem repA0 : prm0.all repC = true := by kernel_rfl
def prm1 : List Nat := [47, 53, 59, 61, 67, 71, 73, 79, 83, 89, 97, 101, 103]
theorem repA1 : prm1.all repC = true := by kernel_rfl
def prm2 : List Nat := [107, 109, 113, 127, 131, 137, 139, 149, 151]
theorem repA2 : prm2.all repC = true := by kernel_rfl
def prm3 : List Nat := [157, 163, 167, 173, 179, 181, 191, 193, 197]
theorem repA3 : prm3.all repC = true := by kernel_rfl
def prm4 : List Nat := [199, 211, 223, 227, 229, 233, 239, 241, 251]
theorem repA4 : prm4.all repC = true := by kernel_rfl
def prms : List Nat := prm0 ++ (prm1 ++ (prm2 ++ (prm3 ++ prm4)))
theorem repAll : prms.all repC = true := by
  unfold prms
  rw [List.all_append, List.all_append, List.all_append, List.all_append, repA0, repA1, repA2, repA3, repA4]
  rfl
theorem prmsAll : allR (fun z => !sizedP (Int.ofNat z) || memN z prms) 252 = true := by kernel_rfl
theorem mem_prms {z : Nat} (h : sizedP (Int.ofNat z) = true) : z ∈ prms := by
  have hz : z < 252 := by have := (sized_lt h).2; simp at this; omega
  have := allR_ok prmsAll z hz
  rw [h, Bool.not_true, Bool.false_or] at this
  exact (memN_iff z prms).1 this
def gRep (xs : List PV) : Option Tr := match xs with
  | [.sl [.int .i64 (.negSucc 0)] 1 1 (some 1), .int .i64 z, .tup []] => some (.leaf (sizedP z) (.tup [.osl 0 z.toNat 0 1 z.toNat none, encS [repOb z.toNat]]))
  | _ => none
theorem runRep (xs : List PV) (t : Tr) (v : PV) (hg : gRep xs = some t) (hv : t.val = some v) : ∃ H, footSR EN T0 H 1000009 5 18 xs = some v := by
  unfold gRep at hg
  split at hg
  . rename_i z
    cases hg
    obtain ⟨hc, rfl⟩ := leaf_val hv
    have hl := sized_lt hc
    obtain ⟨k, rfl⟩ := Int.eq_ofNat_of_zero_le (show 0 <= z by omega)
    have h := List.all_eq_true.1 repAll k (mem_prms hc)
    unfold repC at h
    have h0 : Nat.beq k 0 = false := by
      cases hb : Nat.beq k 0 with
      | false => rfl
      | true => have := Nat.eq_of_beq_eq_true hb; omega
    rw [h0, Bool.false_or] at h
    exact ⟨H0, isRep_eq h⟩
  . cases hg
noncomputable def TRep : Table := TaddT T0 18 gRep
theorem TRepok : TR TRep := TR0.addF TR0 runRep
end Go.Proofs.YtaofbpldflcjmaaDoor.Am
