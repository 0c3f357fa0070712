/- maglev.Fill: its loop's law. -/
import Derived.Test.YtaofbpldflcjmaaDoorMZMgMaH
import Derived.Test.YtaofbpldflcjmaaDoorMZMgMaI
import Derived.Test.YtaofbpldflcjmaaDoorMMMj
import Derived.Test.YtaofbpldflcjmaaDoorMZMgMaL
import Derived.Test.YtaofbpldflcjmaaDoorMZMgMaM
set_option linter.unusedVariables false
set_option linter.unusedSimpArgs false
set_option maxRecDepth 100000
set_option maxHeartbeats 4000000
namespace Go.Proofs.YtaofbpldflcjmaaDoor.Am
open St
theorem fiR_all : ∀ k, 1 <= k -> k < 25 -> FiR k
  | 0, h, _ => absurd h (by omega)
  | 1, _, _ => fiR1
  | 2, _, _ => fiR2
  | 3, _, _ => fiR3
  | 4, _, _ => fiR4
  | 5, _, _ => fiR5
  | 6, _, _ => fiR6
  | 7, _, _ => fiR7
  | 8, _, _ => fiR8
  | 9, _, _ => fiR9
  | 10, _, _ => fiR10
  | 11, _, _ => fiR11
  | 12, _, _ => fiR12
  | 13, _, _ => fiR13
  | 14, _, _ => fiR14
  | 15, _, _ => fiR15
  | 16, _, _ => fiR16
  | 17, _, _ => fiR17
  | 18, _, _ => fiR18
  | 19, _, _ => fiR19
  | 20, _, _ => fiR20
  | 21, _, _ => fiR21
  | 22, _, _ => fiR22
  | 23, _, _ => fiR23
  | 24, _, _ => fiR24
  | k + 25, _, h => absurd h (by omega)
theorem chainF_at {who : Nat} {f : Nat -> Option PV} : ∀ (n j : Nat), j <= who -> who < j + n -> chainF who f n j = f who
  | 0, j, h1, h2 => by omega
  | n + 1, j, h1, h2 => by
    unfold chainF
    by_cases e : who = j
    . subst e
      rw [show Nat.beq who who = true from Nat.beq_refl who, cond_true]
    . have : Nat.beq who j = false := by
        cases hb : Nat.beq who j with
        | false => rfl
        | true => exact absurd (Nat.eq_of_beq_eq_true hb) e
      rw [this, cond_false, chainF_at n (j + 1) (by omega) (by omega)]
def fiS (Z k : Nat) (C0 : Nat -> Cu) : Nat -> (Nat -> Cu) × List PV
  | 0 => (C0, negs Z)
  | i + 1 => (updC (fiS Z k C0 i).1 (i % k) (cuN Z ((fiS Z k C0 i).1 (i % k)) (fiS Z k C0 i).2), csN Z ((fiS Z k C0 i).1 (i % k)) (fiS Z k C0 i).2 ((i % k : Nat) : Int))
structure FInv (Z k i : Nat) (C0 C : Nat -> Cu) (cs : List PV) : Prop where
  cells : cs.all isI = true
  len : cs.length = Z
  free : frees (cs.map asI) + i = Z
  rng : ∀ x ∈ cs.map asI, x = -1 ∨ (0 <= x /\ x < (k : Int))
  s : ∀ j, j < k -> (C j).s = (C0 j).s
  a : ∀ j, j < k -> 0 <= (C j).a /\ (C j).a < (Z : Int)
  d : ∀ j, j < k -> 0 <= (C j).d /\ (C j).d <= 301 * (i : Int)
theorem ivs_isI (L : List Int) : (ivs L).all isI = true := by unfold ivs; simp [isI, vI]
theorem ivs_asI (L : List Int) : (ivs L).map asI = L := by
  unfold ivs
  rw [List.map_map]
  exact (List.map_congr_left fun x _ => rfl).trans (List.map_id L)
section
variable {Z k i : Nat} {C0 C : Nat -> Cu} {cs : List PV}
theorem FInv.turn (h : FInv Z k i C0 C cs) (hz : sizedP (Int.ofNat Z) = true) (hk : 0 < k) (hi : i < Z) (hs : ∀ j, j < k -> 1 <= (C0 j).s /\ (C0 j).s < (Z : Int)) :
    ∃ s a d r, (C (i % k)).s = ((s : Nat) : Int) /\ (C (i % k)).a = ((a : Nat) : Int) /\ (C (i % k)).d = ((d : Nat) : Int) /\ s < Z /\ a < Z /\ d <= 301 * i /\ tkP Z s (cs.map asI) a d = some r /\ tkR Z (C (i % k)).s (C (i % k)).a (C (i % k)).d cs = r /\ r.1 < Z /\ r.2.1 < Z /\ r.2.2 <= d + 301 /\ (cs.map asI).getD r.1 0 = -1 := by
  have hj := Nat.mod_lt i hk
  obtain ⟨s1, s2⟩ := hs _ hj
  rw [<- h.s _ hj] at s1 s2
  obtain ⟨a1, a2⟩ := h.a _ hj
  obtain ⟨d1, d2⟩ := h.d _ hj
  obtain ⟨s, es⟩ := Int.eq_ofNat_of_zero_le (show 0 <= (C (i % k)).s by omega)
  obtain ⟨a, ea⟩ := Int.eq_ofNat_of_zero_le a1
  obtain ⟨d, ed⟩ := Int.eq_ofNat_of_zero_le d1
  have hf := h.free
  obtain ⟨r, hr, k1, k2, k3, k4⟩ := tkP_ok (s := s) (a := a) (d := d) (L := cs.map asI) hz (by omega) (by omega) (by omega) (by rw [List.length_map]; exact h.len) (by omega)
  refine ⟨s, a, d, r, es, ea, ed, by omega, by omega, by omega, hr, ?_, k1, k2, k3, k4⟩
  unfold tkR
  rw [es, ea, ed, Int.toNat_natCast, Int.toNat_natCast, Int.toNat_natCast, Int.toNat_natCast, hr]
  rfl
theorem FInv.next (h : FInv Z k i C0 C cs) (hz : sizedP (Int.ofNat Z) = true) (hk : 0 < k) (hi : i < Z) (hs : ∀ j, j < k -> 1 <= (C0 j).s /\ (C0 j).s < (Z : Int)) :
    tkA Z (C (i % k)).s (C (i % k)).a (C (i % k)).d cs Z = true /\ FInv Z k (i + 1) C0 (updC C (i % k) (cuN Z (C (i % k)) cs)) (csN Z (C (i % k)) cs ((i % k : Nat) : Int)) := by
  have hl := (sized_lt hz).2
  have hl2 := (sized_lt hz).1
  simp at hl hl2
  have hj := Nat.mod_lt i hk
  obtain ⟨s, a, d, r, es, ea, ed, b1, b2, b3, hr, hR, k1, k2, k3, k4⟩ := h.turn hz hk hi hs
  have hL : (cs.map asI).length = Z := by rw [List.length_map]; exact h.len
  constructor
  . unfold tkA
    rw [es, ea, ed, Int.toNat_natCast, Int.toNat_natCast, Int.toNat_natCast, Int.toNat_natCast, hr, h.len, h.cells, show Nat.beq Z Z = true from Nat.beq_refl Z]
    simp only [Option.isSome_some, Bool.and_true, Bool.and_eq_true, decide_eq_true_eq]
    omega
  . unfold csN cuN
    rw [hR]
    have hw : (((i % k : Nat) : Int)) ≠ -1 := by omega
    refine ⟨ivs_isI _, by unfold ivs; rw [List.length_map, List.length_set]; exact hL, ?_, ?_, ?_, ?_, ?_⟩
    . rw [ivs_asI]
      have := frees_set (w := ((i % k : Nat) : Int)) (show r.1 < (cs.map asI).length by omega) k4 hw
      have := h.free
      omega
    . rw [ivs_asI]
      intro x hx
      rcases List.mem_or_eq_of_mem_set hx with hx | hx
      . exact h.rng x hx
      . right; rw [hx]; omega
    all_goals
      intro j hjk
      unfold updC
      by_cases e : j = i % k
      . subst e
        rw [show Nat.beq (i % k) (i % k) = true from Nat.beq_refl _]
        first
        | exact h.s _ hjk
        | (show 0 <= ((r.2.1 : Nat) : Int) /\ ((r.2.1 : Nat) : Int) < (Z : Int); omega)
        | (show 0 <= ((r.2.2 : Nat) : Int) /\ ((r.2.2 : Nat) : Int) <= 301 * ((i + 1 : Nat) : Int); omega)
      . have : Nat.beq j (i % k) = false := by
          cases hb : Nat.beq j (i % k) with
          | false => rfl
          | true => exact absurd (Nat.eq_of_beq_eq_true hb) e
        rw [this]
        first
        | exact h.s _ hjk
        | exact h.a _ hjk
        | (have := h.d _ hjk; show 0 <= (C j).d /\ (C j).d <= 301 * ((i + 1 : Nat) : Int); omega)
end
theorem finv_0 {Z k : Nat} {C0 : Nat -> Cu} (ha : ∀ j, j < k -> 0 <= (C0 j).a /\ (C0 j).a < (Z : Int)) (hd : ∀ j, j < k -> (C0 j).d = 0) : FInv Z k 0 C0 C0 (negs Z) := by
  have e : (negs (Z : Int)).map asI = List.replicate Z (-1) := by unfold negs; rw [List.map_replicate, Int.toNat_natCast]; rfl
  refine ⟨?_, by unfold negs; rw [List.length_replicate, Int.toNat_natCast], by rw [e, frees_neg]; rfl, ?_, fun j _ => rfl, ha, fun j hj => by rw [hd j hj]; omega⟩
  . unfold negs
    rw [List.all_eq_true]
    intro x hx
    rw [(List.mem_replicate.1 hx).2]
    rfl
  . rw [e]
    intro x hx
    exact .inl (List.mem_replicate.1 hx).2
theorem fiS_inv {Z k : Nat} {C0 : Nat -> Cu} (hz : sizedP (Int.ofNat Z) = true) (hk : 0 < k) (hs : ∀ j, j < k -> 1 <= (C0 j).s /\ (C0 j).s < (Z : Int)) (ha : ∀ j, j < k -> 0 <= (C0 j).a /\ (C0 j).a < (Z : Int)) (hd : ∀ j, j < k -> (C0 j).d = 0) :
    ∀ i, i <= Z -> FInv Z k i C0 (fiS Z k C0 i).1 (fiS Z k C0 i).2
  | 0, _ => finv_0 ha hd
  | i + 1, h => ((fiS_inv hz hk hs ha hd i (by omega)).next hz hk (by omega) hs).2
theorem tmod_nat (i k : Nat) : (i : Int).tmod (k : Int) = ((i % k : Nat) : Int) := (Int.ofNat_tmod i k).symm
def slotsP (Z k : Nat) (C0 : Nat -> Cu) : List PV := (fiS Z k C0 Z).2
theorem fi_loop {N Z k n : Nat} {c s : List PV} {C0 : Nat -> Cu} (hz : sizedP (Int.ofNat Z) = true) (hk : 0 < k) (hk2 : k < 25) (hs : ∀ j, j < k -> 1 <= (C0 j).s /\ (C0 j).s < (Z : Int)) (ha : ∀ j, j < k -> 0 <= (C0 j).a /\ (C0 j).a < (Z : Int)) (hd : ∀ j, j < k -> (C0 j).d = 0)
    (hc : oldL 0 c = true) (hso : oldL 0 s = true) : ∀ (q i t : Nat), i + q = Z ->
    LFi N (t + q + 1) c n s k (Z : Int) k (fiS Z k C0 i).1 (fiS Z k C0 i).2 (i : Int) = some (.tup [.agg [vI Z, .sl s 18 k none, .sl (slotsP Z k C0) 1 Z none], .nilif])
  | 0, i, t, e => by
    have hi : i = Z := by omega
    subst hi
    have I := fiS_inv hz hk hs ha hd i (Nat.le_refl _)
    have e1 : takeZ (i : Int) (fiS i k C0 i).2 = (fiS i k C0 i).2 := by
      unfold takeZ
      rw [Int.toNat_natCast, Nat.mul_one, List.drop_zero]
      exact List.take_of_length_le (by rw [I.len]; exact Nat.le_refl _)
    have hcalm : (fiS i k C0 i).2.all PV.calm = true := by
      rw [ivs_of I.cells]; unfold ivs; simp [vI, PV.calm]
    have hold : oldL 0 (fiS i k C0 i).2 = true := by rw [ivs_of I.cells]; exact ivs_old _
    rw [fiR_all k hk hk2, cond_f (show decide ((i : Int) < (i : Int)) = false from by simp)]
    unfold exitF
    rw [e1, asks_of (cons_ok (by rw [hcalm, I.len, Int.toNat_natCast]; simp) (cons_ok hso (cons_ok hold rfl))), Int.toNat_natCast]
    rfl
  | q + 1, i, t, e => by
    have I := fiS_inv hz hk hs ha hd i (by omega)
    obtain ⟨n1, n2⟩ := I.next hz hk (by omega) hs
    have hj := Nat.mod_lt i hk
    have hold : oldL 0 (fiS Z k C0 i).2 = true := by rw [ivs_of I.cells]; exact ivs_old _
    have hold2 : oldL 0 (csN Z ((fiS Z k C0 i).1 (i % k)) (fiS Z k C0 i).2 ((i % k : Nat) : Int)) = true := by unfold csN; exact ivs_old _
    have c9 : oldL (3 + 3 * k) c = true := oldL_le (Nat.zero_le _) _ hc
    have s9 : oldL (3 + 3 * k) s = true := oldL_le (Nat.zero_le _) _ hso
    have hl := (sized_lt hz).2
    simp at hl
    rw [show t + (q + 1) + 1 = (t + q + 1) + 1 from by omega, fiR_all k hk hk2, cond_t (show decide ((i : Int) < (Z : Int)) = true from by simp; omega), tmod_nat, asks_of (cons_ok (by simp; omega) (cons_ok (by simp; omega) rfl)), Int.toNat_natCast, Nat.zero_add, Nat.mul_one, chainF_at k 0 (Nat.zero_le _) (by omega)]
    rw [asks_of (by
      unfold askF
      rw [hold, hold2, c9, s9, Int.toNat_natCast, n1, show Nat.beq Z Z = true from Nat.beq_refl Z]
      simp), wrap_succ (by omega : i < 9223372036854775807)]
    exact fi_loop hz hk hk2 hs ha hd hc hso q (i + 1) t (by omega)
end Go.Proofs.YtaofbpldflcjmaaDoor.Am
