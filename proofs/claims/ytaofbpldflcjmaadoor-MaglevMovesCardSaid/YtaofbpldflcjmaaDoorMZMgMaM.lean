/- Every place is met: strides in tables of a prime size; what take finds. Plain. -/
import Derived.Test.YtaofbpldflcjmaaDoorMZMgMaB
import Derived.Test.YtaofbpldflcjmaaDoorMZMgMaA
set_option linter.unusedVariables false
set_option linter.unusedSimpArgs false
set_option maxRecDepth 100000
set_option maxHeartbeats 4000000
namespace Go.Proofs.YtaofbpldflcjmaaDoor.Am
open St
theorem invAll : allR (fun z => !sizedP (Int.ofNat z) || allR (fun s => Nat.beq s 0 || Nat.beq (s * (s ^ (z - 2) % z) % z) 1) z) 252 = true := by kernel_rfl
theorem inv_ex {z s : Nat} (hz : sizedP (Int.ofNat z) = true) (h1 : 1 <= s) (h2 : s < z) : ∃ u, s * u % z = 1 := by
  have hl := (sized_lt hz).2
  have h := allR_ok invAll z (by simp at hl; omega)
  rw [hz, Bool.not_true, Bool.false_or] at h
  have h := allR_ok h s h2
  have h0 : Nat.beq s 0 = false := by
    cases hb : Nat.beq s 0 with
    | false => rfl
    | true => have := Nat.eq_of_beq_eq_true hb; omega
  rw [h0, Bool.false_or] at h
  exact ⟨_, Nat.eq_of_beq_eq_true h⟩
theorem meets {z s : Nat} (hz : sizedP (Int.ofNat z) = true) (h1 : 1 <= s) (h2 : s < z) {p q : Nat} (hp : p < z) (hq : q < z) : ∃ t, t < z /\ (p + t * s) % z = q := by
  obtain ⟨u, hu⟩ := inv_ex hz h1 h2
  refine ⟨((q + z - p) * u) % z, Nat.mod_lt _ (by omega), ?_⟩
  have e1 : (((q + z - p) * u) % z * s) % z = (q + z - p) % z := by
    rw [Nat.mod_mul_mod, Nat.mul_assoc, Nat.mul_comm u s, Nat.mul_mod, hu, Nat.mul_one, Nat.mod_mod]
  rw [Nat.add_mod, e1, <- Nat.add_mod, show p + (q + z - p) = q + z from by omega, Nat.add_mod_right, Nat.mod_eq_of_lt hq]
theorem tkG_some {z s : Nat} {L : List Int} : ∀ (m p d t : Nat), p < z -> t < m -> L.getD ((p + t * s) % z) 0 = -1 -> ∃ r, tkG z s L m p ((p + s) % z) d = some r
  | 0, p, d, t, hp, ht, h => absurd ht (Nat.not_lt_zero t)
  | m + 1, p, d, t, hp, ht, h => by
    unfold tkG
    cases hb : L.getD p 0 == -1 with
    | true => exact ⟨_, rfl⟩
    | false =>
      cases t with
      | zero =>
        rw [Nat.zero_mul, Nat.add_zero, Nat.mod_eq_of_lt hp] at h
        rw [h] at hb
        cases hb
      | succ t =>
        rw [cond_false]
        refine tkG_some m ((p + s) % z) (d + 1) t (Nat.mod_lt _ (by omega)) (by omega) ?_
        rw [Nat.mod_add_mod, show p + s + t * s = p + (t + 1) * s from by rw [Nat.add_mul]; omega]
        exact h
theorem tkG_at {z s : Nat} {L : List Int} : ∀ (m p a d : Nat) (r : Nat × Nat × Nat), p < z -> a < z -> tkG z s L m p a d = some r -> r.1 < z /\ r.2.1 < z /\ r.2.2 <= d + m /\ L.getD r.1 0 = -1
  | 0, p, a, d, r, hp, ha, h => by cases h
  | m + 1, p, a, d, r, hp, ha, h => by
    unfold tkG at h
    cases hb : L.getD p 0 == -1 with
    | true =>
      rw [hb, cond_true] at h
      cases h
      exact ⟨hp, ha, by show d <= d + (m + 1); omega, by simpa using hb⟩
    | false =>
      rw [hb, cond_false] at h
      obtain ⟨h1, h2, h3, h4⟩ := tkG_at m a ((a + s) % z) (d + 1) r ha (Nat.mod_lt _ (by omega)) h
      exact ⟨h1, h2, by omega, h4⟩
def frees (L : List Int) : Nat := (L.filter (· == -1)).length
theorem frees_some {L : List Int} (h : 0 < frees L) : ∃ q, q < L.length /\ L.getD q 0 = -1 := by
  unfold frees at h
  obtain ⟨x, hx⟩ := List.exists_mem_of_length_pos h
  obtain ⟨h1, h2⟩ := List.mem_filter.1 hx
  obtain ⟨q, hq, e⟩ := List.getElem_of_mem h1
  refine ⟨q, hq, ?_⟩
  rw [List.getD_eq_getElem?_getD, List.getElem?_eq_getElem hq, Option.getD_some, e]
  simpa using h2
theorem frees_set : ∀ {L : List Int} {q : Nat} {w : Int}, q < L.length -> L.getD q 0 = -1 -> w ≠ -1 -> frees (L.set q w) + 1 = frees L
  | [], q, w, hq, _, _ => absurd hq (Nat.not_lt_zero q)
  | x :: L, 0, w, hq, h, hw => by
    have hx : x = -1 := h
    subst hx
    unfold frees
    rw [List.set_cons_zero, List.filter_cons_of_neg (by simpa using hw), List.filter_cons_of_pos (by simp), List.length_cons]
  | x :: L, q + 1, w, hq, h, hw => by
    have ih := frees_set (L := L) (q := q) (w := w) (by simpa using hq) (by simpa using h) hw
    unfold frees at ih ⊢
    rw [List.set_cons_succ]
    by_cases hx : x = -1
    . rw [List.filter_cons_of_pos (by simp [hx]), List.filter_cons_of_pos (by simp [hx]), List.length_cons, List.length_cons]
      omega
    . rw [List.filter_cons_of_neg (by simpa using hx), List.filter_cons_of_neg (by simpa using hx)]
      exact ih
theorem frees_none {L : List Int} (h : frees L = 0) : ∀ x ∈ L, x ≠ -1 := by
  unfold frees at h
  intro x hx e
  have : x ∈ L.filter (· == -1) := List.mem_filter.2 ⟨hx, by simp [e]⟩
  rw [List.eq_nil_of_length_eq_zero h] at this
  cases this
theorem frees_neg (n : Nat) : frees (List.replicate n (-1)) = n := by
  unfold frees
  rw [List.filter_eq_self.2 (by simp), List.length_replicate]
theorem tkP_ok {z s a d : Nat} {L : List Int} (hz : sizedP (Int.ofNat z) = true) (h1 : 1 <= s) (h2 : s < z) (ha : a < z) (hL : L.length = z) (hf : 0 < frees L) : ∃ r, tkP z s L a d = some r /\ r.1 < z /\ r.2.1 < z /\ r.2.2 <= d + 301 /\ L.getD r.1 0 = -1 := by
  have hl := (sized_lt hz).2
  simp at hl
  obtain ⟨q, hq, e⟩ := frees_some hf
  obtain ⟨t, ht, et⟩ := meets hz h1 h2 ha (show q < z by omega)
  obtain ⟨r, hr⟩ := tkG_some (z := z) (s := s) (L := L) 300 a (d + 1) t ha (by omega) (by rw [et]; exact e)
  obtain ⟨k1, k2, k3, k4⟩ := tkG_at 300 a ((a + s) % z) (d + 1) r ha (Nat.mod_lt _ (by omega)) hr
  exact ⟨r, hr, k1, k2, by omega, k4⟩
end Go.Proofs.YtaofbpldflcjmaaDoor.Am
