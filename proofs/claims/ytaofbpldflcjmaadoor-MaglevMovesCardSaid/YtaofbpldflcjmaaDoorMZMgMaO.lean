/- maglev.Fill: what it answers. -/
import Derived.Test.YtaofbpldflcjmaaDoorMZMgMaN
set_option linter.unusedVariables false
set_option linter.unusedSimpArgs false
set_option maxRecDepth 100000
set_option maxHeartbeats 4000000
namespace Go.Proofs.YtaofbpldflcjmaaDoor.Am
open St
def Sp.slt (c : List PV) (n : Nat) (z : Int) : List PV := slotsP z.toNat (Sp.srn c n) (cursF (Sp.srt c n) z)
def tabV (c : List PV) (n : Nat) (z : Int) : PV := .agg [vI z, .sl (Sp.srt c n) 18 (Sp.srn c n) none, .sl (Sp.slt c n z) 1 z.toNat none]
def askFi (e : Nat) (c : List PV) (n : Nat) : Bool := Nat.beq e 18 && goodP n c
def gFi (xs : List PV) : Option Tr := match xs with
  | [.sl c e n none, .int .i64 z] => some (.br (sizedP z) (.br (strange c n) (.leaf (askFi e c n) (.tup [noTab, errV 1])) (.br ((Sp.srn c n : Int) == 0) (.leaf (askFi e c n) (.tup [noTab, errV 2]))
      (.br (decide ((Sp.srn c n : Int) > 24) || decide ((Sp.srn c n : Int) > z)) (.leaf (askFi e c n) (.tup [noTab, errV 3])) (.leaf (askFi e c n) (.tup [tabV c n z, .nilif]))))) (.leaf (askFi e c n) (.tup [noTab, errV 0])))
  | _ => none
theorem chainK_at {n : Nat} {f : Nat -> Option PV} : ∀ {k : Nat}, 1 <= n -> n <= k -> chainK n f k = f n
  | 0, h1, h2 => by omega
  | k + 1, h1, h2 => by
    unfold chainK
    by_cases e : n = k + 1
    . subst e
      rw [show Nat.beq (k + 1) (k + 1) = true from Nat.beq_refl _, cond_true]
    . have : Nat.beq n (k + 1) = false := by
        cases hb : Nat.beq n (k + 1) with
        | false => rfl
        | true => exact absurd (Nat.eq_of_beq_eq_true hb) e
      rw [this, cond_false]
      exact chainK_at h1 (by omega)
theorem pl0_eq {a b c : Int} (h1 : 2 <= a) (h2 : a <= 1000) (h3 : 0 <= b) (h4 : b < a) : pl0 a b c = b := by
  unfold pl0
  rw [Int.zero_tmod, Int.zero_add, wrap_small (n := a) (by omega) (by omega), Int.tmod_self, Int.zero_mul, wrap_small (n := 0) (by omega) (by omega), Int.add_zero, wrap_small (by omega) (by omega), Int.tmod_eq_of_lt h3 h4]
theorem newC_ok {z : Int} (hz : sizedP z = true) (x : List PV) : (1 <= (newC z x).s /\ (newC z x).s < z) /\ (0 <= (newC z x).a /\ (newC z x).a < z) /\ (newC z x).d = 0 := by
  obtain ⟨l1, l2⟩ := sized_lt hz
  have h := sr_ok hz (Sp.put x)
  unfold srP at h
  simp only [Bool.and_eq_true, decide_eq_true_eq] at h
  obtain ⟨_, h1, h2, h3, h4⟩ := h
  unfold newC
  dsimp only
  rw [pl0_eq l1 (by omega) h1 h2]
  omega
theorem runFi (xs : List PV) (t : Tr) (v : PV) (hg : gFi xs = some t) (hv : t.val = some v) : ∃ H, apartS EN TFi H 1000009 5 6 xs = some v := by
  unfold gFi at hg
  split at hg
  . rename_i c e n z
    cases hg
    refine ⟨H0, ?_⟩
    have key : askFi e c n = true -> e = 18 /\ goodP n c = true := fun h => by
      unfold askFi at h
      simp only [Bool.and_eq_true] at h
      exact ⟨Nat.eq_of_beq_eq_true h.1, h.2⟩
    have pre : goodP n c = true -> rowsC KPt n c = true /\ oldL 0 c = true := fun h => by
      unfold goodP at h
      simp only [Bool.and_eq_true] at h
      obtain ⟨r1, r2, r3, r4⟩ := rowsC_ok h.1
      exact ⟨h.1, by rw [<- r3]; exact rows_old r2⟩
    have br : ∀ {b : Bool} {x y : Tr}, (Tr.br b x y).val = some v -> (bif b then x.val else y.val) = some v := fun h => h
    cases hs : sizedP z with
    | false =>
      rw [hs] at hv
      obtain ⟨ha, rfl⟩ := leaf_val (br hv)
      obtain ⟨rfl, hg⟩ := key ha
      obtain ⟨p1, p2⟩ := pre hg
      rw [fi0]
      unfold headF
      rw [asks_of (cons_ok p2 (cons_ok (by rw [hg]; rfl) rfl)), hs]
      rfl
    | true =>
      rw [hs] at hv
      have hv := br hv
      rw [cond_true] at hv
      have hv := br hv
      cases hst : strange c n with
      | true =>
        rw [hst] at hv
        obtain ⟨ha, rfl⟩ := leaf_val hv
        obtain ⟨rfl, hg⟩ := key ha
        obtain ⟨p1, p2⟩ := pre hg
        rw [fi0]
        unfold headF
        rw [asks_of (cons_ok p2 (cons_ok (by rw [hg]; rfl) rfl)), hs, Bool.not_true, cond_false, asks_of (cons_ok p2 (cons_ok (by rw [p1]; rfl) rfl)), hst]
        rfl
      | false =>
        rw [hst, cond_false] at hv
        have hv := br hv
        cases h0 : ((Sp.srn c n : Int) == 0) with
        | true =>
          rw [h0] at hv
          obtain ⟨ha, rfl⟩ := leaf_val hv
          obtain ⟨rfl, hg⟩ := key ha
          obtain ⟨p1, p2⟩ := pre hg
          rw [fi0]
          unfold headF
          rw [asks_of (cons_ok p2 (cons_ok (by rw [hg]; rfl) rfl)), hs, Bool.not_true, cond_false, asks_of (cons_ok p2 (cons_ok (by rw [p1]; rfl) rfl)), hst, cond_false, h0]
          rfl
        | false =>
          rw [h0, cond_false] at hv
          have hv := br hv
          cases hfull : (decide ((Sp.srn c n : Int) > 24) || decide ((Sp.srn c n : Int) > z)) with
          | true =>
            rw [hfull] at hv
            obtain ⟨ha, rfl⟩ := leaf_val hv
            obtain ⟨rfl, hg⟩ := key ha
            obtain ⟨p1, p2⟩ := pre hg
            rw [fi0]
            unfold headF
            rw [asks_of (cons_ok p2 (cons_ok (by rw [hg]; rfl) rfl)), hs, Bool.not_true, cond_false, asks_of (cons_ok p2 (cons_ok (by rw [p1]; rfl) rfl)), hst, cond_false, h0, cond_false]
            cases h24 : decide ((Sp.srn c n : Int) > 24) with
            | true => rfl
            | false =>
              rw [h24, Bool.false_or] at hfull
              rw [cond_false, hfull]
              rfl
          | false =>
            rw [hfull] at hv
            obtain ⟨ha, rfl⟩ := leaf_val hv
            obtain ⟨rfl, hg⟩ := key ha
            obtain ⟨p1, p2⟩ := pre hg
            simp only [Bool.or_eq_false_iff] at hfull
            obtain ⟨f1, f2⟩ := hfull
            have q1 := of_decide_eq_false f1
            have q2 := of_decide_eq_false f2
            have q0 : Sp.srn c n ≠ 0 := by
              intro e0
              rw [e0] at h0
              cases h0
            obtain ⟨r1, r2, r3, r4⟩ := rowsC_ok p1
            have hR := sortP_ok r2
            have hlen := sortP_len (chunks KPt.length n c)
            have hrc : rowsC KPt (Sp.srn c n) (Sp.srt c n) = true := rowsC_of (K := KPt) hR (by show (sortP (chunks KPt.length n c)).length <= 1000000; omega)
            have hso : oldL 0 (Sp.srt c n) = true := rows_old hR
            obtain ⟨l1, l2⟩ := sized_lt hs
            obtain ⟨Z, rfl⟩ := Int.eq_ofNat_of_zero_le (show 0 <= z by omega)
            have hn0 : oldL 0 (negs (Z : Int)) = true := by
              have : negs (Z : Int) = ivs (List.replicate Z (-1)) := by unfold negs ivs; rw [List.map_replicate, Int.toNat_natCast]
              rw [this]
              exact ivs_old _
            rw [fi0]
            unfold headF
            rw [asks_of (cons_ok p2 (cons_ok (by rw [hg]; rfl) rfl)), hs, Bool.not_true, cond_false, asks_of (cons_ok p2 (cons_ok (by rw [p1]; rfl) rfl)), hst, cond_false, h0, cond_false, f1, cond_false, f2, cond_false, asks_of (ask1 hso), chainK_at (by omega) (by omega),
              asks_of (cons_ok (by rw [hrc]; rfl) (cons_ok rfl (cons_ok hn0 rfl)))]
            have main := fi_loop (N := 1000009) (Z := Z) (k := Sp.srn c n) (n := n) (c := c) (s := Sp.srt c n) (C0 := cursF (Sp.srt c n) (Z : Int)) hs (by omega) (by omega) (fun j _ => (newC_ok hs _).1) (fun j _ => (newC_ok hs _).2.1) (fun j _ => (newC_ok hs _).2.2) p2 hso Z 0 (1000008 - Z) (by omega)
            rw [show 1000008 - Z + Z + 1 = 1000009 from by omega] at main
            exact main
  . cases hg
noncomputable def TFl : Table := TaddT T0 6 gFi
theorem TFlok : TR TFl := TR0.addT TFiok runFi
end Go.Proofs.YtaofbpldflcjmaaDoor.Am
