/- maglev.cursors: its answer. -/
import Derived.Test.YtaofbpldflcjmaaDoorMMM6
import Derived.Test.YtaofbpldflcjmaaDoorMZMgMa8
import Derived.Test.YtaofbpldflcjmaaDoorMZMgMa9
set_option linter.unusedVariables false
set_option linter.unusedSimpArgs false
set_option maxRecDepth 100000
set_option maxHeartbeats 4000000
namespace Go.Proofs.YtaofbpldflcjmaaDoor.Am
open St
theorem cuR_all : ∀ j, j < 25 -> CuR j
  | 0, _ => cuR0
  | 1, _ => cuR1
  | 2, _ => cuR2
  | 3, _ => cuR3
  | 4, _ => cuR4
  | 5, _ => cuR5
  | 6, _ => cuR6
  | 7, _ => cuR7
  | 8, _ => cuR8
  | 9, _ => cuR9
  | 10, _ => cuR10
  | 11, _ => cuR11
  | 12, _ => cuR12
  | 13, _ => cuR13
  | 14, _ => cuR14
  | 15, _ => cuR15
  | 16, _ => cuR16
  | 17, _ => cuR17
  | 18, _ => cuR18
  | 19, _ => cuR19
  | 20, _ => cuR20
  | 21, _ => cuR21
  | 22, _ => cuR22
  | 23, _ => cuR23
  | 24, _ => cuR24
  | j + 25, h => absurd h (by omega)
theorem xo_range (a b : Int) : 0 <= xo a b /\ xo a b < 18446744073709551616 := by
  unfold xo
  rw [IntKind.wrap_u64]
  omega
theorem hof_range (s : Int) (c : List PV) : 0 <= hofP s c /\ hofP s c < 18446744073709551616 := xo_range _ _
theorem below_range {h n : Int} (h0 : 0 <= h) (hn : 1 <= n) (hn2 : n <= 1000) : 0 <= belowP h n /\ belowP h n < n := by
  unfold belowP
  rw [show decide (n < 1) = false from by simp; omega, cond_false, wrapU_small (by omega) (by omega)]
  have h1 := Int.tmod_lt_of_pos h (show 0 < n by omega)
  have h2 := Int.tmod_nonneg n h0
  rw [wrap_small (by omega) (by omega)]
  exact ⟨h2, h1⟩
theorem sr_ok {z : Int} (hz : sizedP z = true) (c : List PV) : srP z (ofO c z) (ofS c z) = true := by
  obtain ⟨l1, l2⟩ := sized_lt hz
  have a := below_range (hof_range 1 c).1 (show 1 <= z by omega) (by omega)
  have b := below_range (n := z - 1) (hof_range 2 c).1 (by omega) (by omega)
  unfold srP ofO ofS
  rw [hz, wrap_small (n := z - 1) (by omega) (by omega), wrap_small (by omega) (by omega)]
  simp only [Bool.true_and, Bool.and_eq_true, decide_eq_true_eq]
  omega
theorem cobs_congr {z : Int} {C D : Nat -> Cu} : ∀ (n i k : Nat), (∀ x, x < i + n -> C x = D x) -> cobs z C n i k = cobs z D n i k
  | 0, _, _, _ => rfl
  | n + 1, i, k, h => by
    unfold cobs
    rw [h i (by omega), cobs_congr n (i + 1) (k + 2) fun x hx => h x (by omega)]
theorem cbox_congr {z : Int} {C D : Nat -> Cu} : ∀ (n i : Nat), (∀ x, x < i + n -> C x = D x) -> cbox z C n i = cbox z D n i
  | 0, _, _ => rfl
  | n + 1, i, h => by
    unfold cbox
    rw [h i (by omega), cbox_congr n (i + 1) fun x hx => h x (by omega)]
theorem cuSt_congr {z : Int} {C D : Nat -> Cu} {n : Nat} (h : ∀ x, x < n -> C x = D x) : cuSt z C n = cuSt z D n := by
  cases n with
  | zero => rfl
  | succ n =>
    unfold cuSt
    dsimp only
    rw [cobs_congr (n + 1) 0 (2 + n) (fun x hx => h x (by omega)), cbox_congr (n + 1) 0 (fun x hx => h x (by omega))]
theorem putR_okB (x : List PV) : okB (Sp.put x) (Sp.putn x) = true := put_okB _
theorem putR_old (x : List PV) : oldL 0 (Sp.put x) = true := okB_old (putR_okB x)
theorem cu_loop {N n : Nat} {z : Int} {R : List (List PV)} (hz : sizedP z = true) (hR : rowsOk KPt R = true) (hl : R.length = n) (hn : n <= 24) : ∀ (k i t : Nat) (C : Nat -> Cu), i + k = n -> (∀ x, x < i -> C x = newC z (poAt R.flatten x)) ->
    LCu N (t + k + 1) R.flatten n z C i (i : Int) = some (.tup [.tup [cuO n, .nilif], encS (cuSt z (fun x => newC z (poAt R.flatten x)) n)])
  | 0, i, t, C, e, hC => by
    have hi : i = n := by omega
    subst hi
    rw [cuR_all i (by omega)]
    unfold rndC
    rw [cond_f (show decide ((i : Int) < (i : Int)) = false from by simp), cuSt_congr hC]
  | k + 1, i, t, C, e, hC => by
    have hi : i < R.length := by omega
    have ho := rows_old hR
    obtain ⟨l1, l2⟩ := sized_lt hz
    rw [show t + (k + 1) + 1 = (t + k + 1) + 1 from by omega, cuR_all i (by omega)]
    unfold rndC
    rw [cond_t (show decide ((i : Int) < (n : Int)) = true from by simp; omega), asks_of (cons_ok (inside (by omega : i < n)) (cons_ok (by rw [Int.toNat_natCast]; exact (rows_at0 hR hi).1) rfl)), asks_of (ask1 (putR_old _)), hz, cond_true,
      asks_of (cons_ok (by rw [putR_okB]; rfl) (cons_ok (by rw [sr_ok hz]; simp; omega) (cons_ok (by rw [sr_ok hz]; rfl) (cons_ok ho (cons_ok ho rfl))))), wrap_succ (by omega : i < 9223372036854775807)]
    refine cu_loop hz hR hl hn k (i + 1) t _ (by omega) fun x hx => ?_
    unfold updC
    by_cases hxi : x = i
    . subst hxi
      rw [Nat.beq_refl]; rfl
    . have : Nat.beq x i = false := by
        cases hb : Nat.beq x i with
        | false => rfl
        | true => exact absurd (Nat.eq_of_beq_eq_true hb) hxi
      rw [this]
      exact hC x (by omega)
def cursF (c : List PV) (z : Int) : Nat -> Cu := fun x => newC z (poAt c x)
def cuT (ask : Bool) (c : List PV) (n : Nat) (z : Int) : Nat -> Tr
  | 0 => .leaf false .nilp
  | k + 1 => .br (Nat.beq n (k + 1)) (.leaf ask (.tup [.tup [cuO (k + 1), .nilif], encS (cuSt z (cursF c z) (k + 1))])) (cuT ask c n z k)
theorem cuT_val {ask : Bool} {c : List PV} {n : Nat} {z : Int} {v : PV} : ∀ {k : Nat}, (cuT ask c n z k).val = some v -> ask = true /\ 1 <= n /\ n <= k /\ v = .tup [.tup [cuO n, .nilif], encS (cuSt z (cursF c z) n)]
  | 0, h => by cases h
  | k + 1, h => by
    unfold cuT at h
    cases hb : Nat.beq n (k + 1) with
    | true =>
      have e := Nat.eq_of_beq_eq_true hb
      rw [hb] at h
      subst e
      obtain ⟨h1, h2⟩ := leaf_val (show (Tr.leaf ask (.tup [.tup [cuO (k + 1), .nilif], encS (cuSt z (cursF c z) (k + 1))])).val = some v from h)
      exact ⟨h1, by omega, Nat.le_refl _, h2.symm⟩
    | false =>
      rw [hb] at h
      obtain ⟨h1, h2, h3, h4⟩ := cuT_val (show (cuT ask c n z k).val = some v from h)
      exact ⟨h1, h2, by omega, h4⟩
def gCu (xs : List PV) : Option Tr := match xs with
  | [.sl c e n none, .int .i64 z, .tup []] => some (cuT (Nat.beq e 18 && (rowsC KPt n c && sizedP z)) c n z 24)
  | _ => none
theorem cu00 (N : Nat) (c : List PV) (n : Nat) (z : Int) : footSR EN TCu HCu N 5 17 [.sl c 18 n none, .int .i64 z, .tup []] = LCu N N c n z (fun _ => ⟨0, 0, 0, 0⟩) 0 0 := by kernel_rfl
theorem runCu (xs : List PV) (t : Tr) (v : PV) (hg : gCu xs = some t) (hv : t.val = some v) : ∃ H, footSR EN TCu H 1000009 5 17 xs = some v := by
  unfold gCu at hg
  split at hg
  . rename_i c e n z
    cases hg
    obtain ⟨hc, h1, h2, rfl⟩ := cuT_val hv
    simp only [Bool.and_eq_true] at hc
    obtain ⟨he, hr, hz⟩ := hc
    rw [Nat.eq_of_beq_eq_true he]
    obtain ⟨r1, r2, r3, r4⟩ := rowsC_ok hr
    rw [show KPt.length = 18 from rfl] at r2 r3 r4
    have main := cu_loop (N := 1000009) hz r2 r4 h2 n 0 (1000008 - n) (fun _ => ⟨0, 0, 0, 0⟩) (by omega) (fun x hx => absurd hx (Nat.not_lt_zero x))
    rw [show 1000008 - n + n + 1 = 1000009 from by omega, r3] at main
    exact ⟨HCu, (cu00 1000009 c n z).trans main⟩
  . cases hg
noncomputable def TCur : Table := TaddT T0 17 gCu
theorem TCurok : TR TCur := TR0.addF TCuok runCu
end Go.Proofs.YtaofbpldflcjmaaDoor.Am
