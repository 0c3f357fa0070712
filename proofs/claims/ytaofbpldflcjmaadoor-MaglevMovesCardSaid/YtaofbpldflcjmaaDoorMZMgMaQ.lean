/- At how many places two tables have unlike backends. -/
import Derived.Test.YtaofbpldflcjmaaDoorMZMgMaP
set_option linter.unusedVariables false
set_option linter.unusedSimpArgs false
set_option maxRecDepth 100000
set_option maxHeartbeats 4000000
namespace Go.Proofs.YtaofbpldflcjmaaDoor.Am
open St
def bxT (t : Tb) : Ob := .mem ⟨t.pv.cells, 3, 1, true, false, true⟩
def slM (t u : Tb) (k i : Int) : List (Nat × PV) := [(0, t.pv), (1, u.pv), (2, .ptr 0 1 0), (3, .ptr 1 1 0), (4, vI 0), (5, vI k), (11, .ptr 0 1 2), (12, .sl t.s 1 t.sn none), (13, vI t.sn), (14, .ptr 1 1 2), (15, .sl u.s 1 u.sn none), (16, vI u.sn), (17, vI (mnI (t.sn : Int) (u.sn : Int))), (18, vI i)]
def tb0 : Tb := ⟨0, [], 0, [], 0⟩
noncomputable def LMv (N m : Nat) (t u : Tb) (k i : Int) : Option PV := loopS EN TAtE H0 N 5 7 Tryd.f7 [1, 1, 0, 1, 0] (patOf (sparse 46 0 (slM tb0 tb0 0 0))) 2 m (sparse 46 0 (slM t u k i)) [bxT t, bxT u]
theorem mv0 (N : Nat) (t u : Tb) : apartS EN TAtE H0 N 5 7 [t.pv, u.pv] = LMv N N t u 0 0 := by kernel_rfl
def askT2 (l : Nat) (t : Tb) : List Bool := [oldL l t.b, oldL l t.s]
def askM (t u : Tb) : List Bool := askT2 2 t ++ (askT2 2 u ++ ([oldL 2 t.s, oldL 2 u.s] ++ (askT2 2 t ++ askT2 2 u)))
theorem mv1 (N m : Nat) (t u : Tb) (k i : Int) : LMv N (m + 1) t u k i =
  (bif decide (i < mnI (t.sn : Int) (u.sn : Int)) then
    (asks (askT2 0 t ++ [t.ok]) <| asks (askT2 0 u ++ [u.ok]) <|
     bif Sp.has t i then
       (bif Sp.has u i then
         (bif !(eqPt (Sp.atr t i) (Sp.atr u i)) then (asks (askM t u) <| LMv N m t u (IntKind.i64.wrap (k + 1)) (IntKind.i64.wrap (i + 1))) else (asks (askM t u) <| LMv N m t u k (IntKind.i64.wrap (i + 1))))
        else (asks (askM t u) <| LMv N m t u k (IntKind.i64.wrap (i + 1))))
     else (asks (askM t u) <| LMv N m t u k (IntKind.i64.wrap (i + 1))))
   else some (vI k)) := by kernel_rfl
theorem tb_old {t : Tb} (h : t.ok = true) (l : Nat) : (askT2 l t).all id = true := by
  unfold Tb.ok at h
  simp only [Bool.and_eq_true] at h
  obtain ⟨r1, r2, r3, r4⟩ := rowsC_ok h.1
  obtain ⟨s1, s2, s3, s4⟩ := rowsC_ok h.2
  exact cons_ok (by rw [<- r3]; exact rows_oldn r2 l) (cons_ok (by rw [<- s3]; exact rows_oldn s2 l) rfl)
theorem askM_ok {t u : Tb} (h : t.ok = true) (k : u.ok = true) : (askM t u).all id = true := by
  have a := tb_old h 2
  have b := tb_old k 2
  have ha : oldL 2 t.s = true := by have := a; unfold askT2 at this; simp at this; exact this.2
  have hb : oldL 2 u.s = true := by have := b; unfold askT2 at this; simp at this; exact this.2
  exact all_app a (all_app b (all_app (cons_ok ha (cons_ok hb rfl)) (all_app a b)))
def dif (t u : Tb) (i : Nat) : Bool := Sp.has t (i : Int) && (Sp.has u (i : Int) && !(eqPt (Sp.atr t i) (Sp.atr u i)))
def mvC (t u : Tb) : Nat -> Nat
  | 0 => 0
  | i + 1 => bif dif t u i then mvC t u i + 1 else mvC t u i
theorem mvC_le (t u : Tb) : ∀ i, mvC t u i <= i
  | 0 => Nat.le_refl _
  | i + 1 => by
    have := mvC_le t u i
    unfold mvC
    cases dif t u i with
    | true => rw [cond_true]; omega
    | false => rw [cond_false]; omega
theorem mv_loop {N n : Nat} {t u : Tb} (ht : t.ok = true) (hu : u.ok = true) (hn : n <= 1000000) (hm : mnI (t.sn : Int) (u.sn : Int) = (n : Int)) : ∀ (q i r : Nat), i + q = n -> LMv N (r + q + 1) t u (mvC t u i : Int) (i : Int) = some (vI (mvC t u n))
  | 0, i, r, e => by
    rw [mv1, hm, cond_f (show decide ((i : Int) < (n : Int)) = false from by simp; omega), show i = n from by omega]
  | q + 1, i, r, e => by
    have hle := mvC_le t u i
    have ih := mv_loop (N := N) ht hu hn hm q (i + 1) r (by omega)
    rw [show r + (q + 1) + 1 = (r + q + 1) + 1 from by omega, mv1, hm, cond_t (show decide ((i : Int) < (n : Int)) = true from by simp; omega), asks_of (all_app (tb_old ht 0) (ask1 ht)), asks_of (all_app (tb_old hu 0) (ask1 hu)), asks_of (askM_ok ht hu), asks_of (askM_ok ht hu), wrap_succ (by omega : i < 9223372036854775807), wrap_succ (by omega : mvC t u i < 9223372036854775807)]
    rw [mvC] at ih
    unfold dif at ih
    cases h1 : Sp.has t (i : Int) with
    | false => rw [h1] at ih; exact ih
    | true =>
      cases h2 : Sp.has u (i : Int) with
      | false => rw [h1, h2] at ih; exact ih
      | true =>
        cases h3 : eqPt (Sp.atr t i) (Sp.atr u i) with
        | true => rw [h1, h2, h3] at ih; exact ih
        | false => rw [h1, h2, h3] at ih; exact ih
def gMv (xs : List PV) : Option (Bool × PV) := match xs with
  | [x, y] => match asTb x, asTb y with
    | some t, some u => some (t.ok && u.ok, vI (mvC t u (min t.sn u.sn)))
    | _, _ => none
  | _ => none
theorem runMv (xs : List PV) (v : PV) (hg : gMv xs = some (true, v)) : ∃ H, apartS EN TAtE H 1000009 5 7 xs = some v := by
  unfold gMv at hg
  split at hg
  . rename_i x y
    split at hg
    . rename_i t u hx hy
      simp only [Option.some.injEq, Prod.mk.injEq, Bool.and_eq_true] at hg
      obtain ⟨⟨ht, hu⟩, rfl⟩ := hg
      rw [asTb_ok hx, asTb_ok hy]
      have hs := ht
      unfold Tb.ok at hs
      simp only [Bool.and_eq_true] at hs
      obtain ⟨s1, s2, s3, s4⟩ := rowsC_ok hs.2
      have main := mv_loop (N := 1000009) (n := min t.sn u.sn) ht hu (by omega) (by unfold mnI; split <;> omega) (min t.sn u.sn) 0 (1000008 - min t.sn u.sn) (by omega)
      rw [show 1000008 - min t.sn u.sn + min t.sn u.sn + 1 = 1000009 from by omega] at main
      exact ⟨H0, (mv0 1000009 t u).trans main⟩
    . cases hg
  . cases hg
noncomputable def TMv : Table := Tadd T0 7 gMv
theorem TMvok : TR TMv := TR0.add TAtEok runMv
end Go.Proofs.YtaofbpldflcjmaaDoor.Am
