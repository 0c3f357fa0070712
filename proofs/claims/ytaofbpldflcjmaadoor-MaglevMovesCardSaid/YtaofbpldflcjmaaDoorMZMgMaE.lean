/- Whether a point of a list is strange (slices.ContainsFunc with Fill's closure). -/
import Derived.Test.YtaofbpldflcjmaaDoorMZMgMaD
set_option linter.unusedVariables false
set_option linter.unusedSimpArgs false
set_option maxRecDepth 100000
set_option maxHeartbeats 4000000
namespace Go.Proofs.YtaofbpldflcjmaaDoor.Am
open St
def Sp.ptv (x : List PV) : Bool := Sp.ptOk (ptAt x 0)
def gPoR (xs : List PV) : Option (Bool × PV) := match xs with
  | [.agg x] => some (wk KPt x, .bool (Sp.ptv x))
  | _ => none
theorem runPoR (xs : List PV) (v : PV) (hg : gPoR xs = some (true, v)) : ∃ H, apartS EN TPR H 1000009 5 13 xs = some v := by
  unfold gPoR at hg
  split at hg
  . rename_i x
    simp only [Option.some.injEq, Prod.mk.injEq] at hg
    obtain ⟨hw, rfl⟩ := hg
    have e := pt_of hw
    unfold Sp.ptv
    generalize ptAt x 0 = p at e ⊢
    subst e
    refine ⟨H0, (tPoi 999959 p).trans ?_⟩
    unfold Sp.ptOk
    cases Sp.adOk p.ad <;> rfl
  . cases hg
noncomputable def TPoR : Table := Tadd T0 13 gPoR
theorem TPoRok : TR TPoR := TR0.add TPRok runPoR
noncomputable def LIf (N m : Nat) (c : List PV) (n : Nat) (i : Int) : Option PV := loopS EN TPoR H0 N 5 29 Tryd.f29 [1, 0, 1, 0] (patOf (sparse 19 0 [(0, .nils), (1, .nilfn), (4, vI 0), (6, .nils), (7, vI 0), (8, vI 0)])) 0 m (sparse 19 0 [(0, .sl c 18 n none), (1, .fn (.func 12) [] []), (4, vI 0), (6, .sl c 18 n none), (7, vI n), (8, vI i)]) []
theorem if0 (N : Nat) (c : List PV) (n : Nat) : apartS EN TPoR H0 N 5 29 [.sl c 18 n none, .fn (.func 12) [] []] = LIf N N c n 0 := by kernel_rfl
theorem if1 (N m : Nat) (c : List PV) (n : Nat) (i : Int) : LIf N (m + 1) c n i =
  (bif decide (i < (n : Int)) then (asks [decide (0 <= i) && decide (i < (n : Int)), okAt KPt c (i.toNat * 18)] <| bif !Sp.ptv (poAt c i) then some (vI i) else (asks [oldL 0 c, oldL 0 c] <| LIf N m c n (IntKind.i64.wrap (i + 1))))
   else some (vI (-1))) := by kernel_rfl
def idxB : List (List PV) -> Nat -> Int
  | [], _ => -1
  | x :: R, i => bif !Sp.ptv x then (i : Int) else idxB R (i + 1)
theorem if_loop {N n : Nat} {R : List (List PV)} (hR : rowsOk KPt R = true) (hl : R.length = n) (hn : n <= 1000000) : ∀ (k i t : Nat), i + k = n -> LIf N (t + k + 1) R.flatten n (i : Int) = some (vI (idxB (R.drop i) i))
  | 0, i, t, e => by
    rw [if1, cond_f (show decide ((i : Int) < (n : Int)) = false from by simp; omega), List.drop_eq_nil_of_le (by omega)]
    rfl
  | k + 1, i, t, e => by
    have hi : i < R.length := by omega
    have hr := rows_at0 hR hi
    have ho := rows_old hR
    have hp : poAt R.flatten (i : Int) = R[i] := by unfold poAt; rw [Int.toNat_natCast]; exact hr.2
    rw [show t + (k + 1) + 1 = (t + k + 1) + 1 from by omega, if1, cond_t (show decide ((i : Int) < (n : Int)) = true from by simp; omega), asks_of (cons_ok (inside (by omega : i < n)) (cons_ok (by rw [Int.toNat_natCast]; exact hr.1) rfl)), hp, asks_of (cons_ok ho (cons_ok ho rfl)), wrap_succ (by omega : i < 9223372036854775807), if_loop hR hl hn k (i + 1) t (by omega), List.drop_eq_getElem_cons hi]
    show _ = some (vI (bif !Sp.ptv R[i] then (i : Int) else idxB (R.drop (i + 1)) (i + 1)))
    cases Sp.ptv R[i] <;> rfl
def gIF (xs : List PV) : Option (Bool × PV) := match xs with
  | [.sl c e n none, .fn (.func q) [] []] => some (Nat.beq e 18 && (Nat.beq q 12 && rowsC KPt n c), vI (idxB (chunks 18 n c) 0))
  | _ => none
theorem runIF (xs : List PV) (v : PV) (hg : gIF xs = some (true, v)) : ∃ H, apartS EN TPoR H 1000009 5 29 xs = some v := by
  unfold gIF at hg
  split at hg
  . rename_i c e n q
    simp only [Option.some.injEq, Prod.mk.injEq, Bool.and_eq_true] at hg
    obtain ⟨⟨he, hq, hr⟩, rfl⟩ := hg
    rw [Nat.eq_of_beq_eq_true he, Nat.eq_of_beq_eq_true hq]
    obtain ⟨r1, r2, r3, r4⟩ := rowsC_ok hr
    rw [show KPt.length = 18 from rfl] at r2 r3 r4
    have main := if_loop (N := 1000009) r2 r4 r1 n 0 (1000008 - n) (by omega)
    rw [show 1000008 - n + n + 1 = 1000009 from by omega, r3] at main
    exact ⟨H0, (if0 1000009 c n).trans main⟩
  . cases hg
noncomputable def TIf : Table := Tadd T0 29 gIF
theorem TIfok : TR TIf := TR0.add TPoRok runIF
def strange (c : List PV) (n : Nat) : Bool := (chunks 18 n c).any fun x => !Sp.ptv x
theorem idxB_any : ∀ (R : List (List PV)) (i : Nat), decide (idxB R i ≥ 0) = R.any fun x => !Sp.ptv x
  | [], i => by simp [idxB]
  | x :: R, i => by
    unfold idxB
    rw [List.any_cons]
    cases Sp.ptv x with
    | false => simp
    | true => simp only [Bool.not_true, cond_false, Bool.false_or]; exact idxB_any R (i + 1)
def gCo (xs : List PV) : Option (Bool × PV) := match xs with
  | [.sl c e n none, .fn (.func q) [] []] => some (Nat.beq e 18 && (Nat.beq q 12 && rowsC KPt n c), .bool (strange c n))
  | _ => none
theorem tCo (N : Nat) (c : List PV) (n : Nat) : apartS EN TIf H0 N 5 16 [.sl c 18 n none, .fn (.func 12) [] []] =
  (asks [oldL 0 c, Nat.beq 18 18 && (Nat.beq 12 12 && rowsC KPt n c)] <| some (.bool (decide (idxB (chunks 18 n c) 0 ≥ 0)))) := by kernel_rfl
theorem runCo (xs : List PV) (v : PV) (hg : gCo xs = some (true, v)) : ∃ H, apartS EN TIf H 1000009 5 16 xs = some v := by
  unfold gCo at hg
  split at hg
  . rename_i c e n q
    simp only [Option.some.injEq, Prod.mk.injEq, Bool.and_eq_true] at hg
    obtain ⟨⟨he, hq, hr⟩, rfl⟩ := hg
    rw [Nat.eq_of_beq_eq_true he, Nat.eq_of_beq_eq_true hq]
    obtain ⟨r1, r2, r3, r4⟩ := rowsC_ok hr
    refine ⟨H0, (tCo 1000009 c n).trans ?_⟩
    rw [asks_of (cons_ok (by rw [<- r3]; exact rows_old r2) (cons_ok (by rw [hr]; rfl) rfl)), idxB_any]
    rfl
  . cases hg
noncomputable def TCo : Table := Tadd T0 16 gCo
theorem TCook : TR TCo := TR0.add TIfok runCo
end Go.Proofs.YtaofbpldflcjmaaDoor.Am
