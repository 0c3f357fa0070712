/- A table's backend at a place. -/
import Derived.Test.YtaofbpldflcjmaaDoorMZMgMaO
set_option linter.unusedVariables false
set_option linter.unusedSimpArgs false
set_option maxRecDepth 100000
set_option maxHeartbeats 4000000
namespace Go.Proofs.YtaofbpldflcjmaaDoor.Am
open St
structure Tb where
  z : Int
  b : List PV
  bn : Nat
  s : List PV
  sn : Nat
def Tb.pv (t : Tb) : PV := .agg [vI t.z, .sl t.b 18 t.bn none, .sl t.s 1 t.sn none]
def Tb.ok (t : Tb) : Bool := rowsC KPt t.bn t.b && rowsC KIn t.sn t.s
def asTb (x : PV) : Option Tb := match x with
  | .agg [.int .i64 z, .sl b e bn none, .sl s e' sn none] => bif Nat.beq e 18 && Nat.beq e' 1 then some ⟨z, b, bn, s, sn⟩ else none
  | _ => none
theorem asTb_ok {x : PV} {t : Tb} (h : asTb x = some t) : x = t.pv := by
  unfold asTb at h
  split at h
  . rename_i z b e bn s e' sn
    cases he : Nat.beq e 18 && Nat.beq e' 1 with
    | false => rw [he] at h; cases h
    | true =>
      rw [he] at h
      cases h
      simp only [Bool.and_eq_true] at he
      rw [Nat.eq_of_beq_eq_true he.1, Nat.eq_of_beq_eq_true he.2]
      rfl
  . cases h
def Z0 : List PV := [.bool false, .int .u8 0, .int .u8 0, .int .u8 0, .int .u8 0, .int .u8 0, .int .u8 0, .int .u8 0, .int .u8 0, .int .u8 0, .int .u8 0, .int .u8 0, .int .u8 0, .int .u8 0, .int .u8 0, .int .u8 0, .int .u8 0, .int .i64 0]
def Tb.who (t : Tb) (p : Int) : Int := asI (t.s.getD (p.toNat * 1) .nilp)
def Tb.has (t : Tb) (p : Int) : Bool := sizedP t.z && ((t.sn : Int) == t.z && (!decide (p < 0) && (!decide (p ≥ t.z) && (!decide (t.who p < 0) && !decide (t.who p ≥ (t.bn : Int))))))
def Sp.atr (t : Tb) (p : Int) : List PV := bif t.has p then shapeAt KPt t.b ((t.who p).toNat * 18) else Z0
def Sp.has (t : Tb) (p : Int) : Bool := t.has p
noncomputable def TAt : Table := Tadd T0 15 gSz
theorem TAtok : TR TAt := TR0.add TIsok (runSz0 tSzM)
theorem tAt (N : Nat) (t : Tb) (p : Int) : apartS EN TAt H0 (N + 9) 5 8 [t.pv, .int .i64 p] =
  (bif !sizedP t.z then some (.tup [.agg Z0, .bool false]) else bif (t.sn : Int) != t.z then some (.tup [.agg Z0, .bool false]) else bif decide (p < 0) then some (.tup [.agg Z0, .bool false]) else bif decide (p ≥ t.z) then some (.tup [.agg Z0, .bool false]) else
   asks [decide (0 <= p) && decide (p < (t.sn : Int)), okAt [Kd.int .i64] t.s (p.toNat * 1)] <|
   bif decide (t.who p < 0) then some (.tup [.agg Z0, .bool false]) else bif decide (t.who p ≥ (t.bn : Int)) then some (.tup [.agg Z0, .bool false]) else
   asks [decide (0 <= t.who p) && decide (t.who p < (t.bn : Int)), okAt KPt t.b ((t.who p).toNat * 18)] <| some (.tup [.agg (shapeAt KPt t.b ((t.who p).toNat * 18)), .bool true])) := by kernel_rfl
def gAt (xs : List PV) : Option (Bool × PV) := match xs with
  | [x, .int .i64 p] => (asTb x).map fun t => (t.ok, .tup [.agg (shapeAt KPt (Sp.atr t p) 0), .bool (Sp.has t p)])
  | _ => none
theorem runAt (xs : List PV) (v : PV) (hg : gAt xs = some (true, v)) : ∃ H, apartS EN TAt H 1000009 5 8 xs = some v := by
  unfold gAt at hg
  split at hg
  . rename_i x p
    simp only [Option.map_eq_some_iff, Prod.mk.injEq] at hg
    obtain ⟨t, hx, ht, rfl⟩ := hg
    rw [asTb_ok hx]
    unfold Tb.ok at ht
    simp only [Bool.and_eq_true] at ht
    obtain ⟨r1, r2, r3, r4⟩ := rowsC_ok ht.1
    obtain ⟨s1, s2, s3, s4⟩ := rowsC_ok ht.2
    refine ⟨H0, (tAt 1000000 t p).trans ?_⟩
    unfold Sp.atr Sp.has Tb.has
    cases h1 : sizedP t.z with
    | false => rfl
    | true =>
      cases h2 : (t.sn : Int) == t.z with
      | false => rw [bne, h2]; rfl
      | true =>
        rw [bne, h2]
        cases h3 : decide (p < 0) with
        | true => rfl
        | false =>
          cases h4 : decide (p ≥ t.z) with
          | true => rfl
          | false =>
            have e2 : (t.sn : Int) = t.z := by simpa using h2
            have q3 := of_decide_eq_false h3
            have q4 := of_decide_eq_false h4
            obtain ⟨q, rfl⟩ := Int.eq_ofNat_of_zero_le (show 0 <= p by omega)
            have hq : q < (chunks KIn.length t.sn t.s).length := by omega
            have hrow := rows_at0 s2 hq
            rw [s3] at hrow
            simp only [Bool.not_true, Bool.not_false, cond_false, Bool.true_and]
            rw [asks_of (cons_ok (by simp; omega) (cons_ok (by rw [Int.toNat_natCast]; exact hrow.1) rfl))]
            cases h5 : decide (t.who (q : Int) < 0) with
            | true => rfl
            | false =>
              cases h6 : decide (t.who (q : Int) ≥ (t.bn : Int)) with
              | true => rfl
              | false =>
                have q5 := of_decide_eq_false h5
                have q6 := of_decide_eq_false h6
                obtain ⟨w, hw⟩ := Int.eq_ofNat_of_zero_le (show 0 <= t.who (q : Int) by omega)
                have hwl : w < (chunks KPt.length t.bn t.b).length := by omega
                have hr2 := rows_at0 r2 hwl
                rw [r3] at hr2
                simp only [Bool.not_true, Bool.not_false, cond_false, cond_true, Bool.true_and]
                rw [asks_of (cons_ok (by simp; omega) (cons_ok (by rw [hw, Int.toNat_natCast]; exact hr2.1) rfl))]
                rfl
  . cases hg
noncomputable def TAtE : Table := Tadd T0 8 gAt
theorem TAtEok : TR TAtE := TR0.add TAtok runAt
end Go.Proofs.YtaofbpldflcjmaaDoor.Am
