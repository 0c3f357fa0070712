/- The environment with slices.SortFunc at points, by the kit's contract. -/
import Derived.Test.YtaofbpldflcjmaaDoorMZMgEnvV
import Derived.Test.YtaofbpldflcjmaaDoorMMSf
import Derived.Test.YtaofbpldflcjmaaDoorMZSoLay
set_option linter.unusedVariables false
set_option linter.unusedSimpArgs false
set_option maxRecDepth 100000
set_option maxHeartbeats 4000000
namespace Go.Proofs.YtaofbpldflcjmaaDoor.Am
open St Go.Sort
def KPo : List Kd := [.bool, .int .u8, .int .u8, .int .u8, .int .u8, .int .u8, .int .u8, .int .u8, .int .u8, .int .u8, .int .u8, .int .u8, .int .u8, .int .u8, .int .u8, .int .u8, .int .u8, .int .i64]
def cPo (x y : List PV) : Int := ptC (ptAt x 0) (ptAt y 0)
theorem po_of {x : List PV} (h : wk KPo x = true) : x = (ptAt x 0).cs := (shape_of h).symm
theorem cPo_co : CO cPo := ptC_co.comap fun x => ptAt x 0
noncomputable def TK1 : Table := Tadd T0 70 gNaNi
where gNaNi (xs : List PV) : Option (Bool × PV) := match xs with
  | [.int .i64 a] => some (true, .bool false)
  | _ => none
noncomputable def TK2 : Table := Tadd TK1 40 gCmpi
where gCmpi (xs : List PV) : Option (Bool × PV) := match xs with
  | [.int .i64 a, .int .i64 b] => some (true, vi (cmpI a b))
  | _ => none
noncomputable def TK3 : Table := Tadd TK2 38 gOr2
where gOr2 (xs : List PV) : Option (Bool × PV) := match xs with
  | [.sl [.int .i64 a, .int .i64 b] 1 2 _] => some (true, vi (orr [a, b]))
  | _ => none
noncomputable def TK4 : Table := Tadd TK3 39 gAdi
where gAdi (xs : List PV) : Option (Bool × PV) := (two asAd xs).map fun p => (true, vi (adC p.1 p.2))
theorem two_some0 {A B : Type} {f : PV -> Option A} {g : A × A -> B} {xs : List PV} {v : B} (h : (two f xs).map g = some v) : ∃ x y a b, xs = [x, y] /\ f x = some a /\ f y = some b /\ v = g (a, b) := by
  simp only [Option.map_eq_some_iff] at h
  obtain ⟨⟨a, b⟩, h, rfl⟩ := h
  unfold two at h
  split at h
  . rename_i x y
    split at h
    . rename_i a' b' h1 h2
      cases h
      exact ⟨x, y, a, b, rfl, h1, h2, rfl⟩
    . cases h
  . cases h
theorem kNaNi (G : Nat -> Option (List PV)) (N : Nat) (a : Int) : apartS (EG G) T0 H0 N 5 70 [.int .i64 a] = some (.bool (a != a)) := by kernel_rfl
theorem kCmpi (G : Nat -> Option (List PV)) (N : Nat) (a b : Int) : apartS (EG G) TK1 H0 N 5 40 [.int .i64 a, .int .i64 b] = (bif decide (a < b) then some (vi (-1)) else bif decide (a > b) then some (vi 1) else some (vi 0)) := by kernel_rfl
theorem kOr2 (G : Nat -> Option (List PV)) (N : Nat) (a b : Int) (xc : Option Nat) : apartS (EG G) TK2 H0 (N + 9) 5 38 [.sl [.int .i64 a, .int .i64 b] 1 2 xc] = (bif a != 0 then some (vi a) else bif b != 0 then some (vi b) else some (vi 0)) := by kernel_rfl
theorem kAdi (G : Nat -> Option (List PV)) (N : Nat) (a b : Ad) : apartS (EG G) TK3 H0 N 5 39 [.agg a.cs, .agg b.cs] = (bif a.six == b.six then some (vi (cmpBytes (bytes16 a.b) (bytes16 b.b))) else bif a.six then some (vi 1) else some (vi (-1))) := by kernel_rfl
theorem kPti (G : Nat -> Option (List PV)) (N : Nat) (a b : Pt) : apartS (EG G) TK4 H0 N 5 26 [.agg a.cs, .agg b.cs] = some (vi (ptC a b)) := by kernel_rfl
theorem points_cmp (G : Nat -> Option (List PV)) {x y : List PV} (hx : wk KPo x = true) (hy : wk KPo y = true) : ∃ N k, apartA (EG G) (runA (EG G) N k) 26 [.agg x, .agg y] = some (.int .i64 (cPo x y)) := by
  have h0 : TOk (EG G) T0 (runA (EG G) 1000009 0) := T0_ok
  have h1 : TOk (EG G) TK1 _ := Tadd_ok2 (f0 := 70) (g := TK1.gNaNi) (d := 5) h0 h0 (fun _ => rfl) (fun xs v h => ⟨H0, by
    unfold TK1.gNaNi at h
    split at h
    . rename_i a
      simp only [Option.some.injEq, Prod.mk.injEq, true_and] at h
      subst h
      exact (kNaNi G 1000009 a).trans (by simp)
    . cases h⟩)
  have h2 : TOk (EG G) TK2 _ := Tadd_ok2 (f0 := 40) (g := TK2.gCmpi) (d := 5) h1 h1 (fun _ => rfl) (fun xs v h => ⟨H0, by
    unfold TK2.gCmpi at h
    split at h
    . rename_i a b
      simp only [Option.some.injEq, Prod.mk.injEq, true_and] at h
      subst h
      exact (kCmpi G 1000009 a b).trans (cmpI_some a b)
    . cases h⟩)
  have h3 : TOk (EG G) TK3 _ := Tadd_ok2 (f0 := 38) (g := TK3.gOr2) (d := 5) h2 h2 (fun _ => rfl) (fun xs v h => ⟨H0, by
    unfold TK3.gOr2 at h
    split at h
    . rename_i a b xc
      simp only [Option.some.injEq, Prod.mk.injEq, true_and] at h
      subst h
      exact (kOr2 G 1000000 a b xc).trans (or2_some a b)
    . cases h⟩)
  have h4 : TOk (EG G) TK4 _ := Tadd_ok2 (f0 := 39) (g := TK4.gAdi) (d := 5) h3 h3 (fun _ => rfl) (fun xs v h => ⟨H0, by
    obtain ⟨x, y, a, b, rfl, h1, h2, h3⟩ := two_some0 h
    cases h3
    rw [asAd_ok h1, asAd_ok h2]
    refine (kAdi G 1000009 a b).trans ?_
    unfold adC
    cases a.six <;> cases b.six <;> rfl⟩)
  have h5 := apartS_ok h4 (f := 26) («as» := [.agg (ptAt x 0).cs, .agg (ptAt y 0).cs]) rfl (kPti G 1000009 (ptAt x 0) (ptAt y 0))
  rw [<- po_of hx, <- po_of hy] at h5
  exact ⟨_, _, h5⟩
theorem inR_u8 {x : List PV} (hw : wk KPo x = true) (hr : x.all inR = true) : Ok8 (ptAt x 0).ad.b := by
  have e := po_of hw
  intro i hi
  have key : ∀ y ∈ (ptAt x 0).cs, inR y = true := by rw [<- e]; exact List.all_eq_true.1 hr
  have hm : PV.int .u8 ((ptAt x 0).ad.b i) ∈ (ptAt x 0).cs := by
    unfold Pt.cs Ad.cs byteCells
    match i, hi with
    | 0, _ => simp
    | 1, _ => simp
    | 2, _ => simp
    | 3, _ => simp
    | 4, _ => simp
    | 5, _ => simp
    | 6, _ => simp
    | 7, _ => simp
    | 8, _ => simp
    | 9, _ => simp
    | 10, _ => simp
    | 11, _ => simp
    | 12, _ => simp
    | 13, _ => simp
    | 14, _ => simp
    | 15, _ => simp
    | i + 16, h => exact absurd h (by omega)
  have := key _ hm
  unfold inR at this
  simp only [Bool.and_eq_true, decide_eq_true_eq] at this
  obtain ⟨w1, w2⟩ := this
  simp [IntKind.min, IntKind.max, IntKind.signed, IntKind.bits] at w1 w2
  omega
theorem cmpBytes_zero : ∀ {x y : List UInt8}, cmpBytes x y = 0 -> x = y
  | [], [], _ => rfl
  | [], _ :: _, h => by cases h
  | _ :: _, [], h => by cases h
  | a :: x, b :: y, h => by
    unfold cmpBytes at h
    by_cases e : a = b
    . rw [if_pos e] at h
      rw [e, cmpBytes_zero h]
    . rw [if_neg e] at h
      split at h <;> cases h
theorem cmpI_zero {a b : Int} (h : cmpI a b = 0) : a = b := by
  unfold cmpI at h
  cases h1 : decide (a < b) with
  | true => rw [h1] at h; cases h
  | false =>
    cases h2 : decide (a > b) with
    | true => rw [h1, h2] at h; cases h
    | false =>
      simp only [decide_eq_false_iff_not] at h1 h2
      omega
theorem adC_zero {a b : Ad} (ha : Ok8 a.b) (hb : Ok8 b.b) (h : adC a b = 0) : a.six = b.six /\ ∀ i, i < 16 -> a.b i = b.b i := by
  unfold adC at h
  cases hs : a.six == b.six with
  | false =>
    rw [hs, cond_false] at h
    cases h6 : a.six <;> rw [h6] at h <;> cases h
  | true =>
    rw [hs, cond_true] at h
    have e := cmpBytes_zero h
    refine ⟨by simpa using hs, fun i hi => (byteOf_eq ha hb hi).1 ?_⟩
    have e2 := congrArg (·[i]?) e
    unfold bytes16 at e2
    match i, hi with
    | 0, _ => simpa using e2
    | 1, _ => simpa using e2
    | 2, _ => simpa using e2
    | 3, _ => simpa using e2
    | 4, _ => simpa using e2
    | 5, _ => simpa using e2
    | 6, _ => simpa using e2
    | 7, _ => simpa using e2
    | 8, _ => simpa using e2
    | 9, _ => simpa using e2
    | 10, _ => simpa using e2
    | 11, _ => simpa using e2
    | 12, _ => simpa using e2
    | 13, _ => simpa using e2
    | 14, _ => simpa using e2
    | 15, _ => simpa using e2
    | i + 16, h => exact absurd h (by omega)
theorem po_one (x y : List PV) (hx : goodR KPo x = true) (hy : goodR KPo y = true) (h : cPo x y = 0) : x = y := by
  unfold goodR at hx hy
  simp only [Bool.and_eq_true] at hx hy
  have z := orr_zero (l := [adC (ptAt x 0).ad (ptAt y 0).ad, cmpI (ptAt x 0).port (ptAt y 0).port]) h
  obtain ⟨e1, e2⟩ := adC_zero (inR_u8 hx.1 hx.2.2) (inR_u8 hy.1 hy.2.2) (z _ (by simp))
  have e3 := cmpI_zero (z (cmpI (ptAt x 0).port (ptAt y 0).port) (by simp))
  rw [po_of hx.1, po_of hy.1]
  unfold Pt.cs Ad.cs byteCells
  rw [e1, e3, e2 0 (by decide), e2 1 (by decide), e2 2 (by decide), e2 3 (by decide), e2 4 (by decide), e2 5 (by decide), e2 6 (by decide), e2 7 (by decide), e2 8 (by decide), e2 9 (by decide), e2 10 (by decide), e2 11 (by decide), e2 12 (by decide), e2 13 (by decide), e2 14 (by decide), e2 15 (by decide)]
theorem sorts_points : SortsAt Tryd.prog 25 26 KPo := fun enc hk h1 cf hO blk off cap d w hcmp hH hblk hsz =>
  Tryd.slices_SortFunc 18 Tryd.isAgg36 Tryd.sizeOf36 enc hk h1 cf hO 26 #[] blk off cap d w (enters_of Tryd.func26 (by kernel_rfl) rfl) hcmp hH hblk hsz
noncomputable def ES (G : Nat -> Option (List PV)) : Env := { EG G with prim := fun f args σ fl => match primSort 25 26 KPo cPo f args σ fl with
  | some r => some r
  | none => (EG G).prim f args σ fl }
noncomputable def EN : Env := ES rowG
theorem Moves.cast {E E' : Env} (h : E.G = E'.G) {fl : Nat} {Γ : Sealed} {ρ : Ren} {σ σ' : Store} {w w' : World} {p : PV} {r : Value} (m : Moves E fl Γ ρ σ w p σ' r w') : Moves E' fl Γ ρ σ w p σ' r w' := by
  obtain ⟨Γ', ρ', h1, h2, h3⟩ := m
  exact ⟨Γ', ρ', h1, h2.cast h, h3⟩
theorem ES_ok {G : Nat -> Option (List PV)} (hG : GOk G) : (ES G).Ok where
  plain := (EG_ok hG).plain
  ext := (EG_ok hG).ext
  mixed := (EG_ok hG).mixed
  glob := (EG_ok hG).glob
  pure := fun f args r h => by
    obtain ⟨h1, h2⟩ := (EG_ok hG).pure f args r h
    refine ⟨h1, fun Γ w vs hR hr => (h2 Γ w vs (Rel.cast (E := ES G) (E' := EG G) rfl hR) hr).mono fun e w' he => ?_⟩
    obtain ⟨v, e1, hm⟩ := he
    exact ⟨v, e1, Moves.cast (E := EG G) (E' := ES G) rfl hm⟩
  clone := fun f es h cells n xc fl Γ ρ σ w v hR hfl hr hn h1 => by
    refine ((EG_ok hG).clone f es h cells n xc fl Γ ρ σ w v (Rel.cast (E := ES G) (E' := EG G) rfl hR) hfl hr hn h1).mono fun e w' he => ?_
    obtain ⟨v, e1, hm⟩ := he
    exact ⟨v, e1, Moves.cast (E := EG G) (E' := ES G) rfl hm⟩
  prim := fun f args σ fl p σ' h hfl Γ ρ w vs hR hr => by
    have h' : (match primSort 25 26 KPo cPo f args σ fl with
      | some r => some r
      | none => (EG G).prim f args σ fl) = some (true, p, σ') := h
    split at h'
    . rename_i q hq
      cases h'
      exact primSort_ok (E := ES G) (E0 := EG G) (EG_ok hG) rfl rfl (fun a b => cPo_co.anti a b) (fun a b c => cPo_co.trans a b c) po_one
        (fun x y hx hy => points_cmp G (by unfold goodR at hx; simp only [Bool.and_eq_true] at hx; exact hx.1) (by unfold goodR at hy; simp only [Bool.and_eq_true] at hy; exact hy.1))
        (by decide) (by decide) (by rfl) sorts_points hq hR hr
    . refine ((EG_ok hG).prim f args σ fl p σ' h' hfl Γ ρ w vs (Rel.cast (E := ES G) (E' := EG G) rfl hR) hr).mono fun e w' he => ?_
      obtain ⟨v, e1, hm⟩ := he
      exact ⟨v, e1, Moves.cast (E := EG G) (E' := ES G) rfl hm⟩
theorem EN_ok : EN.Ok := ES_ok rowG_ok
end Go.Proofs.YtaofbpldflcjmaaDoor.Am
