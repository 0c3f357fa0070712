import Derived.Test.YtbhgibpdhmlamaaMgA
import Derived.Test.YtbhgibpdhmlamaaMgF
import Derived.Test.YtbhgibpdhmlamaaMgG
import Derived.Test.YtbhgibpdhmlamaaMgI
/- Fronts, groups' keys, filters held against each other: what the functions answer, at every run; the three stable sorts. -/
section
set_option linter.unusedVariables false
set_option linter.unusedSimpArgs false
set_option maxRecDepth 100000
set_option maxHeartbeats 4000000
namespace Go.Proofs.Ytbhgibpdhmlamaa.Am
open St

/-- A table that is right at some depth. -/
def TR (T : Table) : Prop := ∃ K, TOk EN T (runA EN 1000009 K)

theorem TR0 : TR T0 := ⟨0, T0_ok⟩

theorem TR.add {T T' : Table} {f0 : Nat} {g : List PV → Option (Bool × PV)} (hT : TR T) (hT' : TR T') (h : ∀ xs v, g xs = some (true, v) → ∃ H, apartS EN T' H 1000009 5 f0 xs = some v) (hft : footK f0 = false := by rfl) (hp : ∀ xs, EN.pure f0 xs = none := by intro xs; rfl) : TR (Tadd T f0 g) := by
  obtain ⟨k, hT⟩ := hT
  obtain ⟨k', hT'⟩ := hT'
  exact ⟨_, Tadd_ok2 hT hT' hp h hft⟩

theorem TR.addT {T T' : Table} {f0 : Nat} {g : List PV → Option Tr} (hT : TR T) (hT' : TR T') (h : ∀ xs t v, g xs = some t → t.val = some v → ∃ H, apartS EN T' H 1000009 5 f0 xs = some v) (hft : footK f0 = false := by rfl) (hp : ∀ xs, EN.pure f0 xs = none := by intro xs; rfl) : TR (TaddT T f0 g) := by
  obtain ⟨k, hT⟩ := hT
  obtain ⟨k', hT'⟩ := hT'
  exact ⟨_, TaddT_ok2 hT hT' hp h hft⟩

theorem TR.addF {T T' : Table} {f0 : Nat} {g : List PV → Option Tr} (hT : TR T) (hT' : TR T') (h : ∀ xs t v, g xs = some t → t.val = some v → ∃ H, footSR EN T' H 1000009 5 f0 xs = some v) (hap : apartT f0 = false := by rfl) : TR (TaddT T f0 g) := by
  obtain ⟨k, hT⟩ := hT
  obtain ⟨k', hT'⟩ := hT'
  exact ⟨_, TaddF_ok2 hT hT' h hap⟩

theorem two_some {A B : Type} {f : PV → Option A} {g : A × A → B} {xs : List PV} {v : B} (h : (two f xs).map g = some v) : ∃ x y a b, xs = [x, y] ∧ f x = some a ∧ f y = some b ∧ v = g (a, b) := by
  simp only [Option.map_eq_some_iff] at h
  obtain ⟨⟨a, b⟩, h, rfl⟩ := h
  unfold two at h
  split at h
  · rename_i x y
    split at h
    · rename_i a' b' h1 h2
      cases h
      exact ⟨x, y, a, b, rfl, h1, h2, rfl⟩
    · cases h
  · cases h

theorem row2_some {K : List Kd} {f : List PV → List PV → Int} {xs : List PV} {v : PV} (h : gRow2 K f xs = some (true, v)) : ∃ x y, xs = [.agg x, .agg y] ∧ wk K x = true ∧ wk K y = true ∧ v = vi (f x y) := by
  unfold gRow2 at h
  split at h
  · rename_i x y
    simp only [Option.some.injEq, Prod.mk.injEq, Bool.and_eq_true] at h
    exact ⟨x, y, rfl, h.1.1, h.1.2, h.2.symm⟩
  · cases h

theorem cmpI_some (a b : Int) : (bif decide (a < b) then some (vi (-1)) else bif decide (a > b) then some (vi 1) else some (vi 0)) = some (vi (cmpI a b)) := by
  unfold cmpI
  cases decide (a < b) <;> cases decide (a > b) <;> rfl
theorem cmpS_some (s t : List UInt8) : (bif Op.bytesLess s t then some (vi (-1)) else bif !(Op.bytesLess s t || s == t) then some (vi 1) else some (vi 0)) = some (vi (cmpS s t)) := by
  unfold cmpS
  cases Op.bytesLess s t <;> cases s == t <;> rfl
theorem num_some (a : Bool) : (bif a then some (vi 1) else some (vi 0)) = some (vi (num a)) := by cases a <;> rfl

theorem or2_some (a b : Int) : (bif a != 0 then some (vi a) else bif b != 0 then some (vi b) else some (vi 0)) = some (vi (orr [a, b])) := by
  unfold orr orr orr
  cases a != 0 <;> cases b != 0 <;> rfl
theorem or4_some (a b c d : Int) : (bif a != 0 then some (vi a) else bif b != 0 then some (vi b) else bif c != 0 then some (vi c) else bif d != 0 then some (vi d) else some (vi 0)) = some (vi (orr [a, b, c, d])) := by
  unfold orr orr orr orr orr
  cases a != 0 <;> cases b != 0 <;> cases c != 0 <;> cases d != 0 <;> rfl
theorem or5_some (a b c d e : Int) : (bif a != 0 then some (vi a) else bif b != 0 then some (vi b) else bif c != 0 then some (vi c) else bif d != 0 then some (vi d) else bif e != 0 then some (vi e) else some (vi 0)) = some (vi (orr [a, b, c, d, e])) := by
  unfold orr orr orr orr orr orr
  cases a != 0 <;> cases b != 0 <;> cases c != 0 <;> cases d != 0 <;> cases e != 0 <;> rfl

theorem runOr {f : Nat} {T : Table} (h2 : ∀ (a b : Int) (xc : Option Nat), apartS EN T H0 1000009 5 f [.sl [.int .i64 a, .int .i64 b] 1 2 xc] = (bif a != 0 then some (vi a) else bif b != 0 then some (vi b) else some (vi 0))) (h4 : ∀ (a b c d : Int) (xc : Option Nat), apartS EN T H0 1000009 5 f [.sl [.int .i64 a, .int .i64 b, .int .i64 c, .int .i64 d] 1 4 xc] = (bif a != 0 then some (vi a) else bif b != 0 then some (vi b) else bif c != 0 then some (vi c) else bif d != 0 then some (vi d) else some (vi 0)))
    (h5 : ∀ (a b c d e : Int) (xc : Option Nat), apartS EN T H0 1000009 5 f [.sl [.int .i64 a, .int .i64 b, .int .i64 c, .int .i64 d, .int .i64 e] 1 5 xc] = (bif a != 0 then some (vi a) else bif b != 0 then some (vi b) else bif c != 0 then some (vi c) else bif d != 0 then some (vi d) else bif e != 0 then some (vi e) else some (vi 0))) (xs : List PV) (v : PV) (h : gOr xs = some (true, v)) : ∃ H, apartS EN T H 1000009 5 f xs = some v := by
  unfold gOr at h
  split at h
  · simp only [Option.some.injEq, Prod.mk.injEq, true_and] at h
    subst h
    exact ⟨H0, (h2 _ _ _).trans (or2_some _ _)⟩
  · simp only [Option.some.injEq, Prod.mk.injEq, true_and] at h
    subst h
    exact ⟨H0, (h4 _ _ _ _ _).trans (or4_some _ _ _ _)⟩
  · simp only [Option.some.injEq, Prod.mk.injEq, true_and] at h
    subst h
    exact ⟨H0, (h5 _ _ _ _ _ _).trans (or5_some _ _ _ _ _)⟩
  · cases h

theorem loopT_some (a b : Nat → Int) : ∀ l, loopT a b l = some (vi (loopI a b l))
  | [] => rfl
  | i :: l => by
    have ih := loopT_some a b l
    unfold loopT loopI
    rw [ih]
    cases decide (a i < b i) <;> cases decide (a i > b i) <;> rfl

theorem runAd {f : Nat} {T : Table} {k : Ad → Ad → Int} (ht : ∀ a b : Ad, apartS EN T H0 1000009 5 f [.agg a.cs, .agg b.cs] = some (vi (k a b))) (xs : List PV) (v : PV) (h : gAd2 k xs = some (true, v)) : ∃ H, apartS EN T H 1000009 5 f xs = some v := by
  obtain ⟨x, y, a, b, rfl, h1, h2, h3⟩ := two_some h
  cases h3
  rw [asAd_ok h1, asAd_ok h2]
  exact ⟨H0, ht a b⟩
theorem runPt {f : Nat} {T : Table} {k : Pt → Pt → Int} (ht : ∀ a b : Pt, apartS EN T H0 1000009 5 f [.agg a.cs, .agg b.cs] = some (vi (k a b))) (xs : List PV) (v : PV) (h : gPt2 k xs = some (true, v)) : ∃ H, apartS EN T H 1000009 5 f xs = some v := by
  obtain ⟨x, y, a, b, rfl, h1, h2, h3⟩ := two_some h
  cases h3
  rw [asPt_ok h1, asPt_ok h2]
  exact ⟨H0, ht a b⟩
theorem runKy {f : Nat} {T : Table} {k : Ky → Ky → Int} (ht : ∀ a b : Ky, apartS EN T H0 1000009 5 f [.agg a.cs, .agg b.cs] = some (vi (k a b))) (xs : List PV) (v : PV) (h : gKy2 k xs = some (true, v)) : ∃ H, apartS EN T H 1000009 5 f xs = some v := by
  obtain ⟨x, y, a, b, rfl, h1, h2, h3⟩ := two_some h
  cases h3
  rw [asKy_ok h1, asKy_ok h2]
  exact ⟨H0, ht a b⟩
theorem runFr {f : Nat} {T : Table} {k : Fr → Fr → Int} (ht : ∀ a b : Fr, apartS EN T H0 1000009 5 f [.agg a.cs, .agg b.cs] = some (vi (k a b))) (xs : List PV) (v : PV) (h : gRow2 KFr (fun x y => k (frAt x) (frAt y)) xs = some (true, v)) : ∃ H, apartS EN T H 1000009 5 f xs = some v := by
  obtain ⟨x, y, rfl, h1, h2, rfl⟩ := row2_some h
  have := ht (frAt x) (frAt y)
  rw [← fr_of h1, ← fr_of h2] at this
  exact ⟨H0, this⟩
theorem runGi {f : Nat} {T : Table} {k : Gi → Gi → Int} (ht : ∀ a b : Gi, apartS EN T H0 1000009 5 f [.agg a.cs, .agg b.cs] = some (vi (k a b))) (xs : List PV) (v : PV) (h : gRow2 KGi (fun x y => k (giAt x) (giAt y)) xs = some (true, v)) : ∃ H, apartS EN T H 1000009 5 f xs = some v := by
  obtain ⟨x, y, rfl, h1, h2, rfl⟩ := row2_some h
  have := ht (giAt x) (giAt y)
  rw [← gi_of h1, ← gi_of h2] at this
  exact ⟨H0, this⟩

theorem runNaN (xs : List PV) (v : PV) (h : gNaN xs = some (true, v)) : ∃ H, apartS EN T0 H 1000009 5 76 xs = some v := by
  unfold gNaN at h
  split at h
  · rename_i a
    simp only [Option.some.injEq, Prod.mk.injEq, true_and] at h
    subst h
    exact ⟨H0, (tNaN 1000009 a).trans (by simp)⟩
  · cases h
theorem runNaNs (xs : List PV) (v : PV) (h : gNaNs xs = some (true, v)) : ∃ H, apartS EN TP2 H 1000009 5 85 xs = some v := by
  unfold gNaNs at h
  split at h
  · rename_i a
    simp only [Option.some.injEq, Prod.mk.injEq, true_and] at h
    subst h
    exact ⟨H0, (tNaNs 1000009 a).trans (by simp)⟩
  · cases h
theorem runCmp {f : Nat} {T : Table} (ht : ∀ a b : Int, apartS EN T H0 1000009 5 f [.int .i64 a, .int .i64 b] = (bif decide (a < b) then some (vi (-1)) else bif decide (a > b) then some (vi 1) else some (vi 0))) (xs : List PV) (v : PV) (h : gCmp xs = some (true, v)) : ∃ H, apartS EN T H 1000009 5 f xs = some v := by
  unfold gCmp at h
  split at h
  · rename_i a b
    simp only [Option.some.injEq, Prod.mk.injEq, true_and] at h
    subst h
    exact ⟨H0, (ht a b).trans (cmpI_some a b)⟩
  · cases h
theorem runCmpS {f : Nat} {T : Table} (ht : ∀ s t : List UInt8, apartS EN T H0 1000009 5 f [.str s, .str t] = (bif Op.bytesLess s t then some (vi (-1)) else bif !(Op.bytesLess s t || s == t) then some (vi 1) else some (vi 0))) (xs : List PV) (v : PV) (h : gCmpS xs = some (true, v)) : ∃ H, apartS EN T H 1000009 5 f xs = some v := by
  unfold gCmpS at h
  split at h
  · rename_i a b
    simp only [Option.some.injEq, Prod.mk.injEq, true_and] at h
    subst h
    exact ⟨H0, (ht a b).trans (cmpS_some a b)⟩
  · cases h
theorem runNum {f : Nat} {T : Table} (ht : ∀ a : Bool, apartS EN T H0 1000009 5 f [.bool a] = (bif a then some (vi 1) else some (vi 0))) (xs : List PV) (v : PV) (h : gNum xs = some (true, v)) : ∃ H, apartS EN T H 1000009 5 f xs = some v := by
  unfold gNum at h
  split at h
  · rename_i a
    simp only [Option.some.injEq, Prod.mk.injEq, true_and] at h
    subst h
    exact ⟨H0, (ht a).trans (num_some a)⟩
  · cases h
theorem runTru (xs : List PV) (v : PV) (h : gTru xs = some (true, v)) : ∃ H, apartS EN TP6 H 1000009 5 64 xs = some v := by
  unfold gTru at h
  split at h
  · rename_i a b
    simp only [Option.some.injEq, Prod.mk.injEq, true_and] at h
    subst h
    exact ⟨H0, tTru 1000009 a b⟩
  · cases h

theorem adC_some (a b : Ad) : (bif a.six == b.six then some (vi (cmpBytes (bytes16 a.b) (bytes16 b.b))) else bif a.six then some (vi 1) else some (vi (-1))) = some (vi (adC a b)) := by
  unfold adC
  cases a.six <;> cases b.six <;> rfl
theorem adR_some (a b : Ad) : (bif !(a.six == b.six) then (bif a.six then some (vi 1) else some (vi (-1))) else loopT a.b b.b [0, 1, 2, 3, 4, 5, 6, 7, 8, 9, 10, 11, 12, 13, 14, 15]) = some (vi (adR a b)) := by
  unfold adR
  rw [loopT_some]
  cases a.six <;> cases b.six <;> rfl
theorem ptR_some (a b : Pt) : (bif adR a.ad b.ad != 0 then some (vi (adR a.ad b.ad)) else bif decide (a.port < b.port) then some (vi (-1)) else bif decide (a.port > b.port) then some (vi 1) else some (vi 0)) = some (vi (ptR a b)) := by
  unfold ptR cmpI
  cases adR a.ad b.ad != 0 <;> cases decide (a.port < b.port) <;> cases decide (a.port > b.port) <;> rfl
theorem kyT_some (a b : Ky) : kyT a.space a.name b.space b.name = some (vi (kyR a b)) := by
  unfold kyT kyR
  cases Op.bytesLess a.space b.space <;> cases a.space == b.space <;> cases Op.bytesLess a.name b.name <;> cases a.name == b.name <;> rfl

theorem TP1ok : TR TP1 := TR0.add TR0 runNaN
theorem TP2ok : TR TP2 := TP1ok.add TP1ok (runCmp (tCmp 1000009))
theorem TP3ok : TR TP3 := TP2ok.add TP2ok runNaNs
theorem TP4ok : TR TP4 := TP3ok.add TP3ok (runCmpS (tCmpS 1000009))
theorem TP5ok : TR TP5 := TP4ok.add TP4ok (runOr (tOr2 1000000) (tOr4 1000000) (tOr5 1000000))
theorem TP6ok : TR TP6 := TP5ok.add TP5ok (runNum (tNum 1000009))
theorem TP7ok : TR TP7 := TP6ok.add TP6ok runTru
theorem TP8ok : TR TP8 := TP7ok.add TP7ok (runAd fun a b => (tAdC 1000009 a b).trans (adC_some a b))
theorem TP9ok : TR TP9 := TP8ok.add TP8ok (runPt (tPtC 1000009))
theorem TPAok : TR TPA := TP9ok.add TP9ok (runKy (tKyC 1000009))
theorem TPBok : TR TPB := TPAok.add TPAok (runFr (tAtC 1000009))
theorem TPCok : TR TPC := TPBok.add TPBok (runGi (tGiC 1000009))

theorem TR1ok : TR TR1 := TR0.add TR0 (runCmp (rLess 1000009))
theorem TR2ok : TR TR2 := TR1ok.add TR1ok (runCmpS (rText 1000009))
theorem TR3ok : TR TR3 := TR2ok.add TR2ok (runOr (rOr2 1000000) (rOr4 1000000) (rOr5 1000000))
theorem TR4ok : TR TR4 := TR3ok.add TR3ok (runNum (rNum 1000009))
theorem TR5ok : TR TR5 := TR4ok.add TR4ok (runAd fun a b => (rAd 999959 a b).trans (adR_some a b))
theorem TR6ok : TR TR6 := TR5ok.add TR5ok (runPt fun a b => (rPt 1000009 a b).trans (ptR_some a b))
theorem TR7ok : TR TR7 := TR6ok.add TR6ok (runKy fun a b => (rKyT 1000009 a b).trans (kyT_some a b))
theorem TR8ok : TR TR8 := TR7ok.add TR7ok (runFr (rAt 1000009))
theorem TR9ok : TR TR9 := TR8ok.add TR8ok (runFr (rFrT 1000009))
theorem TRAok : TR TRA := TR9ok.add TR9ok (runGi (rGiT 1000009))

/-! ### the sorts -/

theorem leafRow {K : List Kd} {c : List PV → List PV → Int} {xs : List PV} {t : Tr} {v : PV} (hg : (match xs with
  | [.agg x, .agg y] => some (Tr.leaf (wk K x && wk K y) (.int .i64 (c x y)))
  | _ => none) = some t) (hv : t.val = some v) : ∃ x y, xs = [.agg x, .agg y] ∧ wk K x = true ∧ wk K y = true ∧ v = vi (c x y) := by
  split at hg
  · rename_i x y
    cases hg
    obtain ⟨hc, rfl⟩ := leaf_val hv
    simp only [Bool.and_eq_true] at hc
    exact ⟨x, y, rfl, hc.1, hc.2, rfl⟩
  · cases hg

theorem TCFr : TR (SF.TCF cFr) := TR0.addT TPCok (fun xs t v hg hv => by
  obtain ⟨x, y, rfl, h1, h2, rfl⟩ := leafRow hg hv
  have := tFrC 1000009 (frAt x) (frAt y)
  rw [← fr_of h1, ← fr_of h2] at this
  exact ⟨H0, this⟩)
theorem TCGr : TR (SG.TCF cGi) := TR0.addT TPCok (fun xs t v hg hv => by
  obtain ⟨x, y, rfl, h1, h2, rfl⟩ := leafRow hg hv
  have := tGrC 1000009 (giAt x) (giAt y) (asI (x.getD 5 .nilp)) (asI (y.getD 5 .nilp)) (slCells (x.getD 6 .nilp)) (slCells (x.getD 7 .nilp)) (slCells (y.getD 6 .nilp)) (slCells (y.getD 7 .nilp)) (slLen (x.getD 6 .nilp)) (slLen (x.getD 7 .nilp)) (slLen (y.getD 6 .nilp)) (slLen (y.getD 7 .nilp))
  rw [← gr_of h1, ← gr_of h2] at this
  exact ⟨H0, this⟩)
theorem TCFi : TR (SI.TCF cKy) := TR0.addT TPCok (fun xs t v hg hv => by
  obtain ⟨x, y, rfl, h1, h2, rfl⟩ := leafRow hg hv
  have := tFiC 1000009 (kyAt x 0) (kyAt y 0) (slCells (x.getD 2 .nilp)) (slCells (y.getD 2 .nilp)) (slLen (x.getD 2 .nilp)) (slLen (y.getD 2 .nilp))
  rw [← fi_of h1, ← fi_of h2] at this
  exact ⟨H0, this⟩)

theorem okStF : TR (SF.TSt2F cFr) := SF.okSt2 oFr TCFr
theorem okStG : TR (SG.TSt2F cGi) := SG.okSt2 oGi TCGr
theorem okStI : TR (SI.TSt2F cKy) := SI.okSt2 oKy TCFi

end Go.Proofs.Ytbhgibpdhmlamaa.Am
end

/- Rows of two: which are the same; loops over two rows at once. -/
section
set_option linter.unusedVariables false
set_option linter.unusedSimpArgs false
set_option maxRecDepth 100000
set_option maxHeartbeats 4000000
namespace Go.Proofs.Ytbhgibpdhmlamaa.Am
open St

/-! ### which are the same, by their parts -/

inductive Et where
  | c (k : Kd)
  | st (l : List Et)

def Kd.eqc (k : Kd) (x y : PV) : Bool := match k with
  | .int _ => asI x == asI y
  | .bool => asB x == asB y
  | .str => asS x == asS y
  | _ => true

mutual
def Et.n : Et → Nat
  | .c _ => 1
  | .st l => Et.nL l
def Et.nL : List Et → Nat
  | [] => 0
  | e :: l => e.n + Et.nL l
end
mutual
def Et.eq (x y : List PV) : Et → Nat → Bool
  | .c k, i => k.eqc (x.getD i .nilp) (y.getD i .nilp)
  | .st l, i => Et.eqL x y l i
def Et.eqL (x y : List PV) : List Et → Nat → Bool
  | [], _ => true
  | e :: l, i => Et.eq x y e i && Et.eqL x y l (i + e.n)
end

theorem Kd.eqc_refl (k : Kd) (x : PV) : k.eqc x x = true := by cases k <;> simp [Kd.eqc]
mutual
theorem Et.eq_refl (x : List PV) : ∀ (e : Et) (i : Nat), Et.eq x x e i = true
  | .c k, i => by simp only [Et.eq, Kd.eqc_refl]
  | .st l, i => by simp only [Et.eq]; exact Et.eqL_refl x l i
theorem Et.eqL_refl (x : List PV) : ∀ (l : List Et) (i : Nat), Et.eqL x x l i = true
  | [], i => rfl
  | e :: l, i => by simp only [Et.eqL, Et.eq_refl x e i, Et.eqL_refl x l, Bool.and_self]
end

def etAd : Et := .st [.c .bool, .st [.c (.int .u8), .c (.int .u8), .c (.int .u8), .c (.int .u8), .c (.int .u8), .c (.int .u8), .c (.int .u8), .c (.int .u8), .c (.int .u8), .c (.int .u8), .c (.int .u8), .c (.int .u8), .c (.int .u8), .c (.int .u8), .c (.int .u8), .c (.int .u8)]]
def etPt : Et := .st [etAd, .c (.int .i64)]
def etKy : Et := .st [.c .str, .c .str]
def etFr : Et := .st [.c (.int .i64), etPt, etKy, .c .str, .c (.int .i64), .c .bool, .c .bool, .c (.int .i64)]
def etGi : Et := .st [etKy, .c .str, .c .bool, .c .bool]
def KPt : List Kd := [.bool, .int .u8, .int .u8, .int .u8, .int .u8, .int .u8, .int .u8, .int .u8, .int .u8, .int .u8, .int .u8, .int .u8, .int .u8, .int .u8, .int .u8, .int .u8, .int .u8, .int .i64]
def KIn : List Kd := [.int .i64]
def eqPt (x y : List PV) : Bool := Et.eq x y etPt 0
def eqFr (x y : List PV) : Bool := Et.eq x y etFr 0
def eqGi (x y : List PV) : Bool := Et.eq x y etGi 0
def eqKy (x y : List PV) : Bool := Et.eq x y etKy 0
def eqIn (x y : List PV) : Bool := asI (x.getD 0 .nilp) == asI (y.getD 0 .nilp)

/-- Rows, one by one. -/
def eqRows (eq : List PV → List PV → Bool) : List (List PV) → List (List PV) → Bool
  | x :: R, y :: S => eq x y && eqRows eq R S
  | _, _ => true

theorem eqRows_refl {eq : List PV → List PV → Bool} : ∀ (R : List (List PV)), (∀ r ∈ R, eq r r = true) → eqRows eq R R = true
  | [], _ => rfl
  | r :: R, h => by rw [eqRows, h r List.mem_cons_self, eqRows_refl R fun x hx => h x (List.mem_cons_of_mem _ hx)]; rfl

theorem eqRows_drop {eq : List PV → List PV → Bool} {R S : List (List PV)} {i : Nat} (h1 : i < R.length) (h2 : i < S.length) : eqRows eq (R.drop i) (S.drop i) = (eq R[i] S[i] && eqRows eq (R.drop (i + 1)) (S.drop (i + 1))) := by
  rw [List.drop_eq_getElem_cons h1, List.drop_eq_getElem_cons h2, eqRows]

theorem rows_at0 {K : List Kd} {R : List (List PV)} (h : rowsOk K R = true) {j : Nat} (hj : j < R.length) : okAt K R.flatten (j * K.length) = true ∧ shapeAt K R.flatten (j * K.length) = R[j] := by
  have := rows_at h hj
  rwa [Nat.zero_add] at this

/-! ### a loop over two rows -/

def rndE (K : List Kd) (es : Nat) (eq : List PV → List PV → Bool) (n m : Nat) (c d : List PV) (i : Int) (L : Int → Option PV) : Option PV :=
  bif decide (i < (n : Int)) then
    (ass (decide (0 ≤ i) && decide (i < (n : Int))) <|
    ass (okAt K c (i.toNat * es)) <|
    ass (decide (0 ≤ i) && decide (i < (m : Int))) <|
    ass (okAt K d (i.toNat * es)) <|
    bif !(eq (shapeAt K c (i.toNat * es)) (shapeAt K d (i.toNat * es))) then some (.bool false)
    else
      (ass (oldL 0 c) <|
      ass (oldL 0 d) <|
      ass (oldL 0 c) <|
      ass (oldL 0 d) <|
      ass (oldL 0 c) <|
      L (IntKind.i64.wrap (i + 1))))
  else some (.bool true)

theorem eqE_loop {K : List Kd} {eq : List PV → List PV → Bool} {n : Nat} {R S : List (List PV)} (hR : rowsOk K R = true) (hS : rowsOk K S = true) (h1 : R.length = n) (h2 : S.length = n) (hn : n ≤ 1000000) (L : Nat → Int → Option PV) (ht : ∀ q i, L (q + 1) i = rndE K K.length eq n n R.flatten S.flatten i (L q)) :
    ∀ (k i q : Nat), i + k = n → L (q + k + 1) (i : Int) = some (.bool (eqRows eq (R.drop i) (S.drop i)))
  | 0, i, q, h => by
    rw [ht]
    unfold rndE
    rw [cond_f (show decide ((i : Int) < (n : Int)) = false from by simp; omega), List.drop_of_length_le (by omega), List.drop_of_length_le (by omega)]
    rfl
  | k + 1, i, q, h => by
    have hi : i < R.length := by omega
    have hj : i < S.length := by omega
    rw [show q + (k + 1) + 1 = (q + k + 1) + 1 from by omega, ht]
    unfold rndE
    rw [cond_t (show decide ((i : Int) < (n : Int)) = true from by simp; omega)]
    simp only [Int.toNat_natCast]
    rw [(rows_at0 hR hi).2, (rows_at0 hS hj).2, ass_of (inside (by omega)), ass_of (rows_at0 hR hi).1, ass_of (inside (by omega)), ass_of (rows_at0 hS hj).1, eqRows_drop hi hj]
    cases he : eq R[i] S[i] with
    | false => rfl
    | true =>
      rw [Bool.not_true, cond_false, ass_of (rows_old hR), ass_of (rows_old hS), ass_of (rows_old hR), ass_of (rows_old hS), ass_of (rows_old hR), wrap_succ (by omega : i < 9223372036854775807), eqE_loop hR hS h1 h2 hn L ht k (i + 1) q (by omega)]
      rfl

/-- Two rows among the arguments. -/
def gEq (K : List Kd) (es : Nat) (eq : List PV → List PV → Bool) (xs : List PV) : Option (Bool × PV) := match xs with
  | [.sl c e1 n none, .sl d e2 m none] => some (Nat.beq e1 es && (Nat.beq e2 es && (rowsC K n c && rowsC K m d)), .bool (Nat.beq n m && eqRows eq (chunks es n c) (chunks es m d)))
  | _ => none

noncomputable def LEq (f : Nat) (fn : Func) (es N q : Nat) (c d : List PV) (n m : Nat) (i : Int) : Option PV := loopS EN T0 H0 N 5 f fn [1, 1, 0, 1, 0] (patOf (sparse 26 0 [(0, .nils), (1, .nils), (4, .nils), (6, .nils), (7, .nils), (8, .nils), (9, .nils), (10, .nils), (11, .nils), (12, .nils), (13, .nils)])) 0 q
  (sparse 26 0 [(0, .sl c es n none), (1, .sl d es m none), (4, .bool false), (6, .sl c es n none), (7, vI n), (8, .sl d es m none), (9, vI m), (10, .bool false), (11, .sl c es n none), (12, vI n), (13, vI i)]) []

theorem runEq {K : List Kd} {es : Nat} (hk : es = K.length) {eq : List PV → List PV → Bool} {f : Nat} {fn : Func}
    (t0 : ∀ (N : Nat) (c d : List PV) (n m : Nat), apartS EN T0 H0 N 5 f [.sl c es n none, .sl d es m none] = (bif (n : Int) != (m : Int) then some (.bool false) else LEq f fn es N N c d n m 0))
    (t1 : ∀ (N q : Nat) (c d : List PV) (n m : Nat) (i : Int), LEq f fn es N (q + 1) c d n m i = rndE K es eq n m c d i (LEq f fn es N q c d n m))
    (xs : List PV) (v : PV) (h : gEq K es eq xs = some (true, v)) : ∃ H, apartS EN T0 H 1000009 5 f xs = some v := by
  unfold gEq at h
  split at h
  · rename_i c e1 n d e2 m
    simp only [Option.some.injEq, Prod.mk.injEq, Bool.and_eq_true] at h
    obtain ⟨⟨a1, a2, a3, a4⟩, rfl⟩ := h
    have a1 := Nat.eq_of_beq_eq_true a1
    have a2 := Nat.eq_of_beq_eq_true a2
    rw [a1, a2]
    obtain ⟨r1, r2, r3, r4⟩ := rowsC_ok a3
    obtain ⟨s1, s2, s3, s4⟩ := rowsC_ok a4
    refine ⟨H0, (t0 1000009 c d n m).trans ?_⟩
    by_cases hnm : n = m
    · subst hnm
      rw [cond_f (show ((n : Int) != (n : Int)) = false from by simp), Nat.beq_refl, Bool.true_and]
      have := eqE_loop r2 s2 r4 s4 r1 (fun q => LEq f fn es 1000009 q c d n n) (fun q i => by rw [t1, hk, r3, s3]) n 0 (1000008 - n) (by omega)
      rw [show 1000008 - n + n + 1 = 1000009 from by omega, List.drop_zero, List.drop_zero, ← hk] at this
      exact this
    · have hb : Nat.beq n m = false := by
        cases hb : Nat.beq n m with
        | false => rfl
        | true => exact absurd (Nat.eq_of_beq_eq_true hb) hnm
      rw [cond_t (show ((n : Int) != (m : Int)) = true from by simp; omega), hb]
      rfl
  · cases h

theorem e0Ci (N : Nat) (c d : List PV) (n m : Nat) : apartS EN T0 H0 N 5 21 [.sl c 18 n none, .sl d 18 m none] = (bif (n : Int) != (m : Int) then some (.bool false) else LEq 21 Try.f21 18 N N c d n m 0) := by kernel_rfl
theorem e1Ci (N q : Nat) (c d : List PV) (n m : Nat) (i : Int) : LEq 21 Try.f21 18 N (q + 1) c d n m i = rndE KPt 18 eqPt n m c d i (LEq 21 Try.f21 18 N q c d n m) := by kernel_rfl
theorem TECi : TR (Tadd T0 21 (gEq KPt 18 eqPt)) := TR0.add TR0 (runEq rfl e0Ci e1Ci)

theorem e0SCi (N : Nat) (c d : List PV) (n m : Nat) : apartS EN T0 H0 N 5 22 [.sl c 18 n none, .sl d 18 m none] = (bif (n : Int) != (m : Int) then some (.bool false) else LEq 22 Try.f22 18 N N c d n m 0) := by kernel_rfl
theorem e1SCi (N q : Nat) (c d : List PV) (n m : Nat) (i : Int) : LEq 22 Try.f22 18 N (q + 1) c d n m i = rndE KPt 18 eqPt n m c d i (LEq 22 Try.f22 18 N q c d n m) := by kernel_rfl
theorem e0SPt (N : Nat) (c d : List PV) (n m : Nat) : apartS EN T0 H0 N 5 24 [.sl c 18 n none, .sl d 18 m none] = (bif (n : Int) != (m : Int) then some (.bool false) else LEq 24 Try.f24 18 N N c d n m 0) := by kernel_rfl
theorem e1SPt (N q : Nat) (c d : List PV) (n m : Nat) (i : Int) : LEq 24 Try.f24 18 N (q + 1) c d n m i = rndE KPt 18 eqPt n m c d i (LEq 24 Try.f24 18 N q c d n m) := by kernel_rfl
theorem e0SIn (N : Nat) (c d : List PV) (n m : Nat) : apartS EN T0 H0 N 5 25 [.sl c 1 n none, .sl d 1 m none] = (bif (n : Int) != (m : Int) then some (.bool false) else LEq 25 Try.f25 1 N N c d n m 0) := by kernel_rfl
theorem e1SIn (N q : Nat) (c d : List PV) (n m : Nat) (i : Int) : LEq 25 Try.f25 1 N (q + 1) c d n m i = rndE KIn 1 eqIn n m c d i (LEq 25 Try.f25 1 N q c d n m) := by kernel_rfl
theorem e0Fr (N : Nat) (c d : List PV) (n m : Nat) : apartS EN T0 H0 N 5 29 [.sl c 26 n none, .sl d 26 m none] = (bif (n : Int) != (m : Int) then some (.bool false) else LEq 29 Try.f29 26 N N c d n m 0) := by kernel_rfl
theorem e1Fr (N q : Nat) (c d : List PV) (n m : Nat) (i : Int) : LEq 29 Try.f29 26 N (q + 1) c d n m i = rndE KFr 26 eqFr n m c d i (LEq 29 Try.f29 26 N q c d n m) := by kernel_rfl
theorem e0Pt (N : Nat) (c d : List PV) (n m : Nat) : apartS EN T0 H0 N 5 45 [.sl c 18 n none, .sl d 18 m none] = (bif (n : Int) != (m : Int) then some (.bool false) else LEq 45 Try.f45 18 N N c d n m 0) := by kernel_rfl
theorem e1Pt (N q : Nat) (c d : List PV) (n m : Nat) (i : Int) : LEq 45 Try.f45 18 N (q + 1) c d n m i = rndE KPt 18 eqPt n m c d i (LEq 45 Try.f45 18 N q c d n m) := by kernel_rfl
theorem e0In (N : Nat) (c d : List PV) (n m : Nat) : apartS EN T0 H0 N 5 46 [.sl c 1 n none, .sl d 1 m none] = (bif (n : Int) != (m : Int) then some (.bool false) else LEq 46 Try.f46 1 N N c d n m 0) := by kernel_rfl
theorem e1In (N q : Nat) (c d : List PV) (n m : Nat) (i : Int) : LEq 46 Try.f46 1 N (q + 1) c d n m i = rndE KIn 1 eqIn n m c d i (LEq 46 Try.f46 1 N q c d n m) := by kernel_rfl
end Go.Proofs.Ytbhgibpdhmlamaa.Am
end

/- Groups and filters: which are the same. -/
section
set_option linter.unusedVariables false
set_option linter.unusedSimpArgs false
set_option maxRecDepth 100000
set_option maxHeartbeats 4000000
namespace Go.Proofs.Ytbhgibpdhmlamaa.Am
open St

def okSl (K : List Kd) (x : PV) : Bool := rowsC K (slLen x) (slCells x)
def sameSl (es : Nat) (eq : List PV → List PV → Bool) (x y : PV) : Bool := Nat.beq (slLen x) (slLen y) && eqRows eq (chunks es (slLen x) (slCells x)) (chunks es (slLen y) (slCells y))
def KTb : List Kd := [.int .i64, .sl 18, .sl 1]
def okTb (x : List PV) (k : Nat) : Bool := okSl KPt (x.getD (k + 1) .nilp) && okSl KIn (x.getD (k + 2) .nilp)
def sameTb (x y : List PV) (k : Nat) : Bool := (asI (x.getD k .nilp) == asI (y.getD k .nilp)) && (sameSl 18 eqPt (x.getD (k + 1) .nilp) (y.getD (k + 1) .nilp) && sameSl 1 eqIn (x.getD (k + 2) .nilp) (y.getD (k + 2) .nilp))
def grOk (x : List PV) : Bool := wk KGr x && okTb x 5
def fiOk (x : List PV) : Bool := wk KFi x && okSl KPt (x.getD 2 .nilp)
def sameGr (x y : List PV) : Bool := eqGi x y && sameTb x y 5
def sameFi (x y : List PV) : Bool := eqKy x y && sameSl 18 eqPt (x.getD 2 .nilp) (y.getD 2 .nilp)

theorem okSl_rows {K : List Kd} {x : PV} (h : okSl K x = true) : rowsOk K (chunks K.length (slLen x) (slCells x)) = true ∧ (chunks K.length (slLen x) (slCells x)).flatten = slCells x ∧ (chunks K.length (slLen x) (slCells x)).length = slLen x := by
  obtain ⟨r1, r2, r3, r4⟩ := rowsC_ok h
  exact ⟨r2, r3, r4⟩
theorem okSl_old {K : List Kd} {x : PV} (h : okSl K x = true) : oldL 0 (slCells x) = true := by
  obtain ⟨r1, r2, r3⟩ := okSl_rows h
  have := rows_old r1
  rwa [r2] at this

theorem sameSl_refl {es : Nat} {eq : List PV → List PV → Bool} (h : ∀ r, eq r r = true) (x : PV) : sameSl es eq x x = true := by
  unfold sameSl
  rw [Nat.beq_refl, eqRows_refl _ fun r _ => h r]
  rfl
theorem eqPt_refl (x : List PV) : eqPt x x = true := Et.eq_refl x _ _
theorem eqFr_refl (x : List PV) : eqFr x x = true := Et.eq_refl x _ _
theorem eqGi_refl (x : List PV) : eqGi x x = true := Et.eq_refl x _ _
theorem eqKy_refl (x : List PV) : eqKy x x = true := Et.eq_refl x _ _
theorem eqIn_refl (x : List PV) : eqIn x x = true := by simp [eqIn]
theorem sameTb_refl (x : List PV) (k : Nat) : sameTb x x k = true := by
  unfold sameTb
  rw [sameSl_refl eqPt_refl, sameSl_refl eqIn_refl]
  simp
theorem sameGr_refl (x : List PV) : sameGr x x = true := by unfold sameGr; rw [eqGi_refl, sameTb_refl]; rfl
theorem sameFi_refl (x : List PV) : sameFi x x = true := by unfold sameFi; rw [eqKy_refl, sameSl_refl eqPt_refl]; rfl

def gAgg2 (ok : List PV → Bool) (f : List PV → List PV → Bool) (xs : List PV) : Option (Bool × PV) := match xs with
  | [.agg x, .agg y] => some (ok x && ok y, .bool (f x y))
  | _ => none

theorem agg2_some {ok : List PV → Bool} {f : List PV → List PV → Bool} {xs : List PV} {v : PV} (h : gAgg2 ok f xs = some (true, v)) : ∃ x y, xs = [.agg x, .agg y] ∧ ok x = true ∧ ok y = true ∧ v = .bool (f x y) := by
  unfold gAgg2 at h
  split at h
  · rename_i x y
    simp only [Option.some.injEq, Prod.mk.injEq, Bool.and_eq_true] at h
    exact ⟨x, y, rfl, h.1.1, h.1.2, h.2.symm⟩
  · cases h

noncomputable def TQ : Table := Tadd (Tadd (Tadd (Tadd (Tadd (Tadd (Tadd T0 21 (gEq KPt 18 eqPt)) 22 (gEq KPt 18 eqPt)) 24 (gEq KPt 18 eqPt)) 25 (gEq KIn 1 eqIn)) 29 (gEq KFr 26 eqFr)) 45 (gEq KPt 18 eqPt)) 46 (gEq KIn 1 eqIn)
theorem TQok : TR TQ := ((((((TECi).add TR0 (runEq rfl e0SCi e1SCi)).add TR0 (runEq rfl e0SPt e1SPt)).add TR0 (runEq rfl e0SIn e1SIn)).add TR0 (runEq rfl e0Fr e1Fr)).add TR0 (runEq rfl e0Pt e1Pt)).add TR0 (runEq rfl e0In e1In)

def slAsk (es : Nat) (K : List Kd) (n m : Nat) (c d : List PV) : Bool := Nat.beq es es && (Nat.beq es es && (rowsC K n c && rowsC K m d))
def slEq (es : Nat) (eq : List PV → List PV → Bool) (n m : Nat) (c d : List PV) : Bool := Nat.beq n m && eqRows eq (chunks es n c) (chunks es m d)
/-- The tree of two tables. -/
def tbT (s t : Int) (c1 c2 d1 d2 : List PV) (n1 n2 m1 m2 : Nat) : Option PV :=
  bif s == t then
    (ass (oldL 0 c1) <| ass (oldL 0 d1) <| ass (slAsk 18 KPt n1 m1 c1 d1) <|
    bif slEq 18 eqPt n1 m1 c1 d1 then
      (ass (oldL 0 c2) <| ass (oldL 0 d2) <| ass (slAsk 1 KIn n2 m2 c2 d2) <| some (.bool (slEq 1 eqIn n2 m2 c2 d2)))
    else some (.bool false))
  else some (.bool false)

theorem tTb (N : Nat) (s t : Int) (c1 c2 d1 d2 : List PV) (n1 n2 m1 m2 : Nat) : apartS EN TQ H0 N 5 23 [.agg [vi s, .sl c1 18 n1 none, .sl c2 1 n2 none], .agg [vi t, .sl d1 18 m1 none, .sl d2 1 m2 none]] = tbT s t c1 c2 d1 d2 n1 n2 m1 m2 := by kernel_rfl
theorem rSg (N : Nat) (a b : Gi) (s t : Int) (c1 c2 d1 d2 : List PV) (n1 n2 m1 m2 : Nat) : apartS EN TQ H0 N 5 11 [.agg (a.cs ++ [vi s, .sl c1 18 n1 none, .sl c2 1 n2 none]), .agg (b.cs ++ [vi t, .sl d1 18 m1 none, .sl d2 1 m2 none])] =
  (bif eqGi a.cs b.cs then tbT s t c1 c2 d1 d2 n1 n2 m1 m2 else some (.bool false)) := by kernel_rfl
def fiT (a b : Ky) (c1 d1 : List PV) (n1 m1 : Nat) : Option PV :=
  bif eqKy a.cs b.cs then (ass (oldL 0 c1) <| ass (oldL 0 d1) <| ass (slAsk 18 KPt n1 m1 c1 d1) <| some (.bool (slEq 18 eqPt n1 m1 c1 d1))) else some (.bool false)
theorem rSf (N : Nat) (a b : Ky) (c1 d1 : List PV) (n1 m1 : Nat) : apartS EN TQ H0 N 5 9 [.agg (a.cs ++ [.sl c1 18 n1 none]), .agg (b.cs ++ [.sl d1 18 m1 none])] = fiT a b c1 d1 n1 m1 := by kernel_rfl
theorem tSf (N : Nat) (a b : Ky) (c1 d1 : List PV) (n1 m1 : Nat) : apartS EN TQ H0 N 5 8 [.agg (a.cs ++ [.sl c1 18 n1 none]), .agg (b.cs ++ [.sl d1 18 m1 none])] = fiT a b c1 d1 n1 m1 := by kernel_rfl

def gTb : List PV → Option (Bool × PV) := gAgg2 (fun x => wk KTb x && okTb x 0) (fun x y => sameTb x y 0)
def gSg : List PV → Option (Bool × PV) := gAgg2 grOk sameGr
def gSf : List PV → Option (Bool × PV) := gAgg2 fiOk sameFi

theorem tb_some {x1 x2 y1 y2 : PV} {s t : Int} (h1 : okSl KPt x1 = true) (h2 : okSl KIn x2 = true) (h3 : okSl KPt y1 = true) (h4 : okSl KIn y2 = true) : tbT s t (slCells x1) (slCells x2) (slCells y1) (slCells y2) (slLen x1) (slLen x2) (slLen y1) (slLen y2) = some (.bool ((s == t) && (sameSl 18 eqPt x1 y1 && sameSl 1 eqIn x2 y2))) := by
  unfold tbT
  have a1 : slAsk 18 KPt (slLen x1) (slLen y1) (slCells x1) (slCells y1) = true := by
    unfold slAsk; unfold okSl at h1 h3; rw [h1, h3]; rfl
  have a2 : slAsk 1 KIn (slLen x2) (slLen y2) (slCells x2) (slCells y2) = true := by
    unfold slAsk; unfold okSl at h2 h4; rw [h2, h4]; rfl
  rw [ass_of (okSl_old h1), ass_of (okSl_old h3), ass_of a1, ass_of (okSl_old h2), ass_of (okSl_old h4), ass_of a2]
  rw [show slEq 18 eqPt (slLen x1) (slLen y1) (slCells x1) (slCells y1) = sameSl 18 eqPt x1 y1 from rfl, show slEq 1 eqIn (slLen x2) (slLen y2) (slCells x2) (slCells y2) = sameSl 1 eqIn x2 y2 from rfl]
  cases s == t <;> cases sameSl 18 eqPt x1 y1 <;> rfl

theorem fi_some {a b : Ky} {x1 y1 : PV} (h1 : okSl KPt x1 = true) (h3 : okSl KPt y1 = true) : fiT a b (slCells x1) (slCells y1) (slLen x1) (slLen y1) = some (.bool (eqKy a.cs b.cs && sameSl 18 eqPt x1 y1)) := by
  unfold fiT
  have a1 : slAsk 18 KPt (slLen x1) (slLen y1) (slCells x1) (slCells y1) = true := by
    unfold slAsk; unfold okSl at h1 h3; rw [h1, h3]; rfl
  rw [ass_of (okSl_old h1), ass_of (okSl_old h3), ass_of a1, show slEq 18 eqPt (slLen x1) (slLen y1) (slCells x1) (slCells y1) = sameSl 18 eqPt x1 y1 from rfl]
  cases eqKy a.cs b.cs <;> rfl

theorem tb_of {x : List PV} (h : wk KTb x = true) : x = [vi (asI (x.getD 0 .nilp)), .sl (slCells (x.getD 1 .nilp)) 18 (slLen (x.getD 1 .nilp)) none, .sl (slCells (x.getD 2 .nilp)) 1 (slLen (x.getD 2 .nilp)) none] := (shape_of h).symm

theorem runTb (xs : List PV) (v : PV) (h : gTb xs = some (true, v)) : ∃ H, apartS EN TQ H 1000009 5 23 xs = some v := by
  obtain ⟨x, y, rfl, hx, hy, rfl⟩ := agg2_some h
  unfold okTb at hx hy
  simp only [Bool.and_eq_true] at hx hy
  refine ⟨H0, ?_⟩
  have := (tTb 1000009 (asI (x.getD 0 .nilp)) (asI (y.getD 0 .nilp)) _ _ _ _ _ _ _ _).trans (tb_some hx.2.1 hx.2.2 hy.2.1 hy.2.2)
  rw [← tb_of hx.1, ← tb_of hy.1] at this
  exact this

theorem gi_eq {x y : List PV} (hx : wk KGr x = true) (hy : wk KGr y = true) : eqGi (giAt x).cs (giAt y).cs = eqGi x y := by
  have e1 := gr_of hx
  have e2 := gr_of hy
  generalize hA : (giAt x).cs = A at e1 ⊢
  generalize hB : (giAt y).cs = B at e2 ⊢
  rw [e1, e2, ← hA, ← hB]
  rfl
theorem ky_eq2 {x y : List PV} (hx : wk KFi x = true) (hy : wk KFi y = true) : eqKy (kyAt x 0).cs (kyAt y 0).cs = eqKy x y := by
  have e1 := fi_of hx
  have e2 := fi_of hy
  generalize hA : (kyAt x 0).cs = A at e1 ⊢
  generalize hB : (kyAt y 0).cs = B at e2 ⊢
  rw [e1, e2, ← hA, ← hB]
  rfl

theorem runRSg (xs : List PV) (v : PV) (h : gSg xs = some (true, v)) : ∃ H, apartS EN TQ H 1000009 5 11 xs = some v := by
  obtain ⟨x, y, rfl, hx, hy, rfl⟩ := agg2_some h
  unfold grOk okTb at hx hy
  simp only [Bool.and_eq_true] at hx hy
  refine ⟨H0, ?_⟩
  have := rSg 1000009 (giAt x) (giAt y) (asI (x.getD 5 .nilp)) (asI (y.getD 5 .nilp)) (slCells (x.getD 6 .nilp)) (slCells (x.getD 7 .nilp)) (slCells (y.getD 6 .nilp)) (slCells (y.getD 7 .nilp)) (slLen (x.getD 6 .nilp)) (slLen (x.getD 7 .nilp)) (slLen (y.getD 6 .nilp)) (slLen (y.getD 7 .nilp))
  rw [← gr_of hx.1, ← gr_of hy.1, tb_some hx.2.1 hx.2.2 hy.2.1 hy.2.2, gi_eq hx.1 hy.1] at this
  rw [this]
  unfold sameGr sameTb
  cases eqGi x y <;> rfl

theorem runRSf {f : Nat} (ht : ∀ (N : Nat) (a b : Ky) (c1 d1 : List PV) (n1 m1 : Nat), apartS EN TQ H0 N 5 f [.agg (a.cs ++ [.sl c1 18 n1 none]), .agg (b.cs ++ [.sl d1 18 m1 none])] = fiT a b c1 d1 n1 m1) (xs : List PV) (v : PV) (h : gSf xs = some (true, v)) : ∃ H, apartS EN TQ H 1000009 5 f xs = some v := by
  obtain ⟨x, y, rfl, hx, hy, rfl⟩ := agg2_some h
  unfold fiOk at hx hy
  simp only [Bool.and_eq_true] at hx hy
  refine ⟨H0, ?_⟩
  have := (ht 1000009 (kyAt x 0) (kyAt y 0) _ _ _ _).trans (fi_some hx.2 hy.2)
  rw [← fi_of hx.1, ← fi_of hy.1, ky_eq2 hx.1 hy.1] at this
  exact this

noncomputable def TQ1 : Table := Tadd TQ 23 gTb
theorem TQ1ok : TR TQ1 := TQok.add TQok runTb
theorem tSg (N : Nat) (a b : Gi) (s t : Int) (c1 c2 d1 d2 : List PV) (n1 n2 m1 m2 : Nat) : apartS EN TQ1 H0 N 5 10 [.agg (a.cs ++ [vi s, .sl c1 18 n1 none, .sl c2 1 n2 none]), .agg (b.cs ++ [vi t, .sl d1 18 m1 none, .sl d2 1 m2 none])] =
  (bif eqGi a.cs b.cs then (ass (oldL 0 c1) <| ass (oldL 0 c2) <| ass (oldL 0 d1) <| ass (oldL 0 d2) <| ass (okTb [vi s, .sl c1 18 n1 none, .sl c2 1 n2 none] 0 && okTb [vi t, .sl d1 18 m1 none, .sl d2 1 m2 none] 0) <| some (.bool (sameTb [vi s, .sl c1 18 n1 none, .sl c2 1 n2 none] [vi t, .sl d1 18 m1 none, .sl d2 1 m2 none] 0))) else some (.bool false)) := by kernel_rfl

theorem runTSg (xs : List PV) (v : PV) (h : gSg xs = some (true, v)) : ∃ H, apartS EN TQ1 H 1000009 5 10 xs = some v := by
  obtain ⟨x, y, rfl, hx, hy, rfl⟩ := agg2_some h
  unfold grOk okTb at hx hy
  simp only [Bool.and_eq_true] at hx hy
  refine ⟨H0, ?_⟩
  have := tSg 1000009 (giAt x) (giAt y) (asI (x.getD 5 .nilp)) (asI (y.getD 5 .nilp)) (slCells (x.getD 6 .nilp)) (slCells (x.getD 7 .nilp)) (slCells (y.getD 6 .nilp)) (slCells (y.getD 7 .nilp)) (slLen (x.getD 6 .nilp)) (slLen (x.getD 7 .nilp)) (slLen (y.getD 6 .nilp)) (slLen (y.getD 7 .nilp))
  rw [← gr_of hx.1, ← gr_of hy.1, gi_eq hx.1 hy.1, ass_of (okSl_old hx.2.1), ass_of (okSl_old hx.2.2), ass_of (okSl_old hy.2.1), ass_of (okSl_old hy.2.2)] at this
  rw [ass_of (by
    show ((okSl KPt (x.getD 6 .nilp) && okSl KIn (x.getD 7 .nilp)) && (okSl KPt (y.getD 6 .nilp) && okSl KIn (y.getD 7 .nilp))) = true
    rw [hx.2.1, hx.2.2, hy.2.1, hy.2.2]; rfl)] at this
  rw [this]
  unfold sameGr
  cases eqGi x y <;> rfl

noncomputable def TQ2 : Table := Tadd (Tadd (Tadd (Tadd TQ1 10 gSg) 11 gSg) 8 gSf) 9 gSf
theorem TQ2ok : TR TQ2 := (((TQ1ok.add TQ1ok runTSg).add TQok runRSg).add TQok (runRSf tSf)).add TQok (runRSf rSf)

end Go.Proofs.Ytbhgibpdhmlamaa.Am
end

/- Rows, groups, filters: which are the same; which are too long. -/
section
set_option linter.unusedVariables false
set_option linter.unusedSimpArgs false
set_option maxRecDepth 100000
set_option maxHeartbeats 8000000
namespace Go.Proofs.Ytbhgibpdhmlamaa.Am
open St

/-- Several things are asked for. -/
def asks {R : Type} : List Bool → Option R → Option R
  | [], k => k
  | c :: cs, k => ass c (asks cs k)

theorem asks_of {R : Type} {l : List Bool} {k : Option R} (h : l.all id = true) : asks l k = k := by
  induction l with
  | nil => rfl
  | cons c cs ih =>
    simp only [List.all_cons, Bool.and_eq_true, id] at h
    unfold asks
    rw [ass_of h.1, ih h.2]

theorem bif_or {R : Type} (a b : Bool) (x y : R) : (bif a then x else bif b then x else y) = bif (a || b) then x else y := by cases a <;> rfl

def anyFrom (C : Int → Bool) (i : Nat) : Nat → Bool
  | 0 => false
  | k + 1 => C (i : Int) || anyFrom C (i + 1) k

/-- A loop that ends where something is so. -/
theorem any_loop {n : Nat} (hn : n ≤ 1000000) {L : Nat → Int → Option PV} {e : Int → Option PV} {P Q : Int → List Bool} {C : Int → Bool} {x : Option PV}
    (ht : ∀ q i, L (q + 1) i = bif decide (i < (n : Int)) then asks (P i) (bif C i then x else asks (Q i) (L q (IntKind.i64.wrap (i + 1)))) else e i)
    (hP : ∀ i : Nat, i < n → (P (i : Int)).all id = true) (hQ : ∀ i : Nat, i < n → (Q (i : Int)).all id = true) :
    ∀ (k i q : Nat), i + k = n → L (q + k + 1) (i : Int) = bif anyFrom C i k then x else e (n : Int)
  | 0, i, q, h => by
    have : i = n := by omega
    subst this
    rw [ht, cond_f (show decide ((i : Int) < (i : Int)) = false from by simp)]
    rfl
  | k + 1, i, q, h => by
    rw [show q + (k + 1) + 1 = (q + k + 1) + 1 from by omega, ht, cond_t (show decide ((i : Int) < (n : Int)) = true from by simp; omega), asks_of (hP i (by omega)), asks_of (hQ i (by omega)), wrap_succ (by omega : i < 9223372036854775807), any_loop hn ht hP hQ k (i + 1) q (by omega), anyFrom]
    cases C (i : Int) <;> rfl

theorem any_rows {C : Int → Bool} {c : List PV → Bool} {R : List (List PV)} (h : ∀ (j : Nat) (hj : j < R.length), C (j : Int) = c R[j]) : ∀ (k i : Nat), i + k = R.length → anyFrom C i k = (R.drop i).any c
  | 0, i, hk => by rw [List.drop_of_length_le (by omega)]; rfl
  | k + 1, i, hk => by
    rw [anyFrom, h i (by omega), any_rows h k (i + 1) (by omega), List.drop_eq_getElem_cons (by omega : i < R.length)]
    rfl

theorem any_rows2 {C : Int → Bool} {eq : List PV → List PV → Bool} {R S : List (List PV)} (hl : S.length = R.length) (h : ∀ (j : Nat) (hj : j < R.length), C (j : Int) = !eq R[j] (S[j]'(by omega))) : ∀ (k i : Nat), i + k = R.length → anyFrom C i k = !eqRows eq (R.drop i) (S.drop i)
  | 0, i, hk => by rw [List.drop_of_length_le (by omega), List.drop_of_length_le (by omega)]; rfl
  | k + 1, i, hk => by
    rw [anyFrom, h i (by omega), any_rows2 hl h k (i + 1) (by omega), eqRows_drop (by omega : i < R.length) (by omega)]
    cases eq R[i] S[i] <;> rfl

theorem rows_oldn {K : List Kd} {R : List (List PV)} (h : rowsOk K R = true) (n : Nat) : oldL n R.flatten = true := oldL_le (Nat.zero_le n) _ (rows_old h)

theorem cell_old {x : List PV} (h : oldL 0 x = true) (n k : Nat) : oldL n (slCells (x.getD k .nilp)) = true := by
  have : ∀ (x : List PV) (k : Nat), oldL 0 x = true → oldV 0 (x.getD k .nilp) = true := by
    intro x
    induction x with
    | nil => intro k _; simp [oldV]
    | cons a x ih =>
      intro k hx
      simp only [oldL, Bool.and_eq_true] at hx
      cases k with
      | zero => exact hx.1
      | succ k => simpa using ih k hx.2
  have h1 := this x k h
  refine oldL_le (Nat.zero_le n) _ ?_
  cases hc : x.getD k .nilp <;> first | rfl | (rw [hc] at h1; simp only [oldV] at h1; exact h1)

theorem row_cell {K : List Kd} {R : List (List PV)} (h : rowsOk K R = true) {j : Nat} (hj : j < R.length) (n k : Nat) : oldL n (slCells (R[j].getD k .nilp)) = true := cell_old (rowsOk_get h (List.getElem_mem hj)).2 n k

noncomputable def LEg1 (N q : Nat) (gc gd : List PV) (n m : Nat) (i : Int) : Option PV := loopS EN TQ2 H0 N 5 30 Try.f30 [1, 1, 0, 1, 0] (patOf (sparse 32 0 [(0, .sl gc 8 n none), (1, .sl gd 8 m none), (2, .fn (Fn.func 10) [] []), (6, .bool false), (10, .sl gc 8 n none), (11, .int .i64 (↑n : Int)), (12, .sl gd 8 m none), (13, .int .i64 (↑m : Int)), (14, .bool false), (15, .sl gc 8 n none), (16, .int .i64 (↑n : Int)), (17, .int .i64 i)])) 0 q (sparse 32 0 [(0, .sl gc 8 n none), (1, .sl gd 8 m none), (2, .fn (Fn.func 10) [] []), (6, .bool false), (10, .sl gc 8 n none), (11, .int .i64 (↑n : Int)), (12, .sl gd 8 m none), (13, .int .i64 (↑m : Int)), (14, .bool false), (15, .sl gc 8 n none), (16, .int .i64 (↑n : Int)), (17, .int .i64 i)]) []
theorem tEg0 (N : Nat) (gc : List PV) (gd : List PV) (n : Nat) (m : Nat) : apartS EN TQ2 H0 N 5 30 [PV.sl gc 8 n none, PV.sl gd 8 m none, PV.fn (Fn.func 10) [] []] =
  (bif (↑n : Int) != (↑m : Int) then
    (some (PV.bool false))
  else
    (LEg1 N N gc gd n m  0)) := by kernel_rfl

theorem tEg1 (N : Nat) (q : Nat) (gc : List PV) (gd : List PV) (n : Nat) (m : Nat) (i : Int) : LEg1 N (q + 1) gc gd n m i =
  (bif decide (i < (↑n : Int)) then
    (asks [decide (0 ≤ i) && decide (i < (↑n : Int)), okAt KGr gc (i.toNat * 8), decide (0 ≤ i) && decide (i < (↑m : Int)), okAt KGr gd (i.toNat * 8), oldL 0 (slCells ((shapeAt KGr gc (i.toNat * 8)).getD 6 .nilp)), oldL 0 (slCells ((shapeAt KGr gc (i.toNat * 8)).getD 7 .nilp)), oldL 0 (slCells ((shapeAt KGr gd (i.toNat * 8)).getD 6 .nilp)), oldL 0 (slCells ((shapeAt KGr gd (i.toNat * 8)).getD 7 .nilp)), grOk (shapeAt KGr gc (i.toNat * 8)) && grOk (shapeAt KGr gd (i.toNat * 8))] <|
                    bif !sameGr (shapeAt KGr gc (i.toNat * 8)) (shapeAt KGr gd (i.toNat * 8)) then
                        (some (PV.bool false))
                      else
    (asks [oldL 0 gc, oldL 0 gd, oldL 0 gc, oldL 0 gd, oldL 0 gc] <|
                                LEg1 N (q) (gc) (gd) (n) (m) (IntKind.i64.wrap (i + 1))))
  else
    (some (PV.bool true))) := by kernel_rfl

noncomputable def LEi1 (N q : Nat) (ic jd : List PV) (n m : Nat) (i : Int) : Option PV := loopS EN TQ2 H0 N 5 31 Try.f31 [1, 1, 0, 1, 0] (patOf (sparse 32 0 [(0, .sl ic 3 n none), (1, .sl jd 3 m none), (2, .fn (Fn.func 8) [] []), (6, .bool false), (10, .sl ic 3 n none), (11, .int .i64 (↑n : Int)), (12, .sl jd 3 m none), (13, .int .i64 (↑m : Int)), (14, .bool false), (15, .sl ic 3 n none), (16, .int .i64 (↑n : Int)), (17, .int .i64 i)])) 0 q (sparse 32 0 [(0, .sl ic 3 n none), (1, .sl jd 3 m none), (2, .fn (Fn.func 8) [] []), (6, .bool false), (10, .sl ic 3 n none), (11, .int .i64 (↑n : Int)), (12, .sl jd 3 m none), (13, .int .i64 (↑m : Int)), (14, .bool false), (15, .sl ic 3 n none), (16, .int .i64 (↑n : Int)), (17, .int .i64 i)]) []
theorem tEi0 (N : Nat) (ic : List PV) (jd : List PV) (n : Nat) (m : Nat) : apartS EN TQ2 H0 N 5 31 [PV.sl ic 3 n none, PV.sl jd 3 m none, PV.fn (Fn.func 8) [] []] =
  (bif (↑n : Int) != (↑m : Int) then
    (some (PV.bool false))
  else
    (LEi1 N N ic jd n m  0)) := by kernel_rfl

theorem tEi1 (N : Nat) (q : Nat) (ic : List PV) (jd : List PV) (n : Nat) (m : Nat) (i : Int) : LEi1 N (q + 1) ic jd n m i =
  (bif decide (i < (↑n : Int)) then
    (asks [decide (0 ≤ i) && decide (i < (↑n : Int)), okAt KFi ic (i.toNat * 3), decide (0 ≤ i) && decide (i < (↑m : Int)), okAt KFi jd (i.toNat * 3), oldL 0 (slCells ((shapeAt KFi ic (i.toNat * 3)).getD 2 .nilp)), oldL 0 (slCells ((shapeAt KFi jd (i.toNat * 3)).getD 2 .nilp)), fiOk (shapeAt KFi ic (i.toNat * 3)) && fiOk (shapeAt KFi jd (i.toNat * 3))] <|
                bif !sameFi (shapeAt KFi ic (i.toNat * 3)) (shapeAt KFi jd (i.toNat * 3)) then
                    (some (PV.bool false))
                  else
    (asks [oldL 0 ic, oldL 0 jd, oldL 0 ic, oldL 0 jd, oldL 0 ic] <|
                            LEi1 N (q) (ic) (jd) (n) (m) (IntKind.i64.wrap (i + 1))))
  else
    (some (PV.bool true))) := by kernel_rfl

noncomputable def LLo1 (N q : Nat) (fc gc ic : List PV) (nf ng ni : Nat) (mo : Int) (i : Int) : Option PV := loopS EN T0 H0 N 5 6 Try.f6 [1, 1, 0, 1, 0] (patOf (sparse 125 0 [(0, .agg [.sl fc 26 nf none, .sl gc 8 ng none, .sl ic 3 ni none]), (1, .int .i64 mo), (2, .ptr 0 1 0), (4, .bool false), (11, .ptr 0 1 0), (12, .sl fc 26 nf none), (13, .int .i64 (↑nf : Int)), (14, .int .i64 mo), (15, .bool (decide ((↑nf : Int) > mo))), (16, .bool false), (17, .ptr 0 1 1), (18, .sl gc 8 ng none), (19, .int .i64 (↑ng : Int)), (20, .int .i64 mo), (21, .bool (decide ((↑ng : Int) > mo))), (22, .bool (decide ((↑ng : Int) > mo))), (23, .bool false), (24, .ptr 0 1 2), (25, .sl ic 3 ni none), (26, .int .i64 (↑ni : Int)), (27, .int .i64 mo), (28, .bool (decide ((↑ni : Int) > mo))), (29, .bool false), (30, .ptr 0 1 0), (31, .sl fc 26 nf none), (32, .int .i64 (↑nf : Int)), (33, .int .i64 i)])) 1 q (sparse 125 0 [(0, .agg [.sl fc 26 nf none, .sl gc 8 ng none, .sl ic 3 ni none]), (1, .int .i64 mo), (2, .ptr 0 1 0), (4, .bool false), (11, .ptr 0 1 0), (12, .sl fc 26 nf none), (13, .int .i64 (↑nf : Int)), (14, .int .i64 mo), (15, .bool (decide ((↑nf : Int) > mo))), (16, .bool false), (17, .ptr 0 1 1), (18, .sl gc 8 ng none), (19, .int .i64 (↑ng : Int)), (20, .int .i64 mo), (21, .bool (decide ((↑ng : Int) > mo))), (22, .bool (decide ((↑ng : Int) > mo))), (23, .bool false), (24, .ptr 0 1 2), (25, .sl ic 3 ni none), (26, .int .i64 (↑ni : Int)), (27, .int .i64 mo), (28, .bool (decide ((↑ni : Int) > mo))), (29, .bool false), (30, .ptr 0 1 0), (31, .sl fc 26 nf none), (32, .int .i64 (↑nf : Int)), (33, .int .i64 i)]) [Ob.mem { cells := [.sl fc 26 nf none, .sl gc 8 ng none, .sl ic 3 ni none], size := 3, len := 1, exact := true, ice := false, box := true }]
noncomputable def LLo2 (N q : Nat) (fc gc ic : List PV) (nf ng ni : Nat) (mo : Int) (e1 : Int) (i : Int) : Option PV := loopS EN T0 H0 N 5 6 Try.f6 [1, 1, 1, 0, 1, 0] (patOf (sparse 125 0 [(0, .agg [.sl fc 26 nf none, .sl gc 8 ng none, .sl ic 3 ni none]), (1, .int .i64 mo), (2, .ptr 0 1 0), (4, .bool false), (11, .ptr 0 1 0), (12, .sl fc 26 nf none), (13, .int .i64 (↑nf : Int)), (14, .int .i64 mo), (15, .bool (decide ((↑nf : Int) > mo))), (16, .bool false), (17, .ptr 0 1 1), (18, .sl gc 8 ng none), (19, .int .i64 (↑ng : Int)), (20, .int .i64 mo), (21, .bool (decide ((↑ng : Int) > mo))), (22, .bool (decide ((↑ng : Int) > mo))), (23, .bool false), (24, .ptr 0 1 2), (25, .sl ic 3 ni none), (26, .int .i64 (↑ni : Int)), (27, .int .i64 mo), (28, .bool (decide ((↑ni : Int) > mo))), (29, .bool false), (30, .ptr 0 1 0), (31, .sl fc 26 nf none), (32, .int .i64 (↑nf : Int)), (33, .int .i64 e1), (34, .bool false), (56, .ptr 0 1 1), (57, .sl gc 8 ng none), (58, .int .i64 (↑ng : Int)), (59, .int .i64 i)])) 1 q (sparse 125 0 [(0, .agg [.sl fc 26 nf none, .sl gc 8 ng none, .sl ic 3 ni none]), (1, .int .i64 mo), (2, .ptr 0 1 0), (4, .bool false), (11, .ptr 0 1 0), (12, .sl fc 26 nf none), (13, .int .i64 (↑nf : Int)), (14, .int .i64 mo), (15, .bool (decide ((↑nf : Int) > mo))), (16, .bool false), (17, .ptr 0 1 1), (18, .sl gc 8 ng none), (19, .int .i64 (↑ng : Int)), (20, .int .i64 mo), (21, .bool (decide ((↑ng : Int) > mo))), (22, .bool (decide ((↑ng : Int) > mo))), (23, .bool false), (24, .ptr 0 1 2), (25, .sl ic 3 ni none), (26, .int .i64 (↑ni : Int)), (27, .int .i64 mo), (28, .bool (decide ((↑ni : Int) > mo))), (29, .bool false), (30, .ptr 0 1 0), (31, .sl fc 26 nf none), (32, .int .i64 (↑nf : Int)), (33, .int .i64 e1), (34, .bool false), (56, .ptr 0 1 1), (57, .sl gc 8 ng none), (58, .int .i64 (↑ng : Int)), (59, .int .i64 i)]) [Ob.mem { cells := [.sl fc 26 nf none, .sl gc 8 ng none, .sl ic 3 ni none], size := 3, len := 1, exact := true, ice := false, box := true }]
noncomputable def LLo3 (N q : Nat) (fc gc ic : List PV) (nf ng ni : Nat) (mo : Int) (e1 e2 : Int) (i : Int) : Option PV := loopS EN T0 H0 N 5 6 Try.f6 [1, 1, 1, 1, 0, 1, 0] (patOf (sparse 125 0 [(0, .agg [.sl fc 26 nf none, .sl gc 8 ng none, .sl ic 3 ni none]), (1, .int .i64 mo), (2, .ptr 0 1 0), (4, .bool false), (11, .ptr 0 1 0), (12, .sl fc 26 nf none), (13, .int .i64 (↑nf : Int)), (14, .int .i64 mo), (15, .bool (decide ((↑nf : Int) > mo))), (16, .bool false), (17, .ptr 0 1 1), (18, .sl gc 8 ng none), (19, .int .i64 (↑ng : Int)), (20, .int .i64 mo), (21, .bool (decide ((↑ng : Int) > mo))), (22, .bool (decide ((↑ng : Int) > mo))), (23, .bool false), (24, .ptr 0 1 2), (25, .sl ic 3 ni none), (26, .int .i64 (↑ni : Int)), (27, .int .i64 mo), (28, .bool (decide ((↑ni : Int) > mo))), (29, .bool false), (30, .ptr 0 1 0), (31, .sl fc 26 nf none), (32, .int .i64 (↑nf : Int)), (33, .int .i64 e1), (34, .bool false), (56, .ptr 0 1 1), (57, .sl gc 8 ng none), (58, .int .i64 (↑ng : Int)), (59, .int .i64 e2), (60, .bool false), (99, .ptr 0 1 2), (100, .sl ic 3 ni none), (101, .int .i64 (↑ni : Int)), (102, .int .i64 i)])) 1 q (sparse 125 0 [(0, .agg [.sl fc 26 nf none, .sl gc 8 ng none, .sl ic 3 ni none]), (1, .int .i64 mo), (2, .ptr 0 1 0), (4, .bool false), (11, .ptr 0 1 0), (12, .sl fc 26 nf none), (13, .int .i64 (↑nf : Int)), (14, .int .i64 mo), (15, .bool (decide ((↑nf : Int) > mo))), (16, .bool false), (17, .ptr 0 1 1), (18, .sl gc 8 ng none), (19, .int .i64 (↑ng : Int)), (20, .int .i64 mo), (21, .bool (decide ((↑ng : Int) > mo))), (22, .bool (decide ((↑ng : Int) > mo))), (23, .bool false), (24, .ptr 0 1 2), (25, .sl ic 3 ni none), (26, .int .i64 (↑ni : Int)), (27, .int .i64 mo), (28, .bool (decide ((↑ni : Int) > mo))), (29, .bool false), (30, .ptr 0 1 0), (31, .sl fc 26 nf none), (32, .int .i64 (↑nf : Int)), (33, .int .i64 e1), (34, .bool false), (56, .ptr 0 1 1), (57, .sl gc 8 ng none), (58, .int .i64 (↑ng : Int)), (59, .int .i64 e2), (60, .bool false), (99, .ptr 0 1 2), (100, .sl ic 3 ni none), (101, .int .i64 (↑ni : Int)), (102, .int .i64 i)]) [Ob.mem { cells := [.sl fc 26 nf none, .sl gc 8 ng none, .sl ic 3 ni none], size := 3, len := 1, exact := true, ice := false, box := true }]
theorem tLo0 (N : Nat) (fc : List PV) (gc : List PV) (ic : List PV) (nf : Nat) (ng : Nat) (ni : Nat) (mo : Int) : apartS EN T0 H0 N 5 6 [PV.agg [PV.sl fc 26 nf none, PV.sl gc 8 ng none, PV.sl ic 3 ni none], PV.int IntKind.i64 mo] =
  (bif decide ((↑nf : Int) > mo) then
    (some (PV.bool true))
  else
    (bif decide ((↑ng : Int) > mo) then
      (some (PV.bool true))
    else
      (bif decide ((↑ni : Int) > mo) then
        (some (PV.bool true))
      else
        (LLo1 N N fc gc ic nf ng ni mo  0)))) := by kernel_rfl

theorem tLo1 (N : Nat) (q : Nat) (fc : List PV) (gc : List PV) (ic : List PV) (nf : Nat) (ng : Nat) (ni : Nat) (mo : Int) (i : Int) : LLo1 N (q + 1) fc gc ic nf ng ni mo i =
  (bif decide (i < (↑nf : Int)) then
    (asks [decide (0 ≤ i) && decide (i < (↑nf : Int)), okAt KFr fc (i.toNat * 26)] <|
      bif decide ((↑(asS ((shapeAt KFr fc (i.toNat * 26)).getD 19 .nilp)).length : Int) > 100) then
          (some (PV.bool true))
        else
          (bif decide ((↑(asS ((shapeAt KFr fc (i.toNat * 26)).getD 20 .nilp)).length : Int) > 100) then
            (some (PV.bool true))
          else
            (bif decide ((↑(asS ((shapeAt KFr fc (i.toNat * 26)).getD 21 .nilp)).length : Int) > 100) then
              (some (PV.bool true))
            else
    (asks [oldL 1 fc, oldL 1 gc, oldL 1 ic, oldL 1 fc, oldL 1 gc, oldL 1 ic, oldL 1 fc, oldL 1 fc, oldL 1 gc, oldL 1 ic] <|
                                LLo1 N (q) (fc) (gc) (ic) (nf) (ng) (ni) (mo) (IntKind.i64.wrap (i + 1))))))
  else
    (LLo2 N N fc gc ic nf ng ni mo  i 0)) := by kernel_rfl

theorem tLo2 (N : Nat) (q : Nat) (fc : List PV) (gc : List PV) (ic : List PV) (nf : Nat) (ng : Nat) (ni : Nat) (mo : Int) (e1 : Int) (i : Int) : LLo2 N (q + 1) fc gc ic nf ng ni mo e1 i =
  (bif decide (i < (↑ng : Int)) then
    (asks [decide (0 ≤ i) && decide (i < (↑ng : Int)), okAt KGr gc (i.toNat * 8)] <|
      bif decide ((↑(asS ((shapeAt KGr gc (i.toNat * 8)).getD 0 .nilp)).length : Int) > 100) then
          (some (PV.bool true))
        else
          (bif decide ((↑(asS ((shapeAt KGr gc (i.toNat * 8)).getD 1 .nilp)).length : Int) > 100) then
            (some (PV.bool true))
          else
            (bif decide ((↑(asS ((shapeAt KGr gc (i.toNat * 8)).getD 2 .nilp)).length : Int) > 100) then
              (some (PV.bool true))
            else
              (bif decide ((↑(slLen ((shapeAt KGr gc (i.toNat * 8)).getD 6 .nilp)) : Int) > 30) then
                (some (PV.bool true))
              else
                (bif decide ((↑(slLen ((shapeAt KGr gc (i.toNat * 8)).getD 7 .nilp)) : Int) > 260) then
                  (some (PV.bool true))
                else
    (asks [oldL 1 fc, oldL 1 gc, oldL 1 ic, oldL 1 fc, oldL 1 gc, oldL 1 ic, oldL 1 fc, oldL 1 gc, oldL 1 fc, oldL 1 gc, oldL 1 ic] <|
                                      LLo2 N (q) (fc) (gc) (ic) (nf) (ng) (ni) (mo) (e1) (IntKind.i64.wrap (i + 1))))))))
  else
    (LLo3 N N fc gc ic nf ng ni mo e1 i 0)) := by kernel_rfl

theorem tLo3 (N : Nat) (q : Nat) (fc : List PV) (gc : List PV) (ic : List PV) (nf : Nat) (ng : Nat) (ni : Nat) (mo : Int) (e1 : Int) (e2 : Int) (i : Int) : LLo3 N (q + 1) fc gc ic nf ng ni mo e1 e2 i =
  (bif decide (i < (↑ni : Int)) then
    (asks [decide (0 ≤ i) && decide (i < (↑ni : Int)), okAt KFi ic (i.toNat * 3)] <|
      bif decide ((↑(asS ((shapeAt KFi ic (i.toNat * 3)).getD 0 .nilp)).length : Int) > 100) then
          (some (PV.bool true))
        else
          (bif decide ((↑(asS ((shapeAt KFi ic (i.toNat * 3)).getD 1 .nilp)).length : Int) > 100) then
            (some (PV.bool true))
          else
            (bif decide ((↑(slLen ((shapeAt KFi ic (i.toNat * 3)).getD 2 .nilp)) : Int) > 20) then
              (some (PV.bool true))
            else
    (asks [oldL 1 fc, oldL 1 gc, oldL 1 ic, oldL 1 fc, oldL 1 gc, oldL 1 ic, oldL 1 fc, oldL 1 gc, oldL 1 ic, oldL 1 fc, oldL 1 gc, oldL 1 ic] <|
                                    LLo3 N (q) (fc) (gc) (ic) (nf) (ng) (ni) (mo) (e1) (e2) (IntKind.i64.wrap (i + 1))))))
  else
    (some (PV.bool false))) := by kernel_rfl

/-- Rows, all of them so. -/
def rowsA (K : List Kd) (ok : List PV → Bool) (n : Nat) (c : List PV) : Bool := rowsC K n c && (chunks K.length n c).all ok

theorem rowsA_ok {K : List Kd} {ok : List PV → Bool} {n : Nat} {c : List PV} (h : rowsA K ok n c = true) : n ≤ 1000000 ∧ ∃ R, rowsOk K R = true ∧ R.flatten = c ∧ R.length = n ∧ chunks K.length n c = R ∧ ∀ r ∈ R, ok r = true := by
  unfold rowsA at h
  simp only [Bool.and_eq_true] at h
  obtain ⟨r1, r2, r3, r4⟩ := rowsC_ok h.1
  exact ⟨r1, _, r2, r3, r4, rfl, fun r hr => List.all_eq_true.1 h.2 r hr⟩

def gEqA (K : List Kd) (es : Nat) (ok : List PV → Bool) (eq : List PV → List PV → Bool) (g : Nat) (xs : List PV) : Option (Bool × PV) := match xs with
  | [.sl c e1 n none, .sl d e2 m none, .fn (.func g') [] []] => some (Nat.beq g' g && (Nat.beq e1 es && (Nat.beq e2 es && (rowsA K ok n c && rowsA K ok m d))), .bool (Nat.beq n m && eqRows eq (chunks es n c) (chunks es m d)))
  | _ => none

theorem beq_no {n m : Nat} (h : n ≠ m) : Nat.beq n m = false := by
  cases hb : Nat.beq n m with
  | false => rfl
  | true => exact absurd (Nat.eq_of_beq_eq_true hb) h

theorem runEg (xs : List PV) (v : PV) (h : gEqA KGr 8 grOk sameGr 10 xs = some (true, v)) : ∃ H, apartS EN TQ2 H 1000009 5 30 xs = some v := by
  unfold gEqA at h
  split at h
  · rename_i c e1 n d e2 m g'
    simp only [Option.some.injEq, Prod.mk.injEq, Bool.and_eq_true] at h
    obtain ⟨⟨a0, a1, a2, a3, a4⟩, rfl⟩ := h
    rw [Nat.eq_of_beq_eq_true a0, Nat.eq_of_beq_eq_true a1, Nat.eq_of_beq_eq_true a2]
    obtain ⟨hn, R, r1, rfl, r3, r4, r5⟩ := rowsA_ok a3
    obtain ⟨hm, S, s1, rfl, s3, s4, s5⟩ := rowsA_ok a4
    refine ⟨H0, (tEg0 1000009 R.flatten S.flatten n m).trans ?_⟩
    rw [show chunks 8 n R.flatten = R from r4, show chunks 8 m S.flatten = S from s4]
    by_cases hnm : n = m
    · subst hnm
      rw [cond_f (show ((n : Int) != (n : Int)) = false from by simp), Nat.beq_refl, Bool.true_and]
      have hl : S.length = R.length := by omega
      have e8 : (8 : Nat) = KGr.length := rfl
      have := any_loop hn (L := fun q i => LEg1 1000009 q R.flatten S.flatten n n i) (fun q i => tEg1 1000009 q R.flatten S.flatten n n i) (fun i hi => by
        have hi1 : i < R.length := by omega
        have hi2 : i < S.length := by omega
        simp only [Int.toNat_natCast, e8, (rows_at0 r1 hi1).1, (rows_at0 r1 hi1).2, (rows_at0 s1 hi2).1, (rows_at0 s1 hi2).2, row_cell r1 hi1, row_cell s1 hi2, inside hi, r5 _ (List.getElem_mem hi1), s5 _ (List.getElem_mem hi2), List.all_cons, List.all_nil, id, Bool.and_self]) (fun i hi => by
        simp only [rows_oldn r1, rows_oldn s1, List.all_cons, List.all_nil, id, Bool.and_self]) n 0 (1000008 - n) (by omega)
      rw [show 1000008 - n + n + 1 = 1000009 from by omega, any_rows2 (eq := sameGr) hl (fun j hj => by
        have hj2 : j < S.length := by omega
        simp only [Int.toNat_natCast, e8, (rows_at0 r1 hj).2, (rows_at0 s1 hj2).2]) n 0 (by omega)] at this
      refine this.trans ?_
      rw [List.drop_zero, List.drop_zero]
      cases eqRows sameGr R S <;> rfl
    · rw [cond_t (show ((n : Int) != (m : Int)) = true from by simp; omega), beq_no hnm]
      rfl
  · cases h

theorem runEi (xs : List PV) (v : PV) (h : gEqA KFi 3 fiOk sameFi 8 xs = some (true, v)) : ∃ H, apartS EN TQ2 H 1000009 5 31 xs = some v := by
  unfold gEqA at h
  split at h
  · rename_i c e1 n d e2 m g'
    simp only [Option.some.injEq, Prod.mk.injEq, Bool.and_eq_true] at h
    obtain ⟨⟨a0, a1, a2, a3, a4⟩, rfl⟩ := h
    rw [Nat.eq_of_beq_eq_true a0, Nat.eq_of_beq_eq_true a1, Nat.eq_of_beq_eq_true a2]
    obtain ⟨hn, R, r1, rfl, r3, r4, r5⟩ := rowsA_ok a3
    obtain ⟨hm, S, s1, rfl, s3, s4, s5⟩ := rowsA_ok a4
    refine ⟨H0, (tEi0 1000009 R.flatten S.flatten n m).trans ?_⟩
    rw [show chunks 3 n R.flatten = R from r4, show chunks 3 m S.flatten = S from s4]
    by_cases hnm : n = m
    · subst hnm
      rw [cond_f (show ((n : Int) != (n : Int)) = false from by simp), Nat.beq_refl, Bool.true_and]
      have hl : S.length = R.length := by omega
      have e8 : (3 : Nat) = KFi.length := rfl
      have := any_loop hn (L := fun q i => LEi1 1000009 q R.flatten S.flatten n n i) (fun q i => tEi1 1000009 q R.flatten S.flatten n n i) (fun i hi => by
        have hi1 : i < R.length := by omega
        have hi2 : i < S.length := by omega
        simp only [Int.toNat_natCast, e8, (rows_at0 r1 hi1).1, (rows_at0 r1 hi1).2, (rows_at0 s1 hi2).1, (rows_at0 s1 hi2).2, row_cell r1 hi1, row_cell s1 hi2, inside hi, r5 _ (List.getElem_mem hi1), s5 _ (List.getElem_mem hi2), List.all_cons, List.all_nil, id, Bool.and_self]) (fun i hi => by
        simp only [rows_oldn r1, rows_oldn s1, List.all_cons, List.all_nil, id, Bool.and_self]) n 0 (1000008 - n) (by omega)
      rw [show 1000008 - n + n + 1 = 1000009 from by omega, any_rows2 (eq := sameFi) hl (fun j hj => by
        have hj2 : j < S.length := by omega
        simp only [Int.toNat_natCast, e8, (rows_at0 r1 hj).2, (rows_at0 s1 hj2).2]) n 0 (by omega)] at this
      refine this.trans ?_
      rw [List.drop_zero, List.drop_zero]
      cases eqRows sameFi R S <;> rfl
    · rw [cond_t (show ((n : Int) != (m : Int)) = true from by simp; omega), beq_no hnm]
      rfl
  · cases h

/-! ### rows of the tables -/

structure Rw where
  nf : Nat
  fc : List PV
  ng : Nat
  gc : List PV
  ni : Nat
  ic : List PV

def Rw.pv (r : Rw) : PV := .agg [.sl r.fc 26 r.nf none, .sl r.gc 8 r.ng none, .sl r.ic 3 r.ni none]
def asRw (x : PV) : Option Rw := match x with
  | .agg [.sl fc a nf none, .sl gc b ng none, .sl ic c ni none] => bif Nat.beq a 26 && (Nat.beq b 8 && Nat.beq c 3) then some ⟨nf, fc, ng, gc, ni, ic⟩ else none
  | _ => none
theorem asRw_ok {x : PV} {r : Rw} (h : asRw x = some r) : x = r.pv := by
  unfold asRw at h
  split at h
  · rename_i fc a nf gc b ng ic c ni
    cases hb : (Nat.beq a 26 && (Nat.beq b 8 && Nat.beq c 3)) with
    | false => rw [hb] at h; cases h
    | true =>
      rw [hb] at h
      cases h
      simp only [Bool.and_eq_true] at hb
      rw [Nat.eq_of_beq_eq_true hb.1, Nat.eq_of_beq_eq_true hb.2.1, Nat.eq_of_beq_eq_true hb.2.2]
      rfl
  · cases h
def Rw.F (r : Rw) : List (List PV) := chunks 26 r.nf r.fc
def Rw.G (r : Rw) : List (List PV) := chunks 8 r.ng r.gc
def Rw.I (r : Rw) : List (List PV) := chunks 3 r.ni r.ic
def Rw.ok0 (r : Rw) : Bool := rowsC KFr r.nf r.fc && (rowsC KGr r.ng r.gc && rowsC KFi r.ni r.ic)
def Rw.ok (r : Rw) : Bool := rowsC KFr r.nf r.fc && (rowsA KGr grOk r.ng r.gc && rowsA KFi fiOk r.ni r.ic)
def Rw.same (r s : Rw) : Bool := (Nat.beq r.nf s.nf && eqRows eqFr r.F s.F) && ((Nat.beq r.ng s.ng && eqRows sameGr r.G s.G) && (Nat.beq r.ni s.ni && eqRows sameFi r.I s.I))
def gSame (xs : List PV) : Option (Bool × PV) := (two asRw xs).map fun p => (p.1.ok && p.2.ok, .bool (p.1.same p.2))

theorem two_rw {g : Rw × Rw → Bool × PV} {xs : List PV} {v : PV} (h : (two asRw xs).map g = some (true, v)) : ∃ r s, xs = [Rw.pv r, Rw.pv s] ∧ (g (r, s)).1 = true ∧ v = (g (r, s)).2 := by
  obtain ⟨x, y, a, b, rfl, h1, h2, h3⟩ := two_some h
  rw [asRw_ok h1, asRw_ok h2]
  exact ⟨a, b, rfl, by rw [← h3], by rw [← h3]⟩

theorem ref_step {n : Nat} (hn : n ≤ 1000000) {L : Nat → Int → Option PV} {e : Int → Option PV} {P Q : Int → List Bool} {C : Int → Bool} {x : Option PV}
    (ht : ∀ q i, L (q + 1) i = bif decide (i < (n : Int)) then asks (P i) (bif C i then x else asks (Q i) (L q (IntKind.i64.wrap (i + 1)))) else e i)
    (hP : ∀ i : Nat, i < n → (P (i : Int)).all id = true) (hQ : ∀ i : Nat, i < n → (Q (i : Int)).all id = true) {b : Bool} (hb : anyFrom C 0 n = b) : L 1000009 0 = bif b then x else e (n : Int) := by
  have := any_loop hn ht hP hQ n 0 (1000008 - n) (by omega)
  rw [show 1000008 - n + n + 1 = 1000009 from by omega, hb] at this
  exact this

noncomputable def TQ3 : Table := Tadd (Tadd TQ2 30 (gEqA KGr 8 grOk sameGr 10)) 31 (gEqA KFi 3 fiOk sameFi 8)
theorem TQ3ok : TR TQ3 := (TQ2ok.add TQ2ok runEg).add TQ2ok runEi

/-! ### too long? -/

def gt (n : Nat) (k : Int) : Bool := decide ((n : Int) > k)
def longF (x : List PV) : Bool := gt (asS (x.getD 19 .nilp)).length 100 || (gt (asS (x.getD 20 .nilp)).length 100 || gt (asS (x.getD 21 .nilp)).length 100)
def longG (x : List PV) : Bool := gt (asS (x.getD 0 .nilp)).length 100 || (gt (asS (x.getD 1 .nilp)).length 100 || (gt (asS (x.getD 2 .nilp)).length 100 || (gt (slLen (x.getD 6 .nilp)) 30 || gt (slLen (x.getD 7 .nilp)) 260)))
def longI (x : List PV) : Bool := gt (asS (x.getD 0 .nilp)).length 100 || (gt (asS (x.getD 1 .nilp)).length 100 || gt (slLen (x.getD 2 .nilp)) 20)
def Rw.long (r : Rw) (k : Int) : Bool := (gt r.nf k || (gt r.ng k || gt r.ni k)) || (r.F.any longF || (r.G.any longG || r.I.any longI))
def gLong (xs : List PV) : Option (Bool × PV) := match xs with
  | [x, .int .i64 k] => (asRw x).map fun r => (r.ok0, .bool (r.long k))
  | _ => none

theorem runLong (xs : List PV) (v : PV) (h : gLong xs = some (true, v)) : ∃ H, apartS EN T0 H 1000009 5 6 xs = some v := by
  unfold gLong at h
  split at h
  · rename_i x k
    simp only [Option.map_eq_some_iff, Prod.mk.injEq] at h
    obtain ⟨r, hr, hk, rfl⟩ := h
    rw [asRw_ok hr]
    unfold Rw.ok0 at hk
    simp only [Bool.and_eq_true] at hk
    obtain ⟨a1, a2, a3⟩ := hk
    obtain ⟨nf, fc, ng, gc, ni, ic⟩ := r
    dsimp only at a1 a2 a3
    obtain ⟨hnf, f1, f2, f3⟩ := rowsC_ok a1
    obtain ⟨hng, g1, g2, g3⟩ := rowsC_ok a2
    obtain ⟨hni, i1, i2, i3⟩ := rowsC_ok a3
    refine ⟨H0, (tLo0 1000009 fc gc ic nf ng ni k).trans ?_⟩
    unfold Rw.long Rw.F Rw.G Rw.I
    dsimp only
    rw [show (26 : Nat) = KFr.length from rfl, show (8 : Nat) = KGr.length from rfl, show (3 : Nat) = KFi.length from rfl]
    clear a1 a2 a3 hr
    revert f1 f2 f3 g1 g2 g3 i1 i2 i3
    generalize chunks KFr.length nf fc = F
    generalize chunks KGr.length ng gc = G
    generalize chunks KFi.length ni ic = I
    intro f1 f2 f3 g1 g2 g3 i1 i2 i3
    subst f2 g2 i2
    have e26 : (26 : Nat) = KFr.length := rfl
    have e8 : (8 : Nat) = KGr.length := rfl
    have e3 : (3 : Nat) = KFi.length := rfl
    rw [ref_step hnf (L := fun q i => LLo1 1000009 q F.flatten G.flatten I.flatten nf ng ni k i) (fun q i => (tLo1 1000009 q _ _ _ _ _ _ _ i).trans (by simp only [bif_or]; rfl)) (fun i hi => by
        have hi1 : i < F.length := by omega
        simp only [Int.toNat_natCast, e26, (rows_at0 f1 hi1).1, inside hi, List.all_cons, List.all_nil, id, Bool.and_self]) (fun i hi => by
        simp only [rows_oldn f1, rows_oldn g1, rows_oldn i1, List.all_cons, List.all_nil, id, Bool.and_self]) (any_rows (c := longF) (fun j hj => by
        simp only [Int.toNat_natCast, e26, (rows_at0 f1 hj).2]
        unfold longF gt
        simp only [Bool.or_assoc]) nf 0 (by omega))]
    rw [ref_step hng (L := fun q i => LLo2 1000009 q F.flatten G.flatten I.flatten nf ng ni k (nf : Int) i) (fun q i => (tLo2 1000009 q _ _ _ _ _ _ _ _ i).trans (by simp only [bif_or]; rfl)) (fun i hi => by
        have hi1 : i < G.length := by omega
        simp only [Int.toNat_natCast, e8, (rows_at0 g1 hi1).1, inside hi, List.all_cons, List.all_nil, id, Bool.and_self]) (fun i hi => by
        simp only [rows_oldn f1, rows_oldn g1, rows_oldn i1, List.all_cons, List.all_nil, id, Bool.and_self]) (any_rows (c := longG) (fun j hj => by
        simp only [Int.toNat_natCast, e8, (rows_at0 g1 hj).2]
        unfold longG gt
        simp only [Bool.or_assoc]) ng 0 (by omega))]
    rw [ref_step hni (L := fun q i => LLo3 1000009 q F.flatten G.flatten I.flatten nf ng ni k (nf : Int) (ng : Int) i) (fun q i => (tLo3 1000009 q _ _ _ _ _ _ _ _ _ i).trans (by simp only [bif_or]; rfl)) (fun i hi => by
        have hi1 : i < I.length := by omega
        simp only [Int.toNat_natCast, e3, (rows_at0 i1 hi1).1, inside hi, List.all_cons, List.all_nil, id, Bool.and_self]) (fun i hi => by
        simp only [rows_oldn f1, rows_oldn g1, rows_oldn i1, List.all_cons, List.all_nil, id, Bool.and_self]) (any_rows (c := longI) (fun j hj => by
        simp only [Int.toNat_natCast, e3, (rows_at0 i1 hj).2]
        unfold longI gt
        simp only [Bool.or_assoc]) ni 0 (by omega))]
    rw [List.drop_zero, List.drop_zero, List.drop_zero]
    unfold gt
    cases decide ((nf : Int) > k) <;> cases decide ((ng : Int) > k) <;> cases decide ((ni : Int) > k) <;> cases F.any longF <;> cases G.any longG <;> cases I.any longI <;> rfl
  · cases h

end Go.Proofs.Ytbhgibpdhmlamaa.Am
end

/- Rows as of the document; the rows of two, the same. -/
section
set_option linter.unusedVariables false
set_option linter.unusedSimpArgs false
set_option maxRecDepth 100000
set_option maxHeartbeats 8000000
namespace Go.Proofs.Ytbhgibpdhmlamaa.Am
open St

theorem tSame (N : Nat) (r s : Rw) : apartS EN TQ3 H0 N 5 15 [r.pv, s.pv] =
    (asks [oldL 0 r.fc, oldL 0 s.fc, Nat.beq 26 26 && (Nat.beq 26 26 && (rowsC KFr r.nf r.fc && rowsC KFr s.nf s.fc))] <|
      bif Nat.beq r.nf s.nf && eqRows eqFr r.F s.F then
      (asks [oldL 0 r.gc, oldL 0 s.gc, Nat.beq 10 10 && (Nat.beq 8 8 && (Nat.beq 8 8 && (rowsA KGr grOk r.ng r.gc && rowsA KGr grOk s.ng s.gc)))] <|
        bif Nat.beq r.ng s.ng && eqRows sameGr r.G s.G then
          (asks [oldL 0 r.ic, oldL 0 s.ic, Nat.beq 8 8 && (Nat.beq 3 3 && (Nat.beq 3 3 && (rowsA KFi fiOk r.ni r.ic && rowsA KFi fiOk s.ni s.ic)))] <|
            some (PV.bool (Nat.beq r.ni s.ni && eqRows sameFi r.I s.I)))
        else some (.bool false))
      else some (.bool false)) := by kernel_rfl

theorem rowsC_old {K : List Kd} {n : Nat} {c : List PV} (h : rowsC K n c = true) (j : Nat) : oldL j c = true := by
  obtain ⟨r1, r2, r3, r4⟩ := rowsC_ok h
  have := rows_oldn r2 j
  rwa [r3] at this
theorem rowsA_C {K : List Kd} {ok : List PV → Bool} {n : Nat} {c : List PV} (h : rowsA K ok n c = true) : rowsC K n c = true := by
  unfold rowsA at h
  simp only [Bool.and_eq_true] at h
  exact h.1
theorem Rw.ok_0 {r : Rw} (h : r.ok = true) : r.ok0 = true := by
  unfold Rw.ok at h
  unfold Rw.ok0
  simp only [Bool.and_eq_true] at h ⊢
  exact ⟨h.1, rowsA_C h.2.1, rowsA_C h.2.2⟩

theorem runPS (xs : List PV) (v : PV) (h : gSame xs = some (true, v)) : ∃ H, apartS EN TQ3 H 1000009 5 15 xs = some v := by
  obtain ⟨r, s, rfl, hk, rfl⟩ := two_rw h
  dsimp only at hk ⊢
  unfold Rw.ok at hk
  simp only [Bool.and_eq_true] at hk
  obtain ⟨⟨a1, a2, a3⟩, b1, b2, b3⟩ := hk
  refine ⟨H0, (tSame 1000009 r s).trans ?_⟩
  rw [asks_of (by simp only [rowsC_old a1, rowsC_old b1, a1, b1, Nat.beq_refl, List.all_cons, List.all_nil, id, Bool.and_self]),
    asks_of (by simp only [rowsC_old (rowsA_C a2), rowsC_old (rowsA_C b2), a2, b2, Nat.beq_refl, List.all_cons, List.all_nil, id, Bool.and_self]),
    asks_of (by simp only [rowsC_old (rowsA_C a3), rowsC_old (rowsA_C b3), a3, b3, Nat.beq_refl, List.all_cons, List.all_nil, id, Bool.and_self])]
  unfold Rw.same
  cases (Nat.beq r.nf s.nf && eqRows eqFr r.F s.F) <;> cases (Nat.beq r.ng s.ng && eqRows sameGr r.G s.G) <;> rfl

def accO (b : Bool) (cells : List PV) (es n : Nat) : Store := bif b then [.mem ⟨cells, es, n, false, false, false⟩] else []
def bx (cells : List PV) : Ob := .mem ⟨cells, 3, 1, true, false, true⟩
def nx (b : Bool) (n : Nat) : Nat := bif b then n + 1 else n
def grow (b : Bool) (ac : List PV) (k es : Nat) (row : List PV) (K : List PV → Nat → Option PV) : Option PV := match b with
  | true => asks [k == k && (decide (k ≤ 1048576) && (decide (1 ≤ 1048576) && decide (0 + k * es ≤ ac.length))), !decide (0 + k + 1 ≤ k)] (K (ac.take (k * es) ++ row) (k + 1))
  | false => K row 1

end Go.Proofs.Ytbhgibpdhmlamaa.Am
end

/- law22.Of: rows as of the document. -/
section
set_option linter.unusedVariables false
set_option linter.unusedSimpArgs false
set_option maxRecDepth 100000
set_option maxHeartbeats 8000000
namespace Go.Proofs.Ytbhgibpdhmlamaa.Am
open St

def nb (b : Bool) : Nat := bif b then 1 else 0
def ifb (b : Bool) (l : List Bool) : List Bool := bif b then l else []

def sealAsk (ac : List PV) (k es : Nat) : List Bool := [k == k && (decide (0 + k * es ≤ ac.length) && (decide (0 < es) && ((ac.drop 0).take (k * es)).all PV.calm))]
def sealC (b : Bool) (ac : List PV) (k es : Nat) : PV := bif b then .sl ((ac.drop 0).take (k * es)) es k none else .sl [] es 0 none

theorem calm_old : ∀ {xs : List PV}, oldL 0 xs = true → xs.all PV.calm = true
  | [], _ => rfl
  | x :: xs, h => by
    simp only [oldL, Bool.and_eq_true] at h
    rw [List.all_cons, calm_old h.2, Bool.and_true]
    cases x <;> first | rfl | (simp [oldV] at h)

theorem take_all (c : List PV) {n es : Nat} (h : c.length = n * es) : (c.drop 0).take (n * es) = c := by rw [List.drop_zero, ← h, List.take_length]

/-- What is sealed at the end. -/
theorem seal_ok {K : List Kd} {R : List (List PV)} (hR : rowsOk K R = true) (hk : 0 < K.length) :
    (ifb (!Nat.beq R.length 0) (sealAsk R.flatten R.length K.length)).all id = true ∧ (ifb (!Nat.beq R.length 0) [oldL 0 ((R.flatten.drop 0).take (R.length * K.length))]).all id = true ∧ sealC (!Nat.beq R.length 0) R.flatten R.length K.length = .sl R.flatten K.length R.length none := by
  have hl := rows_len hR
  have ho := rows_old hR
  unfold sealC sealAsk ifb
  rw [take_all _ hl]
  cases hb : Nat.beq R.length 0 with
  | true =>
    have := Nat.eq_of_beq_eq_true hb
    have := List.eq_nil_of_length_eq_zero this
    subst this
    exact ⟨rfl, rfl, rfl⟩
  | false =>
    refine ⟨?_, ?_, rfl⟩
    · simp only [Bool.not_false, cond_true, beq_self_eq_true, Bool.true_and, List.all_cons, List.all_nil, id, Bool.and_true, Bool.and_eq_true, decide_eq_true_eq]
      exact ⟨by omega, hk, calm_old ho⟩
    · simp only [Bool.not_false, cond_true, List.all_cons, List.all_nil, id, ho, Bool.and_true]

end Go.Proofs.Ytbhgibpdhmlamaa.Am
end

/- rules.copyTable; rules.Copy. -/
section
set_option linter.unusedVariables false
set_option linter.unusedSimpArgs false
set_option maxRecDepth 100000
set_option maxHeartbeats 8000000
namespace Go.Proofs.Ytbhgibpdhmlamaa.Am
open St

def gCT (xs : List PV) : Option (Bool × PV) := match xs with
  | [.agg x] => some (wk KTb x && okTb x 0, .agg x)
  | _ => none

theorem tCT (N : Nat) (s : Int) (c d : List PV) (n m : Nat) : apartS EN T0 H0 N 5 55 [.agg [vi s, .sl c 18 n none, .sl d 1 m none]] =
  (asks [oldL 2 c, decide (n ≤ 1048576) && c.all PV.oneCell] <|
    bif decide (n = 0) then
      (asks [oldL 2 d, decide (m ≤ 1048576) && d.all PV.oneCell] <|
        bif decide (m = 0) then some (.agg [vi s, .sl [] 18 0 none, .sl [] 1 0 none])
        else (asks (sealAsk d m 1) <| asks [oldL 0 ((d.drop 0).take (m * 1))] <| some (.agg [vi s, .sl [] 18 0 none, .sl ((d.drop 0).take (m * 1)) 1 m none])))
    else
      (asks [oldL 3 d, decide (m ≤ 1048576) && d.all PV.oneCell] <|
        bif decide (m = 0) then (asks (sealAsk c n 18) <| asks [oldL 0 ((c.drop 0).take (n * 18))] <| some (.agg [vi s, .sl ((c.drop 0).take (n * 18)) 18 n none, .sl [] 1 0 none]))
        else (asks (sealAsk c n 18) <| asks (sealAsk d m 1) <| asks [oldL 0 ((c.drop 0).take (n * 18)), oldL 0 ((d.drop 0).take (m * 1))] <| some (.agg [vi s, .sl ((c.drop 0).take (n * 18)) 18 n none, .sl ((d.drop 0).take (m * 1)) 1 m none])))) := by kernel_rfl

theorem okSl_len {K : List Kd} {x : PV} (h : okSl K x = true) : slLen x ≤ 1000000 ∧ (slCells x).length = slLen x * K.length ∧ (slCells x).all PV.oneCell = true ∧ (slCells x).all PV.calm = true := by
  obtain ⟨r1, r2, r3, r4⟩ := rowsC_ok h
  have hl := rows_len r2
  rw [r3, r4] at hl
  refine ⟨r1, hl, ?_, calm_old (okSl_old h)⟩
  rw [← r3]
  rw [List.all_flatten, List.all_eq_true]
  intro r hr
  exact wk_one (rowsOk_get r2 hr).1

theorem sealAsk_ok {c : List PV} {n es : Nat} (hl : c.length = n * es) (he : 0 < es) (hc : c.all PV.calm = true) : (sealAsk c n es).all id = true := by
  unfold sealAsk
  rw [take_all _ hl]
  simp only [beq_self_eq_true, Bool.true_and, List.all_cons, List.all_nil, id, Bool.and_true, Bool.and_eq_true, decide_eq_true_eq, hc]
  exact ⟨by omega, he⟩

theorem sl_nil {x : PV} {es : Nat} (hl : (slCells x).length = slLen x * es) (h : slLen x = 0) : slCells x = [] := List.eq_nil_of_length_eq_zero (by rw [hl, h, Nat.zero_mul])

theorem runCT (xs : List PV) (v : PV) (h : gCT xs = some (true, v)) : ∃ H, apartS EN T0 H 1000009 5 55 xs = some v := by
  unfold gCT at h
  split at h
  · rename_i x
    simp only [Option.some.injEq, Prod.mk.injEq, Bool.and_eq_true] at h
    obtain ⟨⟨h1, h2⟩, rfl⟩ := h
    unfold okTb at h2
    simp only [Bool.and_eq_true] at h2
    refine ⟨H0, ?_⟩
    have e := tb_of h1
    have o1 := okSl_old h2.1
    have o2 := okSl_old h2.2
    obtain ⟨l1, l2, l3, l4⟩ := okSl_len h2.1
    obtain ⟨m1, m2, m3, m4⟩ := okSl_len h2.2
    rw [show KPt.length = 18 from rfl] at l2
    rw [show KIn.length = 1 from rfl] at m2
    simp only [Nat.zero_add] at o1 o2 l1 l2 l3 l4 m1 m2 m3 m4
    have ht := tCT 1000009 (asI (x.getD 0 .nilp)) (slCells (x.getD 1 .nilp)) (slCells (x.getD 2 .nilp)) (slLen (x.getD 1 .nilp)) (slLen (x.getD 2 .nilp))
    rw [← e] at ht
    refine ht.trans ?_
    have A2 : ∀ k, (asks [oldL 2 (slCells (x.getD 2 .nilp)), decide (slLen (x.getD 2 .nilp) ≤ 1048576) && (slCells (x.getD 2 .nilp)).all PV.oneCell] k : Option PV) = k := fun k => asks_of (by simp only [oldL_le (Nat.zero_le 2) _ o2, m3, List.all_cons, List.all_nil, id, Bool.and_true, Bool.true_and, decide_eq_true_eq]; omega)
    have A3 : ∀ k, (asks [oldL 3 (slCells (x.getD 2 .nilp)), decide (slLen (x.getD 2 .nilp) ≤ 1048576) && (slCells (x.getD 2 .nilp)).all PV.oneCell] k : Option PV) = k := fun k => asks_of (by simp only [oldL_le (Nat.zero_le 3) _ o2, m3, List.all_cons, List.all_nil, id, Bool.and_true, Bool.true_and, decide_eq_true_eq]; omega)
    rw [asks_of (by simp only [oldL_le (Nat.zero_le 2) _ o1, l3, List.all_cons, List.all_nil, id, Bool.and_true, Bool.true_and, decide_eq_true_eq]; omega), A2, A3, take_all _ l2, take_all _ m2]
    by_cases hn : slLen (x.getD 1 .nilp) = 0
    · rw [cond_t (show decide (slLen (x.getD 1 .nilp) = 0) = true from by simpa using hn)]
      by_cases hm : slLen (x.getD 2 .nilp) = 0
      · rw [cond_t (show decide (slLen (x.getD 2 .nilp) = 0) = true from by simpa using hm)]
        rw [sl_nil l2 hn, sl_nil m2 hm, hn, hm] at e
        rw [← e]
      · rw [cond_f (show decide (slLen (x.getD 2 .nilp) = 0) = false from by simpa using hm), asks_of (sealAsk_ok m2 (by decide) m4), asks_of (by simp only [o2, List.all_cons, List.all_nil, id, Bool.and_true])]
        rw [sl_nil l2 hn, hn] at e
        rw [← e]
    · rw [cond_f (show decide (slLen (x.getD 1 .nilp) = 0) = false from by simpa using hn)]
      by_cases hm : slLen (x.getD 2 .nilp) = 0
      · rw [cond_t (show decide (slLen (x.getD 2 .nilp) = 0) = true from by simpa using hm), asks_of (sealAsk_ok l2 (by decide) l4), asks_of (by simp only [o1, List.all_cons, List.all_nil, id, Bool.and_true])]
        rw [sl_nil m2 hm, hm] at e
        rw [← e]
      · rw [cond_f (show decide (slLen (x.getD 2 .nilp) = 0) = false from by simpa using hm), asks_of (sealAsk_ok l2 (by decide) l4), asks_of (sealAsk_ok m2 (by decide) m4), asks_of (by simp only [o1, o2, List.all_cons, List.all_nil, id, Bool.and_true]), ← e]
  · cases h

/-- Copies of rows of cidrs, sealed: by contract. -/
def gCC (xs : List PV) : Option (Bool × PV) := match xs with
  | [.sl c e n none] => some (Nat.beq e 18 && rowsC KPt n c, .sl c 18 n none)
  | _ => none

theorem runCC (K : Nat) (xs : List PV) (v : PV) (h : gCC xs = some (true, v)) : apartA EN (runA EN 1000009 K) 56 xs = some v := by
  unfold gCC at h
  split at h
  · rename_i c e n
    simp only [Option.some.injEq, Prod.mk.injEq, Bool.and_eq_true] at h
    obtain ⟨⟨h1, h2⟩, rfl⟩ := h
    have h1 := Nat.eq_of_beq_eq_true h1
    have hk : okSl KPt (.sl c 18 n none) = true := h2
    obtain ⟨l1, l2, l3, l4⟩ := okSl_len hk
    have o := okSl_old hk
    have l1 : n ≤ 1000000 := l1
    have hp : EN.pure 56 [.sl c e n none] = some (.sl c 18 n none) := by
      rw [h1]
      show (if 18 = 18 ∧ n ≤ 1048576 ∧ c.length = n * 18 ∧ 0 < 18 ∧ c.all PV.oneCell = true ∧ c.all PV.calm = true ∧ oldL 0 c = true then some (PV.sl c 18 n none) else none) = _
      rw [if_pos ⟨rfl, by omega, l2, by decide, l3, l4, o⟩]
    unfold apartA
    rw [hp]
  · cases h

noncomputable def TCc : Table := Tadd (Tadd T0 55 gCT) 56 gCC
theorem TCcok : TR TCc := by
  obtain ⟨k, hk⟩ := TR0.add TR0 runCT
  exact ⟨k, Tadd_run hk (fun xs v h => runCC k xs v h)⟩

end Go.Proofs.Ytbhgibpdhmlamaa.Am
end

/- rules.Copy: rows apart; rules.Sort. -/
section
set_option linter.unusedVariables false
set_option linter.unusedSimpArgs false
set_option maxRecDepth 100000
set_option maxHeartbeats 8000000
namespace Go.Proofs.Ytbhgibpdhmlamaa.Am
open St

def cpP (b : Bool) (id es n : Nat) : PV := bif b then .osl id n 0 es n none else .sl [] es 0 (some 0)
def cpS (r : Rw) (bf bg bi : Bool) : List (Nat × PV) := [(0, r.pv), (1, .ptr 0 1 0), (2, .ptr 1 1 0), (3, .ptr (nx bi (nx bg (nx bf 2))) 1 0), (6, .ptr 0 1 0), (7, .sl r.fc 26 r.nf none), (8, cpP bf 2 26 r.nf), (9, .ptr 0 1 1), (10, .sl r.gc 8 r.ng none), (11, cpP bg (nx bf 2) 8 r.ng), (12, .ptr 0 1 2), (13, .sl r.ic 3 r.ni none), (14, cpP bi (nx bg (nx bf 2)) 3 r.ni), (15, .agg [cpP bf 2 26 r.nf, cpP bg (nx bf 2) 8 r.ng, cpP bi (nx bg (nx bf 2)) 3 r.ni]), (16, .ptr (nx bi (nx bg (nx bf 2))) 1 1), (17, cpP bg (nx bf 2) 8 r.ng), (18, .int .i64 (((bif bg then r.ng else 0 : Nat)) : Int))]
def cpO (r : Rw) (bf bg bi : Bool) (gc ic : List PV) : Store := [bx r.pv.cells, bx [.nils, .nils, .nils]] ++ (accO bf r.fc 26 r.nf ++ (accO bg gc 8 r.ng ++ (accO bi ic 3 r.ni ++ [bx [cpP bf 2 26 r.nf, cpP bg (nx bf 2) 8 r.ng, cpP bi (nx bg (nx bf 2)) 3 r.ni]])))
noncomputable def LC1 (N m : Nat) (r : Rw) (bf bg bi : Bool) (i : Int) (gc : List PV) : Option PV := loopSF EN TCc H0 N 5 0 32 Try.f32 [1, 1, 0, 1, 0] (patOf (sparse 55 0 ([(0, .nils), (1, .nils), (2, .nils), (3, .nils), (6, .nils), (7, .nils), (8, .nils), (9, .nils), (10, .nils), (11, .nils), (12, .nils), (13, .nils), (14, .nils), (15, .nils), (16, .nils), (17, .nils), (18, .nils), (19, .nils)]))) (nx bi (nx bg (nx bf 3))) m (sparse 55 0 (cpS r bf bg bi ++ [(19, vI i)])) (cpO r bf bg bi gc r.ic)
noncomputable def LC2 (N m : Nat) (r : Rw) (bf bg bi : Bool) (e1 : Int) (gc : List PV) (i : Int) (ic : List PV) : Option PV := loopSF EN TCc H0 N 5 0 32 Try.f32 [1, 1, 1, 0, 1, 0] (patOf (sparse 55 0 ([(0, .nils), (1, .nils), (2, .nils), (3, .nils), (6, .nils), (7, .nils), (8, .nils), (9, .nils), (10, .nils), (11, .nils), (12, .nils), (13, .nils), (14, .nils), (15, .nils), (16, .nils), (17, .nils), (18, .nils), (19, .nils), (20, .nils), (35, .nils), (36, .nils), (37, .nils), (38, .nils)]))) (nx bi (nx bg (nx bf 3))) m (sparse 55 0 (cpS r bf bg bi ++ [(19, vI e1), (20, .bool false), (35, .ptr (nx bi (nx bg (nx bf 2))) 1 2), (36, cpP bi (nx bg (nx bf 2)) 3 r.ni), (37, .int .i64 (((bif bi then r.ni else 0 : Nat)) : Int)), (38, vI i)])) (cpO r bf bg bi gc ic)

def clB (n : Nat) (k : Bool → Option PV) : Option PV := bif decide (n = 0) then k false else k true

theorem tC0 (N : Nat) (r : Rw) : footSR EN TCc H0 N 5 32 [r.pv, encS []] =
  (asks [oldL 2 r.fc, decide (r.nf ≤ 1048576) && r.fc.all PV.oneCell] <| clB r.nf fun bf =>
   asks [oldL (2 + nb bf) r.gc, decide (r.ng ≤ 1048576) && r.gc.all PV.oneCell] <| clB r.ng fun bg =>
   asks [oldL (2 + nb bf + nb bg) r.ic, decide (r.ni ≤ 1048576) && r.ic.all PV.oneCell] <| clB r.ni fun bi =>
   LC1 N N r bf bg bi 0 r.gc) := by kernel_rfl

theorem tC1 (N m : Nat) (r : Rw) (bf bi : Bool) (i : Int) (gc : List PV) : LC1 N (m + 1) r bf true bi i gc =
  (bif decide (i < (r.ng : Int)) then
    (asks [decide (0 ≤ i) && decide (i < (r.ng : Int)), r.ng == r.ng, okAt KTb gc (0 + i.toNat * 8 + 5), oldL (nx bi (nx true (nx bf 3))) (slCells ((shapeAt KTb gc (0 + i.toNat * 8 + 5)).getD 1 .nilp)), oldL (nx bi (nx true (nx bf 3))) (slCells ((shapeAt KTb gc (0 + i.toNat * 8 + 5)).getD 2 .nilp)), oldL 0 (slCells ((shapeAt KTb gc (0 + i.toNat * 8 + 5)).getD 1 .nilp)), oldL 0 (slCells ((shapeAt KTb gc (0 + i.toNat * 8 + 5)).getD 2 .nilp)), wk KTb (shapeAt KTb gc (0 + i.toNat * 8 + 5)) && okTb (shapeAt KTb gc (0 + i.toNat * 8 + 5)) 0, decide (0 ≤ i) && decide (i < (r.ng : Int)), r.ng == r.ng && (3 == 3 && (decide (0 + i.toNat * 8 + 5 + 3 ≤ gc.length) && (shapeAt KTb gc (0 + i.toNat * 8 + 5)).all PV.oneCell))] <|
    asks [oldL (nx bi (nx true (nx bf 3))) r.fc, oldL (nx bi (nx true (nx bf 3))) r.gc, oldL (nx bi (nx true (nx bf 3))) r.ic, oldL (nx bi (nx true (nx bf 3))) r.fc, oldL (nx bi (nx true (nx bf 3))) r.gc, oldL (nx bi (nx true (nx bf 3))) r.ic, oldL (nx bi (nx true (nx bf 3))) r.fc, oldL (nx bi (nx true (nx bf 3))) r.gc, oldL (nx bi (nx true (nx bf 3))) r.ic] <|
    asks (ifb bf [oldL 0 r.fc]) <| asks [oldL 0 (splice gc (0 + i.toNat * 8 + 5) (shapeAt KTb gc (0 + i.toNat * 8 + 5)))] <| asks (ifb bi [oldL 0 r.ic]) <|
    LC1 N m r bf true bi (IntKind.i64.wrap (i + 1)) (splice gc (0 + i.toNat * 8 + 5) (shapeAt KTb gc (0 + i.toNat * 8 + 5))))
  else LC2 N N r bf true bi i gc 0 r.ic) := by cases bf <;> cases bi <;> kernel_rfl

theorem tC1n (N m : Nat) (r : Rw) (bf bi : Bool) (gc : List PV) : LC1 N (m + 1) r bf false bi 0 gc = LC2 N N r bf false bi 0 gc 0 r.ic := by cases bf <;> cases bi <;> kernel_rfl

def cpQ (b : Bool) (id es n : Nat) : PV := bif b then .osl id n 0 es n none else .sl [] es 0 none
def cpV (r : Rw) (bf bg bi : Bool) : PV := .agg [cpQ bf 0 26 r.nf, cpQ bg (nb bf) 8 r.ng, cpQ bi (nb bf + nb bg) 3 r.ni]
def cpA (r : Rw) (bf bg bi : Bool) (gc ic : List PV) : PV := .tup [cpV r bf bg bi, encS (accO bf r.fc 26 r.nf ++ (accO bg gc 8 r.ng ++ accO bi ic 3 r.ni))]

def KCi : List Kd := [.sl 18]
theorem tC2 (N m : Nat) (r : Rw) (bf bg : Bool) (e1 : Int) (gc : List PV) (i : Int) (ic : List PV) : LC2 N (m + 1) r bf bg true e1 gc i ic =
  (bif decide (i < (r.ni : Int)) then
    (asks [decide (0 ≤ i) && decide (i < (r.ni : Int)), r.ni == r.ni, okAt KCi ic (0 + i.toNat * 3 + 2), oldL (nx true (nx bg (nx bf 3))) (slCells ((shapeAt KCi ic (0 + i.toNat * 3 + 2)).getD 0 .nilp)), oldL 0 (slCells ((shapeAt KCi ic (0 + i.toNat * 3 + 2)).getD 0 .nilp)), Nat.beq 18 18 && rowsC KPt (slLen ((shapeAt KCi ic (0 + i.toNat * 3 + 2)).getD 0 .nilp)) (slCells ((shapeAt KCi ic (0 + i.toNat * 3 + 2)).getD 0 .nilp)), decide (0 ≤ i) && decide (i < (r.ni : Int)), r.ni == r.ni && (1 == 1 && (decide (0 + i.toNat * 3 + 2 + 1 ≤ ic.length) && (shapeAt KCi ic (0 + i.toNat * 3 + 2)).all PV.oneCell))] <|
    asks [oldL (nx true (nx bg (nx bf 3))) r.fc, oldL (nx true (nx bg (nx bf 3))) r.gc, oldL (nx true (nx bg (nx bf 3))) r.ic, oldL (nx true (nx bg (nx bf 3))) r.fc, oldL (nx true (nx bg (nx bf 3))) r.gc, oldL (nx true (nx bg (nx bf 3))) r.ic, oldL (nx true (nx bg (nx bf 3))) r.fc, oldL (nx true (nx bg (nx bf 3))) r.gc, oldL (nx true (nx bg (nx bf 3))) r.ic] <|
    asks (ifb bf [oldL 0 r.fc]) <| asks (ifb bg [oldL 0 gc]) <| asks [oldL 0 (splice ic (0 + i.toNat * 3 + 2) (shapeAt KCi ic (0 + i.toNat * 3 + 2)))] <|
    LC2 N m r bf bg true e1 gc (IntKind.i64.wrap (i + 1)) (splice ic (0 + i.toNat * 3 + 2) (shapeAt KCi ic (0 + i.toNat * 3 + 2))))
  else (asks (ifb bf [oldL 0 r.fc]) <| asks (ifb bg [oldL 0 gc]) <| asks [oldL 0 ic] <| some (cpA r bf bg true gc ic))) := by cases bf <;> cases bg <;> kernel_rfl

theorem tC2n (N m : Nat) (r : Rw) (bf bg : Bool) (e1 : Int) (gc : List PV) (ic : List PV) : LC2 N (m + 1) r bf bg false e1 gc 0 ic =
  (asks (ifb bf [oldL 0 r.fc]) <| asks (ifb bg [oldL 0 gc]) <| some (cpA r bf bg false gc ic)) := by cases bf <;> cases bg <;> kernel_rfl

theorem wk_drop : ∀ (p : Nat) {K : List Kd} {r : List PV}, wk K r = true → wk (K.drop p) (r.drop p) = true
  | 0, K, r, h => h
  | p + 1, [], [], h => rfl
  | p + 1, [], _ :: _, h => by cases h
  | p + 1, _ :: _, [], h => by cases h
  | p + 1, k :: K, x :: r, h => by
    simp only [wk, Bool.and_eq_true] at h
    exact wk_drop p h.2

/-- A part of a row, from a place on. -/
theorem part_at {K : List Kd} {R : List (List PV)} (hR : rowsOk K R = true) {j : Nat} (hj : j < R.length) (p : Nat) (hp : p ≤ K.length) :
    okAt (K.drop p) R.flatten (0 + j * K.length + p) = true ∧ shapeAt (K.drop p) R.flatten (0 + j * K.length + p) = R[j].drop p ∧ splice R.flatten (0 + j * K.length + p) (R[j].drop p) = R.flatten := by
  obtain ⟨h1, h2⟩ := rows_split hR hj
  have hw := (rowsOk_get hR (List.getElem_mem hj)).1
  have hl := wk_len hw
  have hq := wk_at ((R.take j).flatten ++ R[j].take p) (R.drop (j + 1)).flatten (wk_drop p hw)
  have e1 : ((R.take j).flatten ++ R[j].take p).length = 0 + j * K.length + p := by rw [List.length_append, h2, List.length_take]; omega
  have e2 : ((R.take j).flatten ++ R[j].take p) ++ (R[j].drop p ++ (R.drop (j + 1)).flatten) = R.flatten := by
    rw [h1, List.append_assoc, ← List.append_assoc (R[j].take p), List.take_append_drop]
  rw [e1, e2] at hq
  refine ⟨hq.1, hq.2, ?_⟩
  unfold splice
  rw [← e1]
  generalize (R.take j).flatten ++ R[j].take p = A at e2 ⊢
  have e3 : (A ++ (R[j].drop p ++ (R.drop (j + 1)).flatten)).drop (A.length + (R[j].drop p).length) = (R.drop (j + 1)).flatten := by
    rw [← List.append_assoc, ← List.length_append, List.drop_left]
  rw [← e2, List.take_left, e3]

theorem getD_drop {x : List PV} (p k : Nat) : (x.drop p).getD k .nilp = x.getD (p + k) .nilp := by
  rw [List.getD_eq_getElem?_getD, List.getD_eq_getElem?_getD, List.getElem?_drop]

theorem okTb_drop {x : List PV} (h : okTb x 5 = true) : okTb (x.drop 5) 0 = true := by
  unfold okTb at h ⊢
  rw [getD_drop, getD_drop]
  exact h

theorem flat_len {K : List Kd} {R : List (List PV)} (hR : rowsOk K R = true) {j : Nat} (hj : j < R.length) : 0 + j * K.length + K.length ≤ R.flatten.length := by
  rw [rows_len hR]
  have := Nat.mul_le_mul_right K.length (show j + 1 ≤ R.length from hj)
  rw [Nat.add_mul, Nat.one_mul] at this
  omega

structure Rw.Lists (r : Rw) (F G I : List (List PV)) : Prop where
  f : rowsOk KFr F = true
  g : rowsOk KGr G = true
  i : rowsOk KFi I = true
  fc : F.flatten = r.fc
  gc : G.flatten = r.gc
  ic : I.flatten = r.ic
  nf : F.length = r.nf
  ng : G.length = r.ng
  ni : I.length = r.ni
  mf : r.nf ≤ 1000000
  mg : r.ng ≤ 1000000
  mi : r.ni ≤ 1000000
  gk : ∀ x ∈ G, grOk x = true
  ik : ∀ x ∈ I, fiOk x = true
  ef : r.F = F
  eg : r.G = G
  ei : r.I = I

theorem Rw.lists {r : Rw} (h : r.ok = true) : r.Lists r.F r.G r.I := by
  unfold Rw.ok at h
  simp only [Bool.and_eq_true] at h
  obtain ⟨a1, a2, a3⟩ := h
  obtain ⟨m1, f1, f2, f3⟩ := rowsC_ok a1
  obtain ⟨m2, G, g1, g2, g3, g4, g5⟩ := rowsA_ok a2
  obtain ⟨m3, I, i1, i2, i3, i4, i5⟩ := rowsA_ok a3
  have e1 : r.G = G := g4
  have e2 : r.I = I := i4
  rw [e1, e2]
  exact ⟨f1, g1, i1, f2, g2, i2, f3, g3, i3, m1, m2, m3, g5, i5, rfl, e1, e2⟩

theorem one_flat {K : List Kd} {R : List (List PV)} (hR : rowsOk K R = true) : R.flatten.all PV.oneCell = true := by
  rw [List.all_flatten, List.all_eq_true]
  intro r hr
  exact wk_one (rowsOk_get hR hr).1

theorem cp_g {N : Nat} {r : Rw} {F G I : List (List PV)} (h : r.Lists F G I) (bf bi : Bool) : ∀ (k i m : Nat), i + k = r.ng → LC1 N (m + k + 1) r bf true bi (i : Int) r.gc = LC2 N N r bf true bi (r.ng : Int) r.gc 0 r.ic
  | 0, i, m, hk => by
    rw [tC1, cond_f (show decide ((i : Int) < (r.ng : Int)) = false from by simp; omega), show (i : Int) = (r.ng : Int) from by omega]
  | k + 1, i, m, hk => by
    have hi : i < G.length := by rw [h.ng]; omega
    have hp := part_at h.g hi 5 (by decide)
    have hg := h.gk _ (List.getElem_mem hi)
    unfold grOk at hg
    simp only [Bool.and_eq_true] at hg
    have hw := wk_drop 5 hg.1
    have hl := flat_len h.g hi
    have fo := rows_oldn h.f
    have go := rows_oldn h.g
    have io := rows_oldn h.i
    rw [h.gc] at hp hl go
    rw [h.fc] at fo
    rw [h.ic] at io
    rw [show KGr.length = 8 from rfl] at hp hl
    rw [show KGr.drop 5 = KTb from rfl] at hp hw
    rw [show m + (k + 1) + 1 = (m + k + 1) + 1 from by omega, tC1, cond_t (show decide ((i : Int) < (r.ng : Int)) = true from by simp; omega)]
    simp only [Int.toNat_natCast, hp.2.1, hp.2.2]
    rw [asks_of (by
      simp only [hp.1, getD_drop, row_cell h.g hi, inside (show i < r.ng by omega), hw, okTb_drop hg.2, wk_one hw, beq_self_eq_true, List.all_cons, List.all_nil, id, Bool.and_true, Bool.true_and, decide_eq_true_eq]
      omega), asks_of (by simp only [fo, go, io, List.all_cons, List.all_nil, id, Bool.and_true]), asks_of (by unfold ifb; cases bf <;> simp [fo]), asks_of (by simp [go]), asks_of (by unfold ifb; cases bi <;> simp [io]), wrap_succ (by have := h.mg; omega : i < 9223372036854775807)]
    exact cp_g h bf bi k (i + 1) m (by omega)

theorem cp_i {N : Nat} {r : Rw} {F G I : List (List PV)} (h : r.Lists F G I) (bf bg : Bool) (e1 : Int) : ∀ (k i m : Nat), i + k = r.ni → LC2 N (m + k + 1) r bf bg true e1 r.gc (i : Int) r.ic = some (cpA r bf bg true r.gc r.ic)
  | 0, i, m, hk => by
    have fo := rows_oldn h.f
    have go := rows_oldn h.g
    have io := rows_oldn h.i
    rw [h.gc] at go
    rw [h.fc] at fo
    rw [h.ic] at io
    rw [tC2, cond_f (show decide ((i : Int) < (r.ni : Int)) = false from by simp; omega), asks_of (by unfold ifb; cases bf <;> simp [fo]), asks_of (by unfold ifb; cases bg <;> simp [go]), asks_of (by simp [io])]
  | k + 1, i, m, hk => by
    have hi : i < I.length := by rw [h.ni]; omega
    have hp := part_at h.i hi 2 (by decide)
    have hg := h.ik _ (List.getElem_mem hi)
    unfold fiOk at hg
    simp only [Bool.and_eq_true] at hg
    have hw := wk_drop 2 hg.1
    have hl := flat_len h.i hi
    have fo := rows_oldn h.f
    have go := rows_oldn h.g
    have io := rows_oldn h.i
    rw [h.ic] at hp hl io
    rw [h.fc] at fo
    rw [h.gc] at go
    rw [show KFi.length = 3 from rfl] at hp hl
    rw [show KFi.drop 2 = KCi from rfl] at hp hw
    have hok : rowsC KPt (slLen (I[i].getD 2 .nilp)) (slCells (I[i].getD 2 .nilp)) = true := hg.2
    rw [show m + (k + 1) + 1 = (m + k + 1) + 1 from by omega, tC2, cond_t (show decide ((i : Int) < (r.ni : Int)) = true from by simp; omega)]
    simp only [Int.toNat_natCast, hp.2.1, hp.2.2]
    rw [asks_of (by
      simp only [hp.1, getD_drop, Nat.add_zero, row_cell h.i hi, inside (show i < r.ni by omega), hok, wk_one hw, Nat.beq_refl, beq_self_eq_true, List.all_cons, List.all_nil, id, Bool.and_true, Bool.true_and, decide_eq_true_eq]
      omega), asks_of (by simp only [fo, go, io, List.all_cons, List.all_nil, id, Bool.and_true]), asks_of (by unfold ifb; cases bf <;> simp [fo]), asks_of (by unfold ifb; cases bg <;> simp [go]), asks_of (by simp [io]), wrap_succ (by have := h.mi; omega : i < 9223372036854775807)]
    exact cp_i h bf bg e1 k (i + 1) m (by omega)

def cpTr (r : Rw) : Tr :=
  .br (decide (r.nf = 0))
    (.br (decide (r.ng = 0)) (.br (decide (r.ni = 0)) (.leaf r.ok (cpA r false false false r.gc r.ic)) (.leaf r.ok (cpA r false false true r.gc r.ic))) (.br (decide (r.ni = 0)) (.leaf r.ok (cpA r false true false r.gc r.ic)) (.leaf r.ok (cpA r false true true r.gc r.ic))))
    (.br (decide (r.ng = 0)) (.br (decide (r.ni = 0)) (.leaf r.ok (cpA r true false false r.gc r.ic)) (.leaf r.ok (cpA r true false true r.gc r.ic))) (.br (decide (r.ni = 0)) (.leaf r.ok (cpA r true true false r.gc r.ic)) (.leaf r.ok (cpA r true true true r.gc r.ic))))

theorem cpTr_val {r : Rw} {v : PV} (h : (cpTr r).val = some v) : r.ok = true ∧ v = cpA r (!decide (r.nf = 0)) (!decide (r.ng = 0)) (!decide (r.ni = 0)) r.gc r.ic := by
  unfold cpTr Tr.val at h
  cases h1 : decide (r.nf = 0) <;> cases h2 : decide (r.ng = 0) <;> cases h3 : decide (r.ni = 0) <;> rw [h1, h2, h3] at h <;> simp only [cond_true, cond_false, Tr.val] at h <;>
    (cases hk : r.ok with
     | false => rw [hk] at h; cases h
     | true => rw [hk] at h; cases h; exact ⟨rfl, rfl⟩)

def gCp (xs : List PV) : Option Tr := match xs with
  | [x, .tup []] => (asRw x).map cpTr
  | _ => none

theorem clB_of {n : Nat} (k : Bool → Option PV) : clB n k = k (!decide (n = 0)) := by
  unfold clB
  cases decide (n = 0) <;> rfl

theorem runCp (xs : List PV) (t : Tr) (v : PV) (hg : gCp xs = some t) (hv : t.val = some v) : ∃ H, footSR EN TCc H 1000009 5 32 xs = some v := by
  unfold gCp at hg
  split at hg
  · rename_i x
    simp only [Option.map_eq_some_iff] at hg
    obtain ⟨r, hr, rfl⟩ := hg
    rw [asRw_ok hr]
    obtain ⟨hk, rfl⟩ := cpTr_val hv
    refine ⟨H0, (tC0 1000009 r).trans ?_⟩
    have h := Rw.lists hk
    have fo := rows_oldn h.f
    have go := rows_oldn h.g
    have io := rows_oldn h.i
    have f1 := one_flat h.f
    have g1 := one_flat h.g
    have i1 := one_flat h.i
    rw [h.fc] at fo f1
    rw [h.gc] at go g1
    rw [h.ic] at io i1
    have mf := h.mf
    have mg := h.mg
    have mi := h.mi
    rw [asks_of (by simp only [fo, f1, List.all_cons, List.all_nil, id, Bool.and_true, Bool.true_and, decide_eq_true_eq]; omega), clB_of, asks_of (by simp only [go, g1, List.all_cons, List.all_nil, id, Bool.and_true, Bool.true_and, decide_eq_true_eq]; omega), clB_of, asks_of (by simp only [io, i1, List.all_cons, List.all_nil, id, Bool.and_true, Bool.true_and, decide_eq_true_eq]; omega), clB_of]
    generalize (!decide (r.nf = 0)) = bf
    have step2 : ∀ bg e1, LC2 1000009 1000009 r bf bg (!decide (r.ni = 0)) e1 r.gc 0 r.ic = some (cpA r bf bg (!decide (r.ni = 0)) r.gc r.ic) := by
      intro bg e1
      by_cases h0 : r.ni = 0
      · rw [show (!decide (r.ni = 0)) = false from by simpa using h0, show (1000009 : Nat) = 1000008 + 1 from rfl, tC2n, asks_of (by unfold ifb; cases bf <;> simp [fo]), asks_of (by unfold ifb; cases bg <;> simp [go])]
      · rw [show (!decide (r.ni = 0)) = true from by simpa using h0]
        have := cp_i (N := 1000009) h bf bg e1 r.ni 0 (1000008 - r.ni) (by omega)
        rw [show 1000008 - r.ni + r.ni + 1 = 1000009 from by omega] at this
        exact this
    by_cases h0 : r.ng = 0
    · rw [show (!decide (r.ng = 0)) = false from by simpa using h0]
      have := tC1n 1000009 1000008 r bf (!decide (r.ni = 0)) r.gc
      rw [this, step2]
    · rw [show (!decide (r.ng = 0)) = true from by simpa using h0]
      have := cp_g (N := 1000009) h bf (!decide (r.ni = 0)) r.ng 0 (1000008 - r.ng) (by omega)
      rw [show 1000008 - r.ng + r.ng + 1 = 1000009 from by omega] at this
      exact this.trans (step2 _ _)
  · cases hg

theorem okCp : TR (TaddT T0 32 gCp) := TR0.addF TCcok runCp

end Go.Proofs.Ytbhgibpdhmlamaa.Am
end

/- rules.Sort: rows in order. -/
section
set_option linter.unusedVariables false
set_option linter.unusedSimpArgs false
set_option maxRecDepth 100000
set_option maxHeartbeats 8000000
namespace Go.Proofs.Ytbhgibpdhmlamaa.Am
open St

/-- A sort of no element, too. -/
def gSoN (es g : Nat) (g0 : List PV → Option Tr) (xs : List PV) : Option Tr := match xs with
  | [.sl [] e 0 none, .fn (.func g') [] [], .tup []] => some (.leaf (Nat.beq e es && Nat.beq g' g) (.tup [.tup [], .tup []]))
  | xs => g0 xs

theorem nSoF (N : Nat) : footSR EN (SF.TSt2F cFr) H0 (N + 50) 5 39 [.sl [] 26 0 none, SF.cmpF, .tup []] = some (.tup [.tup [], .tup []]) := by kernel_rfl
theorem nSoG (N : Nat) : footSR EN (SG.TSt2F cGi) H0 (N + 50) 5 41 [.sl [] 8 0 none, SG.cmpF, .tup []] = some (.tup [.tup [], .tup []]) := by kernel_rfl
theorem nSoI (N : Nat) : footSR EN (SI.TSt2F cKy) H0 (N + 50) 5 43 [.sl [] 3 0 none, SI.cmpF, .tup []] = some (.tup [.tup [], .tup []]) := by kernel_rfl

theorem runSoN {f es g : Nat} {g0 : List PV → Option Tr} {T : Table} (hn : footSR EN T H0 1000009 5 f [.sl [] es 0 none, .fn (.func g) [] [], .tup []] = some (.tup [.tup [], .tup []])) (h0 : ∀ xs t v, g0 xs = some t → t.val = some v → ∃ H, footSR EN T H 1000009 5 f xs = some v)
    (xs : List PV) (t : Tr) (v : PV) (hg : gSoN es g g0 xs = some t) (hv : t.val = some v) : ∃ H, footSR EN T H 1000009 5 f xs = some v := by
  unfold gSoN at hg
  split at hg
  · rename_i e g'
    cases hg
    obtain ⟨hc, rfl⟩ := leaf_val hv
    simp only [Bool.and_eq_true] at hc
    rw [Nat.eq_of_beq_eq_true hc.1, Nat.eq_of_beq_eq_true hc.2]
    exact ⟨H0, hn⟩
  · exact h0 _ t v hg hv

def gSF : List PV → Option Tr := gSoN 26 40 (SF.gSoF cFr)
def gSG : List PV → Option Tr := gSoN 8 42 (SG.gSoF cGi)
def gSI : List PV → Option Tr := gSoN 3 44 (SI.gSoF cKy)
def TSort : Table := TaddT (TaddT (TaddT (TaddT T0 32 gCp) 39 gSF) 41 gSG) 43 gSI
theorem TSortok : TR TSort := ((okCp.addF okStF (runSoN (nSoF 999959) (SF.runSoF cFr))).addF okStG (runSoN (nSoG 999959) (SG.runSoF cGi))).addF okStI (runSoN (nSoI 999959) (SI.runSoF cKy))

def Rw.so (r : Rw) : Rw := ⟨r.nf, (insAll (ltOf cFr) r.F).flatten, r.ng, (insAll (ltOf cGi) r.G).flatten, r.ni, (insAll (ltOf cKy) r.I).flatten⟩
def sortT (r : Rw) (bf bg bi : Bool) : Option PV :=
  asks [r.ok] <| asks (ifb bf [oldL 0 r.fc]) <| asks (ifb bg [oldL 0 r.gc]) <| asks (ifb bi [oldL 0 r.ic]) <|
  asks (ifb bf [oldL 0 r.fc, r.nf == r.nf && (r.nf == r.nf && rowsC KFr r.nf r.fc), oldL 0 r.so.fc]) <|
  asks (ifb bg [oldL 0 r.gc, r.ng == r.ng && (r.ng == r.ng && rowsC KGr r.ng r.gc), oldL 0 r.so.gc]) <|
  asks (ifb bi [oldL 0 r.ic, r.ni == r.ni && (r.ni == r.ni && rowsC KFi r.ni r.ic), oldL 0 r.so.ic]) <|
  asks (ifb bf (sealAsk r.so.fc r.nf 26)) <| asks (ifb bg (sealAsk r.so.gc r.ng 8)) <| asks (ifb bi (sealAsk r.so.ic r.ni 3)) <|
  asks (ifb bf [oldL 0 ((r.so.fc.drop 0).take (r.nf * 26))]) <| asks (ifb bg [oldL 0 ((r.so.gc.drop 0).take (r.ng * 8))]) <| asks (ifb bi [oldL 0 ((r.so.ic.drop 0).take (r.ni * 3))]) <|
  some (.agg [sealC bf r.so.fc r.nf 26, sealC bg r.so.gc r.ng 8, sealC bi r.so.ic r.ni 3])

theorem tSort (N : Nat) (r : Rw) : apartS EN TSort H0 N 5 19 [r.pv] = (asks [oldL 0 r.fc, oldL 0 r.gc, oldL 0 r.ic] <| clB r.nf fun bf => clB r.ng fun bg => clB r.ni fun bi => sortT r bf bg bi) := by kernel_rfl

def gSort (xs : List PV) : Option (Bool × PV) := match xs with
  | [x] => (asRw x).map fun r => (r.ok, r.so.pv)
  | _ => none

theorem rows_ins {K : List Kd} {lt : List PV → List PV → Bool} {R : List (List PV)} (h : rowsOk K R = true) : rowsOk K (insAll lt R) = true := rows_insAll h

theorem nob {n : Nat} : (!decide (n = 0)) = !Nat.beq n 0 := by cases n <;> rfl

theorem runSort (xs : List PV) (v : PV) (h : gSort xs = some (true, v)) : ∃ H, apartS EN TSort H 1000009 5 19 xs = some v := by
  unfold gSort at h
  split at h
  · rename_i x
    simp only [Option.map_eq_some_iff, Prod.mk.injEq] at h
    obtain ⟨r, hr, hk, rfl⟩ := h
    rw [asRw_ok hr]
    refine ⟨H0, (tSort 1000009 r).trans ?_⟩
    have h := Rw.lists hk
    have fo := rows_oldn h.f
    have go := rows_oldn h.g
    have io := rows_oldn h.i
    rw [h.fc] at fo
    rw [h.gc] at go
    rw [h.ic] at io
    have hC := Rw.ok_0 hk
    unfold Rw.ok0 at hC
    simp only [Bool.and_eq_true] at hC
    obtain ⟨c1, c2, c3⟩ := hC
    have sf := rows_ins (lt := ltOf cFr) h.f
    have sg := rows_ins (lt := ltOf cGi) h.g
    have si := rows_ins (lt := ltOf cKy) h.i
    have lf : (insAll (ltOf cFr) r.F).length = r.nf := by rw [insAll_len, h.nf]
    have lg : (insAll (ltOf cGi) r.G).length = r.ng := by rw [insAll_len, h.ng]
    have li : (insAll (ltOf cKy) r.I).length = r.ni := by rw [insAll_len, h.ni]
    obtain ⟨s1, s2, s3⟩ := seal_ok sf (by decide)
    obtain ⟨s4, s5, s6⟩ := seal_ok sg (by decide)
    obtain ⟨s7, s8, s9⟩ := seal_ok si (by decide)
    rw [lf] at s1 s2 s3
    rw [lg] at s4 s5 s6
    rw [li] at s7 s8 s9
    have of := rows_oldn sf 0
    have og := rows_oldn sg 0
    have oi := rows_oldn si 0
    rw [asks_of (by simp only [fo, go, io, List.all_cons, List.all_nil, id, Bool.and_true]), clB_of, clB_of, clB_of, nob, nob, nob]
    unfold sortT
    rw [asks_of (by simp only [hk, List.all_cons, List.all_nil, id, Bool.and_true]), asks_of (by unfold ifb; cases Nat.beq r.nf 0 <;> simp [fo]), asks_of (by unfold ifb; cases Nat.beq r.ng 0 <;> simp [go]), asks_of (by unfold ifb; cases Nat.beq r.ni 0 <;> simp [io]),
      asks_of (by unfold ifb Rw.so; cases Nat.beq r.nf 0 <;> simp [fo, c1, of]), asks_of (by unfold ifb Rw.so; cases Nat.beq r.ng 0 <;> simp [go, c2, og]), asks_of (by unfold ifb Rw.so; cases Nat.beq r.ni 0 <;> simp [io, c3, oi])]
    unfold Rw.so
    dsimp only
    rw [show (26 : Nat) = KFr.length from rfl, show (8 : Nat) = KGr.length from rfl, show (3 : Nat) = KFi.length from rfl]
    rw [asks_of s1, asks_of s4, asks_of s7, asks_of s2, asks_of s5, asks_of s8, s3, s6, s9]
    rfl
  · cases h

theorem okSort : TR (Tadd T0 19 gSort) := TR0.add TSortok runSort

end Go.Proofs.Ytbhgibpdhmlamaa.Am
end

/- rules.Join: all rows, in order. -/
section
set_option linter.unusedVariables false
set_option linter.unusedSimpArgs false
set_option maxRecDepth 100000
set_option maxHeartbeats 8000000
namespace Go.Proofs.Ytbhgibpdhmlamaa.Am
open St

def HJo : FuncId → Hint := fun f t => bif Nat.beq f 13 && (Nat.beq t 16 || (Nat.beq t 22 || Nat.beq t 28)) then [none, some false] else []
def accZ (b z : Bool) (id es n : Nat) : PV := bif b then .osl id n 0 es n none else (bif z then .nils else .sl [] es 0 (some 0))
noncomputable def TJo : Table := Tadd T0 19 gSort
noncomputable def LJ (N m : Nat) (c : List PV) (n : Nat) (z bf bg bi : Bool) (i : Int) (af : List PV) (kf : Nat) (ag : List PV) (kg : Nat) (ai : List PV) (ki : Nat) : Option PV := loopS EN TJo HJo N 5 13 Try.f13 [1, 1, 0, 1, 0] (patOf (sparse 33 0 [(0, .nils), (2, .nils), (3, .nils), (6, .nils), (7, .nils), (8, .nils)])) 2 m
  (sparse 33 0 [(0, .sl c 3 n none), (2, .ptr 0 1 0), (3, .ptr 1 1 0), (6, .sl c 3 n none), (7, vI n), (8, vI i)])
  ([bx [.nils, .nils, .nils], bx [accZ bf z 2 26 kf, accZ bg z (nx bf 2) 8 kg, accZ bi z (nx bg (nx bf 2)) 3 ki]] ++ (accO bf af 26 kf ++ (accO bg ag 8 kg ++ accO bi ai 3 ki)))

theorem TJook : TR TJo := okSort

def KRw : List Kd := [.sl 26, .sl 8, .sl 3]
def growN (b : Bool) (ac : List PV) (k es : Nat) (c : List PV) (n : Nat) (K : Bool → List PV → Nat → Option PV) : Option PV :=
  asks [c.length == n * es] <| bif decide (n = 0) then K b ac k else
    bif b then asks [k == k && (decide (k ≤ 1048576) && (decide (n ≤ 1048576) && decide (0 + k * es ≤ ac.length))), !decide (0 + k + n ≤ k)] (K true (ac.take (k * es) ++ c) (k + n))
    else asks [es == es && (decide (0 < 0 + n) && (decide (0 + n ≤ 1048576) && ([] : List PV).all PV.oneCell))] (K true ([] ++ c) (0 + n))

def jR (bf bg bi : Bool) (af : List PV) (kf : Nat) (ag : List PV) (kg : Nat) (ai : List PV) (ki : Nat) : Rw :=
  ⟨bif bf then kf else 0, bif bf then (af.drop 0).take (kf * 26) else [], bif bg then kg else 0, bif bg then (ag.drop 0).take (kg * 8) else [], bif bi then ki else 0, bif bi then (ai.drop 0).take (ki * 3) else []⟩
def exitJ (bf bg bi : Bool) (af : List PV) (kf : Nat) (ag : List PV) (kg : Nat) (ai : List PV) (ki : Nat) : Option PV :=
  asks (ifb bf (sealAsk af kf 26)) <| asks (ifb bg (sealAsk ag kg 8)) <| asks (ifb bi (sealAsk ai ki 3)) <|
  asks (ifb bf [oldL 0 ((af.drop 0).take (kf * 26))]) <| asks (ifb bg [oldL 0 ((ag.drop 0).take (kg * 8))]) <| asks (ifb bi [oldL 0 ((ai.drop 0).take (ki * 3))]) <|
  asks [(jR bf bg bi af kf ag kg ai ki).ok] <|
  asks [oldL 0 (jR bf bg bi af kf ag kg ai ki).so.fc, oldL 0 (jR bf bg bi af kf ag kg ai ki).so.gc, oldL 0 (jR bf bg bi af kf ag kg ai ki).so.ic] <|
  some (jR bf bg bi af kf ag kg ai ki).so.pv

theorem tJ0 (N : Nat) (c : List PV) (n : Nat) : apartS EN TJo HJo N 5 13 [.sl c 3 n none] = LJ N N c n true false false false 0 [] 0 [] 0 [] 0 := by kernel_rfl

theorem tJ1 (N m : Nat) (c : List PV) (n : Nat) (z bf bg bi : Bool) (i : Int) (af : List PV) (kf : Nat) (ag : List PV) (kg : Nat) (ai : List PV) (ki : Nat) : LJ N (m + 1) c n z bf bg bi i af kf ag kg ai ki =
  (bif decide (i < (n : Int)) then
    (asks [decide (0 ≤ i) && decide (i < (n : Int)), okAt KRw c (i.toNat * 3)] <|
    growN bf af kf 26 (slCells ((shapeAt KRw c (i.toNat * 3)).getD 0 .nilp)) (slLen ((shapeAt KRw c (i.toNat * 3)).getD 0 .nilp)) fun bf' af' kf' =>
    growN bg ag kg 8 (slCells ((shapeAt KRw c (i.toNat * 3)).getD 1 .nilp)) (slLen ((shapeAt KRw c (i.toNat * 3)).getD 1 .nilp)) fun bg' ag' kg' =>
    growN bi ai ki 3 (slCells ((shapeAt KRw c (i.toNat * 3)).getD 2 .nilp)) (slLen ((shapeAt KRw c (i.toNat * 3)).getD 2 .nilp)) fun bi' ai' ki' =>
    asks [oldL 2 c, oldL 2 c] <| asks (ifb bf' [oldL 0 af']) <| asks (ifb bg' [oldL 0 ag']) <| asks (ifb bi' [oldL 0 ai']) <|
    LJ N m c n false bf' bg' bi' (IntKind.i64.wrap (i + 1)) af' kf' ag' kg' ai' ki')
  else exitJ bf bg bi af kf ag kg ai ki) := by cases z <;> cases bf <;> cases bg <;> cases bi <;> kernel_rfl

def rwOf (x : List PV) : Rw := ⟨slLen (x.getD 0 .nilp), slCells (x.getD 0 .nilp), slLen (x.getD 1 .nilp), slCells (x.getD 1 .nilp), slLen (x.getD 2 .nilp), slCells (x.getD 2 .nilp)⟩
def joF (L : List Rw) : List (List PV) := L.flatMap Rw.F
def joG (L : List Rw) : List (List PV) := L.flatMap Rw.G
def joI (L : List Rw) : List (List PV) := L.flatMap Rw.I
def jo (L : List Rw) : Rw := ⟨(joF L).length, (joF L).flatten, (joG L).length, (joG L).flatten, (joI L).length, (joI L).flatten⟩
def joOk (L : List Rw) : Bool := L.all Rw.ok && (decide ((joF L).length ≤ 1000000) && (decide ((joG L).length ≤ 1000000) && decide ((joI L).length ≤ 1000000)))

theorem rowsOk_flatMap {K : List Kd} {L : List Rw} {f : Rw → List (List PV)} (h : ∀ r ∈ L, rowsOk K (f r) = true) : rowsOk K (L.flatMap f) = true := by
  unfold rowsOk at h ⊢
  rw [List.all_eq_true]
  intro x hx
  obtain ⟨r, hr, hx⟩ := List.mem_flatMap.1 hx
  exact List.all_eq_true.1 (h r hr) x hx

theorem rowsA_of {K : List Kd} {ok : List PV → Bool} {R : List (List PV)} (h : rowsOk K R = true) (hn : R.length ≤ 1000000) (hk : ∀ r ∈ R, ok r = true) : rowsA K ok R.length R.flatten = true := by
  unfold rowsA
  rw [rowsC_of h hn, chunks_of h, Bool.true_and, List.all_eq_true]
  exact hk

/-- Lists make rows. -/
def Rw.mk' (F G I : List (List PV)) : Rw := ⟨F.length, F.flatten, G.length, G.flatten, I.length, I.flatten⟩

theorem mk_ok {F G I : List (List PV)} (f : rowsOk KFr F = true) (g : rowsOk KGr G = true) (i : rowsOk KFi I = true) (mf : F.length ≤ 1000000) (mg : G.length ≤ 1000000) (mi : I.length ≤ 1000000) (gk : ∀ x ∈ G, grOk x = true) (ik : ∀ x ∈ I, fiOk x = true) :
    (Rw.mk' F G I).ok = true ∧ (Rw.mk' F G I).F = F ∧ (Rw.mk' F G I).G = G ∧ (Rw.mk' F G I).I = I := by
  refine ⟨?_, chunks_of (K := KFr) f, chunks_of (K := KGr) g, chunks_of (K := KFi) i⟩
  unfold Rw.ok Rw.mk'
  dsimp only
  rw [rowsC_of f mf, rowsA_of g mg gk, rowsA_of i mi ik]
  rfl

theorem jo_ok {L : List Rw} (h : joOk L = true) : (jo L).ok = true ∧ (jo L).F = joF L ∧ (jo L).G = joG L ∧ (jo L).I = joI L := by
  unfold joOk at h
  simp only [Bool.and_eq_true, decide_eq_true_eq, List.all_eq_true] at h
  obtain ⟨h1, h2, h3, h4⟩ := h
  refine mk_ok (rowsOk_flatMap fun r hr => (Rw.lists (h1 r hr)).f) (rowsOk_flatMap fun r hr => (Rw.lists (h1 r hr)).g) (rowsOk_flatMap fun r hr => (Rw.lists (h1 r hr)).i) h2 h3 h4 (fun x hx => ?_) (fun x hx => ?_)
  · obtain ⟨r, hr, hx⟩ := List.mem_flatMap.1 hx
    exact (Rw.lists (h1 r hr)).gk x hx
  · obtain ⟨r, hr, hx⟩ := List.mem_flatMap.1 hx
    exact (Rw.lists (h1 r hr)).ik x hx

theorem growN_ok {K : List Kd} {A R : List (List PV)} (hA : rowsOk K A = true) (hR : rowsOk K R = true) (hn : (A ++ R).length ≤ 1000000) (Kf : Bool → List PV → Nat → Option PV) :
    growN (!Nat.beq A.length 0) A.flatten A.length K.length R.flatten R.length Kf = Kf (!Nat.beq (A ++ R).length 0) (A ++ R).flatten (A ++ R).length := by
  have lA := rows_len hA
  have lR := rows_len hR
  rw [List.length_append] at hn
  unfold growN
  rw [asks_of (by simp [lR])]
  by_cases h0 : R.length = 0
  · have := List.eq_nil_of_length_eq_zero h0
    subst this
    rw [cond_t (by simp), List.append_nil]
  · rw [cond_f (by simpa using h0)]
    cases A with
    | nil =>
      have hb : (!Nat.beq ([] : List (List PV)).length 0) = false := rfl
      rw [hb, cond_false, asks_of (by simp; omega), Nat.zero_add, List.nil_append, List.nil_append]
      have : (!Nat.beq R.length 0) = true := by rw [beq_no h0]; rfl
      rw [this]
    | cons a A =>
      have hb : (!Nat.beq (a :: A).length 0) = true := rfl
      rw [hb, cond_true, asks_of (by
        simp only [beq_self_eq_true, lA, List.all_cons, List.all_nil, id, Bool.and_true, Bool.true_and, Bool.and_eq_true, decide_eq_true_eq, Bool.not_eq_true', decide_eq_false_iff_not]
        omega), ← lA, List.take_length, List.flatten_append, List.length_append]
      rw [show (!Nat.beq ((a :: A).length + R.length) 0) = true from by rw [beq_no (show (a :: A).length + R.length ≠ 0 from by simp)]; rfl]

theorem ifb_old {K : List Kd} {A : List (List PV)} (h : rowsOk K A = true) (b : Bool) : (ifb b [oldL 0 A.flatten]).all id = true := by
  unfold ifb
  cases b <;> simp [rows_old h]

theorem exitJ_ok {F G I : List (List PV)} (f : rowsOk KFr F = true) (g : rowsOk KGr G = true) (i : rowsOk KFi I = true) (mf : F.length ≤ 1000000) (mg : G.length ≤ 1000000) (mi : I.length ≤ 1000000) (gk : ∀ x ∈ G, grOk x = true) (ik : ∀ x ∈ I, fiOk x = true) :
    exitJ (!Nat.beq F.length 0) (!Nat.beq G.length 0) (!Nat.beq I.length 0) F.flatten F.length G.flatten G.length I.flatten I.length = some (Rw.mk' F G I).so.pv := by
  obtain ⟨s1, s2, s3⟩ := seal_ok f (by decide)
  obtain ⟨s4, s5, s6⟩ := seal_ok g (by decide)
  obtain ⟨s7, s8, s9⟩ := seal_ok i (by decide)
  have e : jR (!Nat.beq F.length 0) (!Nat.beq G.length 0) (!Nat.beq I.length 0) F.flatten F.length G.flatten G.length I.flatten I.length = Rw.mk' F G I := by
    unfold jR Rw.mk'
    have key : ∀ {K : List Kd} {R : List (List PV)}, rowsOk K R = true → (bif (!Nat.beq R.length 0) then R.length else 0) = R.length ∧ (bif (!Nat.beq R.length 0) then (R.flatten.drop 0).take (R.length * K.length) else []) = R.flatten := by
      intro K R h
      cases R with
      | nil => exact ⟨rfl, rfl⟩
      | cons a R =>
        have hb : (!Nat.beq (a :: R).length 0) = true := rfl
        rw [hb]
        exact ⟨rfl, take_all _ (rows_len h)⟩
    rw [show (26 : Nat) = KFr.length from rfl, show (8 : Nat) = KGr.length from rfl, show (3 : Nat) = KFi.length from rfl, (key f).1, (key f).2, (key g).1, (key g).2, (key i).1, (key i).2]
  unfold exitJ
  rw [e]
  obtain ⟨k1, k2, k3, k4⟩ := mk_ok f g i mf mg mi gk ik
  rw [show (26 : Nat) = KFr.length from rfl, show (8 : Nat) = KGr.length from rfl, show (3 : Nat) = KFi.length from rfl, asks_of s1, asks_of s4, asks_of s7, asks_of s2, asks_of s5, asks_of s8, asks_of (by simp [k1])]
  rw [asks_of (by
    unfold Rw.so
    rw [k2, k3, k4]
    dsimp only
    rw [rows_old (rows_ins f), rows_old (rows_ins g), rows_old (rows_ins i)]
    rfl)]

theorem joF_app (L M : List Rw) : joF (L ++ M) = joF L ++ joF M := by unfold joF; rw [List.flatMap_append]
theorem joG_app (L M : List Rw) : joG (L ++ M) = joG L ++ joG M := by unfold joG; rw [List.flatMap_append]
theorem joI_app (L M : List Rw) : joI (L ++ M) = joI L ++ joI M := by unfold joI; rw [List.flatMap_append]

theorem joOk_part {L M : List Rw} (h : joOk (L ++ M) = true) : joOk L = true := by
  unfold joOk at h ⊢
  simp only [joF_app, joG_app, joI_app, List.length_append, List.all_append, Bool.and_eq_true, decide_eq_true_eq] at h ⊢
  obtain ⟨⟨h1, _⟩, h2, h3, h4⟩ := h
  exact ⟨h1, by omega, by omega, by omega⟩

structure JL (L : List Rw) : Prop where
  f : rowsOk KFr (joF L) = true
  g : rowsOk KGr (joG L) = true
  i : rowsOk KFi (joI L) = true
  mf : (joF L).length ≤ 1000000
  mg : (joG L).length ≤ 1000000
  mi : (joI L).length ≤ 1000000
  gk : ∀ x ∈ joG L, grOk x = true
  ik : ∀ x ∈ joI L, fiOk x = true
  ok : ∀ r ∈ L, r.ok = true

theorem JL.of {L : List Rw} (h : joOk L = true) : JL L := by
  unfold joOk at h
  simp only [Bool.and_eq_true, decide_eq_true_eq, List.all_eq_true] at h
  obtain ⟨h1, h2, h3, h4⟩ := h
  refine ⟨rowsOk_flatMap fun r hr => (Rw.lists (h1 r hr)).f, rowsOk_flatMap fun r hr => (Rw.lists (h1 r hr)).g, rowsOk_flatMap fun r hr => (Rw.lists (h1 r hr)).i, h2, h3, h4, fun x hx => ?_, fun x hx => ?_, h1⟩
  · obtain ⟨r, hr, hx⟩ := List.mem_flatMap.1 hx
    exact (Rw.lists (h1 r hr)).gk x hx
  · obtain ⟨r, hr, hx⟩ := List.mem_flatMap.1 hx
    exact (Rw.lists (h1 r hr)).ik x hx

/-- The loop's state behind some. -/
noncomputable def LJs (N m : Nat) (c : List PV) (n : Nat) (z : Bool) (i : Int) (L : List Rw) : Option PV :=
  LJ N m c n z (!Nat.beq (joF L).length 0) (!Nat.beq (joG L).length 0) (!Nat.beq (joI L).length 0) i (joF L).flatten (joF L).length (joG L).flatten (joG L).length (joI L).flatten (joI L).length

theorem jo_loop {N n : Nat} {R : List (List PV)} (hR : rowsOk KRw R = true) (hl : R.length = n) (hn : n ≤ 1000000) (hk : joOk (R.map rwOf) = true) : ∀ (k i m : Nat) (z : Bool), i + k = n → LJs N (m + k + 1) R.flatten n z (i : Int) ((R.take i).map rwOf) = some (jo (R.map rwOf)).so.pv
  | 0, i, m, z, h => by
    unfold LJs
    have e : R.take i = R := by rw [List.take_of_length_le (by omega)]
    rw [e, tJ1, cond_f (show decide ((i : Int) < (n : Int)) = false from by simp; omega)]
    have J := JL.of hk
    exact exitJ_ok J.f J.g J.i J.mf J.mg J.mi J.gk J.ik
  | k + 1, i, m, z, h => by
    have hi : i < R.length := by omega
    have hr := rows_at0 hR hi
    have et : R.take (i + 1) = R.take i ++ [R[i]] := by rw [List.take_succ_eq_append_getElem hi]
    have hk1 : joOk ((R.take (i + 1)).map rwOf) = true := joOk_part (M := (R.drop (i + 1)).map rwOf) (by rw [← List.map_append, List.take_append_drop]; exact hk)
    have hk0 : joOk ((R.take i).map rwOf) = true := joOk_part (M := (R.drop i).map rwOf) (by rw [← List.map_append, List.take_append_drop]; exact hk)
    have J1 := JL.of hk1
    have J0 := JL.of hk0
    have hx : (rwOf R[i]).ok = true := J1.ok _ (List.mem_map.2 ⟨R[i], by rw [et]; exact List.mem_append_right _ List.mem_cons_self, rfl⟩)
    have lx := Rw.lists hx
    have aF : joF ((R.take (i + 1)).map rwOf) = joF ((R.take i).map rwOf) ++ (rwOf R[i]).F := by rw [et, List.map_append, joF_app]; simp [joF]
    have aG : joG ((R.take (i + 1)).map rwOf) = joG ((R.take i).map rwOf) ++ (rwOf R[i]).G := by rw [et, List.map_append, joG_app]; simp [joG]
    have aI : joI ((R.take (i + 1)).map rwOf) = joI ((R.take i).map rwOf) ++ (rwOf R[i]).I := by rw [et, List.map_append, joI_app]; simp [joI]
    have e1 : slCells (R[i].getD 0 .nilp) = (rwOf R[i]).F.flatten := lx.fc.symm
    have e2 : slLen (R[i].getD 0 .nilp) = (rwOf R[i]).F.length := lx.nf.symm
    have e3 : slCells (R[i].getD 1 .nilp) = (rwOf R[i]).G.flatten := lx.gc.symm
    have e4 : slLen (R[i].getD 1 .nilp) = (rwOf R[i]).G.length := lx.ng.symm
    have e5 : slCells (R[i].getD 2 .nilp) = (rwOf R[i]).I.flatten := lx.ic.symm
    have e6 : slLen (R[i].getD 2 .nilp) = (rwOf R[i]).I.length := lx.ni.symm
    unfold LJs
    rw [show m + (k + 1) + 1 = (m + k + 1) + 1 from by omega, tJ1, cond_t (show decide ((i : Int) < (n : Int)) = true from by simp; omega)]
    simp only [Int.toNat_natCast]
    rw [show i * 3 = i * KRw.length from rfl, hr.2, hr.1, asks_of (by rw [inside (show i < n by omega)]; rfl), e1, e2, e3, e4, e5, e6]
    rw [show (26 : Nat) = KFr.length from rfl, growN_ok J0.f lx.f (by rw [← aF]; exact J1.mf)]
    rw [show (8 : Nat) = KGr.length from rfl, growN_ok J0.g lx.g (by rw [← aG]; exact J1.mg)]
    rw [show (3 : Nat) = KFi.length from rfl, growN_ok J0.i lx.i (by rw [← aI]; exact J1.mi)]
    rw [← aF, ← aG, ← aI, asks_of (by simp only [rows_oldn hR, List.all_cons, List.all_nil, id, Bool.and_self]), asks_of (ifb_old J1.f _), asks_of (ifb_old J1.g _), asks_of (ifb_old J1.i _), wrap_succ (by omega : i < 9223372036854775807)]
    exact jo_loop hR hl hn hk k (i + 1) m false (by omega)

def gJoin (xs : List PV) : Option (Bool × PV) := match xs with
  | [.sl c e n none] => some (Nat.beq e 3 && (rowsC KRw n c && joOk ((chunks 3 n c).map rwOf)), (jo ((chunks 3 n c).map rwOf)).so.pv)
  | _ => none

theorem runJoin (xs : List PV) (v : PV) (h : gJoin xs = some (true, v)) : ∃ H, apartS EN TJo H 1000009 5 13 xs = some v := by
  unfold gJoin at h
  split at h
  · rename_i c e n
    simp only [Option.some.injEq, Prod.mk.injEq, Bool.and_eq_true] at h
    obtain ⟨⟨h1, h2, h3⟩, rfl⟩ := h
    rw [Nat.eq_of_beq_eq_true h1]
    obtain ⟨r1, r2, r3, r4⟩ := rowsC_ok h2
    refine ⟨HJo, (tJ0 1000009 c n).trans ?_⟩
    have := jo_loop (N := 1000009) r2 r4 r1 h3 n 0 (1000008 - n) true (by omega)
    rw [show 1000008 - n + n + 1 = 1000009 from by omega, r3] at this
    exact this
  · cases h

end Go.Proofs.Ytbhgibpdhmlamaa.Am
end

/- One behind those that it doesn't come ahead of: its place, looked for from the end; the plain law. -/
section
set_option linter.unusedVariables false
set_option linter.unusedSimpArgs false
namespace Go.Proofs.Ytbhgibpdhmlamaa.Am
open St

/-- Where one goes. -/
def plc (lt : List PV → List PV → Bool) (x : List PV) (R : List (List PV)) : Nat → Nat
  | 0 => 0
  | k + 1 => if lt x (R.getD k []) = true then plc lt x R k else k + 1

theorem plc_le (lt : List PV → List PV → Bool) (x : List PV) (R : List (List PV)) : ∀ k, plc lt x R k ≤ k
  | 0 => Nat.le_refl _
  | k + 1 => by
    rw [plc]
    split
    · exact Nat.le_succ_of_le (plc_le lt x R k)
    · exact Nat.le_refl _

theorem plc_ins (lt : List PV → List PV → Bool) (x : List PV) (R : List (List PV)) : ∀ k, k ≤ R.length → R.take (plc lt x R k) ++ (x :: R.drop (plc lt x R k)) = ins lt x (R.take k) ++ R.drop k
  | 0, h => by simp [plc, ins]
  | k + 1, h => by
    have hk : k < R.length := h
    have e : R.take (k + 1) = R.take k ++ [R[k]] := by rw [List.take_succ_eq_append_getElem hk]
    rw [plc, e, ins_snoc, getD_at hk]
    split
    · rename_i h1
      rw [plc_ins lt x R k (by omega), List.append_assoc, List.singleton_append, ← List.drop_eq_getElem_cons hk]
    · rename_i h1
      rw [← e, List.append_assoc, List.singleton_append]

theorem plc_all (lt : List PV → List PV → Bool) (x : List PV) (R : List (List PV)) : R.take (plc lt x R R.length) ++ (x :: R.drop (plc lt x R R.length)) = ins lt x R := by
  rw [plc_ins lt x R R.length (Nat.le_refl _), List.take_length, List.drop_length, List.append_nil]

end Go.Proofs.Ytbhgibpdhmlamaa.Am
end
