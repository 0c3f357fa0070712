/- Fronts, groups' keys, filters held against each other, on both sides: the functions' trees. -/
import Derived.Test.YtpbemfikhmeedaaGreatDoorME
import Derived.Test.YtpbemfikhmeedaaGreatDoorMSQ
set_option linter.unusedVariables false
set_option linter.unusedSimpArgs false
set_option maxRecDepth 100000
set_option maxHeartbeats 4000000
namespace Go.Proofs.YtpbemfikhmeedaaGreatDoor.Am
section
structure Fr where
  proto : Int
  pt : Pt
  key : Ky
  name : List UInt8
  how : Int
  loc : Bool
  asked : Bool
  ticks : Int
structure Gi where
  key : Ky
  name : List UInt8
  six : Bool
  loc : Bool
def Fr.cs (f : Fr) : List PV := vi f.proto :: (f.pt.cs ++ (f.key.cs ++ [.str f.name, vi f.how, .bool f.loc, .bool f.asked, vi f.ticks]))
def Gi.cs (g : Gi) : List PV := g.key.cs ++ [.str g.name, .bool g.six, .bool g.loc]
def atC (a b : Fr) : Int := orr [cmpI a.proto b.proto, ptC a.pt b.pt, kyC a.key b.key, cmpS a.name b.name]
def atR (a b : Fr) : Int := orr [cmpI a.proto b.proto, ptR a.pt b.pt, kyR a.key b.key, cmpS a.name b.name]
def allOf (k : Int) (a b : Fr) : Int := orr [k, cmpI a.how b.how, cmpI (num a.loc) (num b.loc), cmpI (num a.asked) (num b.asked), cmpI a.ticks b.ticks]
def giOf (k : Int) (a b : Gi) : Int := orr [k, cmpS a.name b.name, cmpI (num a.six) (num b.six), cmpI (num a.loc) (num b.loc)]
def frAt (x : List PV) : Fr := ⟨asI (x.getD 0 .nilp), ptAt x 1, kyAt x 19, asS (x.getD 21 .nilp), asI (x.getD 22 .nilp), asB (x.getD 23 .nilp), asB (x.getD 24 .nilp), asI (x.getD 25 .nilp)⟩
def giAt (x : List PV) : Gi := ⟨kyAt x 0, asS (x.getD 2 .nilp), asB (x.getD 3 .nilp), asB (x.getD 4 .nilp)⟩
def KFr : List Kd := [.int .i64, .bool, .int .u8, .int .u8, .int .u8, .int .u8, .int .u8, .int .u8, .int .u8, .int .u8, .int .u8, .int .u8, .int .u8, .int .u8, .int .u8, .int .u8, .int .u8, .int .u8, .int .i64, .str, .str, .str, .int .i64, .bool, .bool, .int .i64]
def KGi : List Kd := [.str, .str, .str, .bool, .bool]
def KGr : List Kd := [.str, .str, .str, .bool, .bool, .int .i64, .sl 18, .sl 1]
def KFi : List Kd := [.str, .str, .sl 18]
theorem fr_of {x : List PV} (h : wk KFr x = true) : x = (frAt x).cs := (shape_of h).symm
theorem gi_of {x : List PV} (h : wk KGi x = true) : x = (giAt x).cs := (shape_of h).symm
theorem gr_of {x : List PV} (h : wk KGr x = true) : x = (giAt x).cs ++ [vi (asI (x.getD 5 .nilp)), .sl (slCells (x.getD 6 .nilp)) 18 (slLen (x.getD 6 .nilp)) none, .sl (slCells (x.getD 7 .nilp)) 1 (slLen (x.getD 7 .nilp)) none] := (shape_of h).symm
theorem fi_of {x : List PV} (h : wk KFi x = true) : x = (kyAt x 0).cs ++ [.sl (slCells (x.getD 2 .nilp)) 18 (slLen (x.getD 2 .nilp)) none] := (shape_of h).symm
def cFr (x y : List PV) : Int := allOf (atC (frAt x) (frAt y)) (frAt x) (frAt y)
def rFr (x y : List PV) : Int := allOf (atR (frAt x) (frAt y)) (frAt x) (frAt y)
def cGi (x y : List PV) : Int := giOf (kyC (giAt x).key (giAt y).key) (giAt x) (giAt y)
def rGi (x y : List PV) : Int := giOf (kyR (giAt x).key (giAt y).key) (giAt x) (giAt y)
def gNum (xs : List PV) : Option (Bool × PV) := match xs with
  | [.bool a] => some (true, vi (num a))
  | _ => none
def gTru (xs : List PV) : Option (Bool × PV) := match xs with
  | [.bool a, .bool b] => some (true, vi (cmpI (num a) (num b)))
  | _ => none
noncomputable def TP1 : Table := Tadd T0 99 gNaN
noncomputable def TP2 : Table := Tadd TP1 81 gCmp
noncomputable def TP3 : Table := Tadd TP2 98 gNaNs
noncomputable def TP4 : Table := Tadd TP3 80 gCmpS
noncomputable def TP5 : Table := Tadd TP4 79 gOr
noncomputable def TP6 : Table := Tadd TP5 103 gNum
noncomputable def TP7 : Table := Tadd TP6 84 gTru
noncomputable def TP8 : Table := Tadd TP7 100 (gAd2 adC)
noncomputable def TP9 : Table := Tadd TP8 82 (gPt2 ptC)
noncomputable def TPA : Table := Tadd TP9 61 (gKy2 kyC)
noncomputable def TPB : Table := Tadd TPA 66 (gRow2 KFr fun x y => atC (frAt x) (frAt y))
noncomputable def TPC : Table := Tadd TPB 86 (gRow2 KGi cGi)
noncomputable def TR1 : Table := Tadd T0 53 gCmp
noncomputable def TR2 : Table := Tadd TR1 56 gCmpS
noncomputable def TR3 : Table := Tadd TR2 52 gOr
noncomputable def TR4 : Table := Tadd TR3 76 gNum
noncomputable def TR5 : Table := Tadd TR4 75 (gAd2 adR)
noncomputable def TR6 : Table := Tadd TR5 54 (gPt2 ptR)
noncomputable def TR7 : Table := Tadd TR6 55 (gKy2 kyR)
noncomputable def TR8 : Table := Tadd TR7 30 (gRow2 KFr fun x y => atR (frAt x) (frAt y))
noncomputable def TR9 : Table := Tadd TR8 57 (gRow2 KFr rFr)
noncomputable def TRA : Table := Tadd TR9 58 (gRow2 KGi rGi)
theorem tNaN (N : Nat) (a : Int) : apartS EN T0 H0 N 5 99 [.int .i64 a] = some (.bool (a != a)) := by kernel_rfl
theorem tCmp (N : Nat) (a b : Int) : apartS EN TP1 H0 N 5 81 [.int .i64 a, .int .i64 b] = (bif decide (a < b) then some (vi (-1)) else bif decide (a > b) then some (vi 1) else some (vi 0)) := by kernel_rfl
theorem tNaNs (N : Nat) (s : List UInt8) : apartS EN TP2 H0 N 5 98 [.str s] = some (.bool !(s == s)) := by kernel_rfl
theorem tCmpS (N : Nat) (s t : List UInt8) : apartS EN TP3 H0 N 5 80 [.str s, .str t] = (bif Op.bytesLess s t then some (vi (-1)) else bif !(Op.bytesLess s t || s == t) then some (vi 1) else some (vi 0)) := by kernel_rfl
theorem tOr2 (N : Nat) (a b : Int) (xc : Option Nat) : apartS EN TP4 H0 (N + 9) 5 79 [.sl [.int .i64 a, .int .i64 b] 1 2 xc] = (bif a != 0 then some (vi a) else bif b != 0 then some (vi b) else some (vi 0)) := by kernel_rfl
theorem tOr4 (N : Nat) (a b c d : Int) (xc : Option Nat) : apartS EN TP4 H0 (N + 9) 5 79 [.sl [.int .i64 a, .int .i64 b, .int .i64 c, .int .i64 d] 1 4 xc] = (bif a != 0 then some (vi a) else bif b != 0 then some (vi b) else bif c != 0 then some (vi c) else bif d != 0 then some (vi d) else some (vi 0)) := by kernel_rfl
theorem tOr5 (N : Nat) (a b c d e : Int) (xc : Option Nat) : apartS EN TP4 H0 (N + 9) 5 79 [.sl [.int .i64 a, .int .i64 b, .int .i64 c, .int .i64 d, .int .i64 e] 1 5 xc] = (bif a != 0 then some (vi a) else bif b != 0 then some (vi b) else bif c != 0 then some (vi c) else bif d != 0 then some (vi d) else bif e != 0 then some (vi e) else some (vi 0)) := by kernel_rfl
theorem tNum (N : Nat) (a : Bool) : apartS EN TP5 H0 N 5 103 [.bool a] = (bif a then some (vi 1) else some (vi 0)) := by kernel_rfl
theorem tTru (N : Nat) (a b : Bool) : apartS EN TP6 H0 N 5 84 [.bool a, .bool b] = some (vi (cmpI (num a) (num b))) := by kernel_rfl
theorem tAdC (N : Nat) (a b : Ad) : apartS EN TP7 H0 N 5 100 [.agg a.cs, .agg b.cs] = (bif a.six == b.six then some (vi (cmpBytes (bytes16 a.b) (bytes16 b.b))) else bif a.six then some (vi 1) else some (vi (-1))) := by kernel_rfl
theorem tPtC (N : Nat) (a b : Pt) : apartS EN TP8 H0 N 5 82 [.agg a.cs, .agg b.cs] = some (vi (ptC a b)) := by kernel_rfl
theorem tKyC (N : Nat) (a b : Ky) : apartS EN TP9 H0 N 5 61 [.agg a.cs, .agg b.cs] = some (vi (kyC a b)) := by kernel_rfl
theorem tAtC (N : Nat) (a b : Fr) : apartS EN TPA H0 N 5 66 [.agg a.cs, .agg b.cs] = some (vi (atC a b)) := by kernel_rfl
theorem tGiC (N : Nat) (a b : Gi) : apartS EN TPB H0 N 5 86 [.agg a.cs, .agg b.cs] = some (vi (giOf (kyC a.key b.key) a b)) := by kernel_rfl
theorem tFrC (N : Nat) (a b : Fr) : apartS EN TPC H0 N 5 70 [.agg a.cs, .agg b.cs] = some (vi (allOf (atC a b) a b)) := by kernel_rfl
theorem tGrC (N : Nat) (a b : Gi) (s t : Int) (c1 c2 d1 d2 : List PV) (n1 n2 m1 m2 : Nat) : apartS EN TPC H0 N 5 72 [.agg (a.cs ++ [vi s, .sl c1 18 n1 none, .sl c2 1 n2 none]), .agg (b.cs ++ [vi t, .sl d1 18 m1 none, .sl d2 1 m2 none])] = some (vi (giOf (kyC a.key b.key) a b)) := by kernel_rfl
theorem tFiC (N : Nat) (a b : Ky) (c1 d1 : List PV) (n1 m1 : Nat) : apartS EN TPC H0 N 5 74 [.agg (a.cs ++ [.sl c1 18 n1 none]), .agg (b.cs ++ [.sl d1 18 m1 none])] = some (vi (kyC a b)) := by kernel_rfl
theorem rLess (N : Nat) (a b : Int) : apartS EN T0 H0 N 5 53 [.int .i64 a, .int .i64 b] = (bif decide (a < b) then some (vi (-1)) else bif decide (a > b) then some (vi 1) else some (vi 0)) := by kernel_rfl
theorem rText (N : Nat) (s t : List UInt8) : apartS EN TR1 H0 N 5 56 [.str s, .str t] = (bif Op.bytesLess s t then some (vi (-1)) else bif !(Op.bytesLess s t || s == t) then some (vi 1) else some (vi 0)) := by kernel_rfl
theorem rOr2 (N : Nat) (a b : Int) (xc : Option Nat) : apartS EN TR2 H0 (N + 9) 5 52 [.sl [.int .i64 a, .int .i64 b] 1 2 xc] = (bif a != 0 then some (vi a) else bif b != 0 then some (vi b) else some (vi 0)) := by kernel_rfl
theorem rOr4 (N : Nat) (a b c d : Int) (xc : Option Nat) : apartS EN TR2 H0 (N + 9) 5 52 [.sl [.int .i64 a, .int .i64 b, .int .i64 c, .int .i64 d] 1 4 xc] = (bif a != 0 then some (vi a) else bif b != 0 then some (vi b) else bif c != 0 then some (vi c) else bif d != 0 then some (vi d) else some (vi 0)) := by kernel_rfl
theorem rOr5 (N : Nat) (a b c d e : Int) (xc : Option Nat) : apartS EN TR2 H0 (N + 9) 5 52 [.sl [.int .i64 a, .int .i64 b, .int .i64 c, .int .i64 d, .int .i64 e] 1 5 xc] = (bif a != 0 then some (vi a) else bif b != 0 then some (vi b) else bif c != 0 then some (vi c) else bif d != 0 then some (vi d) else bif e != 0 then some (vi e) else some (vi 0)) := by kernel_rfl
theorem rNum (N : Nat) (a : Bool) : apartS EN TR3 H0 N 5 76 [.bool a] = (bif a then some (vi 1) else some (vi 0)) := by kernel_rfl
theorem rAd (N : Nat) (a b : Ad) : apartS EN TR4 H0 (N + 50) 5 75 [.agg a.cs, .agg b.cs] = (bif !(a.six == b.six) then (bif a.six then some (vi 1) else some (vi (-1))) else loopT a.b b.b [0, 1, 2, 3, 4, 5, 6, 7, 8, 9, 10, 11, 12, 13, 14, 15]) := by kernel_rfl
theorem rPt (N : Nat) (a b : Pt) : apartS EN TR5 H0 N 5 54 [.agg a.cs, .agg b.cs] = (bif adR a.ad b.ad != 0 then some (vi (adR a.ad b.ad)) else bif decide (a.port < b.port) then some (vi (-1)) else bif decide (a.port > b.port) then some (vi 1) else some (vi 0)) := by kernel_rfl
theorem rKyT (N : Nat) (a b : Ky) : apartS EN TR6 H0 N 5 55 [.agg a.cs, .agg b.cs] = kyT a.space a.name b.space b.name := by kernel_rfl
theorem rAt (N : Nat) (a b : Fr) : apartS EN TR7 H0 N 5 30 [.agg a.cs, .agg b.cs] = some (vi (atR a b)) := by kernel_rfl
theorem rFrT (N : Nat) (a b : Fr) : apartS EN TR8 H0 N 5 57 [.agg a.cs, .agg b.cs] = some (vi (allOf (atR a b) a b)) := by kernel_rfl
theorem rGiT (N : Nat) (a b : Gi) : apartS EN TR9 H0 N 5 58 [.agg a.cs, .agg b.cs] = some (vi (giOf (kyR a.key b.key) a b)) := by kernel_rfl
end
section
open St
section
theorem atC_co : CO atC := by
  have h := (cmpI_co.comap Fr.proto).lex ((ptC_co.comap Fr.pt).lex ((kyC_co.comap Fr.key).lex ((cmpS_co.comap Fr.name).lex CO.zero)))
  exact h.cast fun a b => rfl
theorem frC_co : CO (fun a b : Fr => allOf (atC a b) a b) := by
  have h := atC_co.lex ((cmpI_co.comap Fr.how).lex ((cmpI_co.comap (fun f : Fr => num f.loc)).lex ((cmpI_co.comap (fun f : Fr => num f.asked)).lex ((cmpI_co.comap Fr.ticks).lex CO.zero))))
  exact h.cast fun a b => rfl
theorem giC_co : CO (fun a b : Gi => giOf (kyC a.key b.key) a b) := by
  have h := (kyC_co.comap Gi.key).lex ((cmpS_co.comap Gi.name).lex ((cmpI_co.comap (fun f : Gi => num f.six)).lex ((cmpI_co.comap (fun f : Gi => num f.loc)).lex CO.zero)))
  exact h.cast fun a b => rfl
theorem cFr_co : CO cFr := frC_co.comap frAt
theorem cGi_co : CO cGi := giC_co.comap giAt
end
theorem oFr : Ord (ltOf cFr) := cFr_co.ord
theorem oGi : Ord (ltOf cGi) := cGi_co.ord
def r8 (x : List PV) : Prop := Ok8 (frAt x).pt.ad.b
theorem atC_eq {a b : Fr} (ha : Ok8 a.pt.ad.b) (hb : Ok8 b.pt.ad.b) : atC a b = atR a b := by
  unfold atC atR
  rw [pt_eq a.pt b.pt ha hb, ky_eq]
theorem cFr_eq {x y : List PV} (hx : r8 x) (hy : r8 y) : cFr x y = rFr x y := by
  unfold cFr rFr
  rw [atC_eq hx hy]
theorem cGi_eq (x y : List PV) : cGi x y = rGi x y := by
  unfold cGi rGi
  rw [ky_eq]
end
section
open St
theorem num_some (a : Bool) : (bif a then some (vi 1) else some (vi 0)) = some (vi (num a)) := by cases a <;> rfl
theorem runFr {f : Nat} {T : Table} {k : Fr -> Fr -> Int} (ht : ∀ a b : Fr, apartS EN T H0 1000009 5 f [.agg a.cs, .agg b.cs] = some (vi (k a b))) (xs : List PV) (v : PV) (h : gRow2 KFr (fun x y => k (frAt x) (frAt y)) xs = some (true, v)) : ∃ H, apartS EN T H 1000009 5 f xs = some v := by
  obtain ⟨x, y, rfl, h1, h2, rfl⟩ := row2_some h
  have := ht (frAt x) (frAt y)
  rw [<- fr_of h1, <- fr_of h2] at this
  exact ⟨H0, this⟩
theorem runGi {f : Nat} {T : Table} {k : Gi -> Gi -> Int} (ht : ∀ a b : Gi, apartS EN T H0 1000009 5 f [.agg a.cs, .agg b.cs] = some (vi (k a b))) (xs : List PV) (v : PV) (h : gRow2 KGi (fun x y => k (giAt x) (giAt y)) xs = some (true, v)) : ∃ H, apartS EN T H 1000009 5 f xs = some v := by
  obtain ⟨x, y, rfl, h1, h2, rfl⟩ := row2_some h
  have := ht (giAt x) (giAt y)
  rw [<- gi_of h1, <- gi_of h2] at this
  exact ⟨H0, this⟩
theorem runNaN (xs : List PV) (v : PV) (h : gNaN xs = some (true, v)) : ∃ H, apartS EN T0 H 1000009 5 99 xs = some v := by
  unfold gNaN at h
  split at h
  . rename_i a
    simp only [Option.some.injEq, Prod.mk.injEq, true_and] at h
    subst h
    exact ⟨H0, (tNaN 1000009 a).trans (by simp)⟩
  . cases h
theorem runNaNs (xs : List PV) (v : PV) (h : gNaNs xs = some (true, v)) : ∃ H, apartS EN TP2 H 1000009 5 98 xs = some v := by
  unfold gNaNs at h
  split at h
  . rename_i a
    simp only [Option.some.injEq, Prod.mk.injEq, true_and] at h
    subst h
    exact ⟨H0, (tNaNs 1000009 a).trans (by simp)⟩
  . cases h
theorem runNum {f : Nat} {T : Table} (ht : ∀ a : Bool, apartS EN T H0 1000009 5 f [.bool a] = (bif a then some (vi 1) else some (vi 0))) (xs : List PV) (v : PV) (h : gNum xs = some (true, v)) : ∃ H, apartS EN T H 1000009 5 f xs = some v := by
  unfold gNum at h
  split at h
  . rename_i a
    simp only [Option.some.injEq, Prod.mk.injEq, true_and] at h
    subst h
    exact ⟨H0, (ht a).trans (num_some a)⟩
  . cases h
theorem runTru (xs : List PV) (v : PV) (h : gTru xs = some (true, v)) : ∃ H, apartS EN TP6 H 1000009 5 84 xs = some v := by
  unfold gTru at h
  split at h
  . rename_i a b
    simp only [Option.some.injEq, Prod.mk.injEq, true_and] at h
    subst h
    exact ⟨H0, tTru 1000009 a b⟩
  . cases h
theorem TP1ok : TR TP1 := TR0.add TR0 runNaN
theorem TP2ok : TR TP2 := TP1ok.add TP1ok (runCmp (tCmp 1000009))
theorem TP3ok : TR TP3 := TP2ok.add TP2ok runNaNs
theorem TP4ok : TR TP4 := TP3ok.add TP3ok (runCmpS (tCmpS 1000009))
theorem TP5ok : TR TP5 := TP4ok.add TP4ok (runOr (tOr2 1000000) (tOr4 1000000) (tOr5 1000000))
theorem TP6ok : TR TP6 := TP5ok.add TP5ok (runNum (tNum 1000009))
theorem TP7ok : TR TP7 := TP6ok.add TP6ok runTru
theorem TP8ok : TR TP8 := TP7ok.add TP7ok (runAd fun a b => (tAdC 1000009 a b).trans (adC_some a b))
theorem TP9ok : TR TP9 := TP8ok.add TP8ok (runPt (tPtC 1000009))
theorem TPAok : TR TPA := TP9ok.add TP9ok (runKy (tKyC 1000009))
theorem TPBok : TR TPB := TPAok.add TPAok (runFr (tAtC 1000009))
theorem TPCok : TR TPC := TPBok.add TPBok (runGi (tGiC 1000009))
theorem TR1ok : TR TR1 := TR0.add TR0 (runCmp (rLess 1000009))
theorem TR2ok : TR TR2 := TR1ok.add TR1ok (runCmpS (rText 1000009))
theorem TR3ok : TR TR3 := TR2ok.add TR2ok (runOr (rOr2 1000000) (rOr4 1000000) (rOr5 1000000))
theorem TR4ok : TR TR4 := TR3ok.add TR3ok (runNum (rNum 1000009))
theorem TR5ok : TR TR5 := TR4ok.add TR4ok (runAd fun a b => (rAd 999959 a b).trans (adR_some a b))
theorem TR6ok : TR TR6 := TR5ok.add TR5ok (runPt fun a b => (rPt 1000009 a b).trans (ptR_some a b))
theorem TR7ok : TR TR7 := TR6ok.add TR6ok (runKy fun a b => (rKyT 1000009 a b).trans (kyT_some a b))
theorem TR8ok : TR TR8 := TR7ok.add TR7ok (runFr (rAt 1000009))
theorem TR9ok : TR TR9 := TR8ok.add TR8ok (runFr (rFrT 1000009))
theorem TRAok : TR TRA := TR9ok.add TR9ok (runGi (rGiT 1000009))
theorem TCFr : TR (SF.TCF cFr) := TR0.addT TPCok (fun xs t v hg hv => by
  obtain ⟨x, y, rfl, h1, h2, rfl⟩ := leafRow hg hv
  have := tFrC 1000009 (frAt x) (frAt y)
  rw [<- fr_of h1, <- fr_of h2] at this
  exact ⟨H0, this⟩)
theorem TCGr : TR (SG.TCF cGi) := TR0.addT TPCok (fun xs t v hg hv => by
  obtain ⟨x, y, rfl, h1, h2, rfl⟩ := leafRow hg hv
  have := tGrC 1000009 (giAt x) (giAt y) (asI (x.getD 5 .nilp)) (asI (y.getD 5 .nilp)) (slCells (x.getD 6 .nilp)) (slCells (x.getD 7 .nilp)) (slCells (y.getD 6 .nilp)) (slCells (y.getD 7 .nilp)) (slLen (x.getD 6 .nilp)) (slLen (x.getD 7 .nilp)) (slLen (y.getD 6 .nilp)) (slLen (y.getD 7 .nilp))
  rw [<- gr_of h1, <- gr_of h2] at this
  exact ⟨H0, this⟩)
theorem TCFi : TR (SI.TCF cKy) := TR0.addT TPCok (fun xs t v hg hv => by
  obtain ⟨x, y, rfl, h1, h2, rfl⟩ := leafRow hg hv
  have := tFiC 1000009 (kyAt x 0) (kyAt y 0) (slCells (x.getD 2 .nilp)) (slCells (y.getD 2 .nilp)) (slLen (x.getD 2 .nilp)) (slLen (y.getD 2 .nilp))
  rw [<- fi_of h1, <- fi_of h2] at this
  exact ⟨H0, this⟩)
theorem okStF : TR (SF.TSt2F cFr) := SF.okSt2 oFr TCFr
theorem okStG : TR (SG.TSt2F cGi) := SG.okSt2 oGi TCGr
theorem okStI : TR (SI.TSt2F cKy) := SI.okSt2 oKy TCFi
end
section
open St
def etFr : Et := .st [.c (.int .i64), etPt, etKy, .c .str, .c (.int .i64), .c .bool, .c .bool, .c (.int .i64)]
def etGi : Et := .st [etKy, .c .str, .c .bool, .c .bool]
def eqFr (x y : List PV) : Bool := Et.eq x y etFr 0
def eqGi (x y : List PV) : Bool := Et.eq x y etGi 0
theorem e0SCi (N : Nat) (c d : List PV) (n m : Nat) : apartS EN T0 H0 N 5 43 [.sl c 18 n none, .sl d 18 m none] = (bif (n : Int) != (m : Int) then some (.bool false) else LEq 43 Tryz.f43 18 N N c d n m 0) := by kernel_rfl
theorem e1SCi (N q : Nat) (c d : List PV) (n m : Nat) (i : Int) : LEq 43 Tryz.f43 18 N (q + 1) c d n m i = rndE KPt 18 eqPt n m c d i (LEq 43 Tryz.f43 18 N q c d n m) := by kernel_rfl
theorem e0SPt (N : Nat) (c d : List PV) (n m : Nat) : apartS EN T0 H0 N 5 41 [.sl c 18 n none, .sl d 18 m none] = (bif (n : Int) != (m : Int) then some (.bool false) else LEq 41 Tryz.f41 18 N N c d n m 0) := by kernel_rfl
theorem e1SPt (N q : Nat) (c d : List PV) (n m : Nat) (i : Int) : LEq 41 Tryz.f41 18 N (q + 1) c d n m i = rndE KPt 18 eqPt n m c d i (LEq 41 Tryz.f41 18 N q c d n m) := by kernel_rfl
theorem e0SIn (N : Nat) (c d : List PV) (n m : Nat) : apartS EN T0 H0 N 5 42 [.sl c 1 n none, .sl d 1 m none] = (bif (n : Int) != (m : Int) then some (.bool false) else LEq 42 Tryz.f42 1 N N c d n m 0) := by kernel_rfl
theorem e1SIn (N q : Nat) (c d : List PV) (n m : Nat) (i : Int) : LEq 42 Tryz.f42 1 N (q + 1) c d n m i = rndE KIn 1 eqIn n m c d i (LEq 42 Tryz.f42 1 N q c d n m) := by kernel_rfl
end
section
open St
def KTb : List Kd := [.int .i64, .sl 18, .sl 1]
def okTb (x : List PV) (k : Nat) : Bool := okSl KPt (x.getD (k + 1) .nilp) && okSl KIn (x.getD (k + 2) .nilp)
def sameTb (x y : List PV) (k : Nat) : Bool := (asI (x.getD k .nilp) == asI (y.getD k .nilp)) && (sameSl 18 eqPt (x.getD (k + 1) .nilp) (y.getD (k + 1) .nilp) && sameSl 1 eqIn (x.getD (k + 2) .nilp) (y.getD (k + 2) .nilp))
def grOk (x : List PV) : Bool := wk KGr x && okTb x 5
def fiOk (x : List PV) : Bool := wk KFi x && okSl KPt (x.getD 2 .nilp)
def sameGr (x y : List PV) : Bool := eqGi x y && sameTb x y 5
def sameFi (x y : List PV) : Bool := eqKy x y && sameSl 18 eqPt (x.getD 2 .nilp) (y.getD 2 .nilp)
theorem sameSl_refl {es : Nat} {eq : List PV -> List PV -> Bool} (h : ∀ r, eq r r = true) (x : PV) : sameSl es eq x x = true := by
  unfold sameSl
  rw [Nat.beq_refl, eqRows_refl _ fun r _ => h r]
  rfl
theorem eqFr_refl (x : List PV) : eqFr x x = true := Et.eq_refl x _ _
theorem eqGi_refl (x : List PV) : eqGi x x = true := Et.eq_refl x _ _
theorem sameTb_refl (x : List PV) (k : Nat) : sameTb x x k = true := by
  unfold sameTb
  rw [sameSl_refl eqPt_refl, sameSl_refl eqIn_refl]
  simp
theorem sameGr_refl (x : List PV) : sameGr x x = true := by unfold sameGr; rw [eqGi_refl, sameTb_refl]; rfl
theorem sameFi_refl (x : List PV) : sameFi x x = true := by unfold sameFi; rw [eqKy_refl, sameSl_refl eqPt_refl]; rfl
def gAgg2 (ok : List PV -> Bool) (f : List PV -> List PV -> Bool) (xs : List PV) : Option (Bool × PV) := match xs with
  | [.agg x, .agg y] => some (ok x && ok y, .bool (f x y))
  | _ => none
theorem agg2_some {ok : List PV -> Bool} {f : List PV -> List PV -> Bool} {xs : List PV} {v : PV} (h : gAgg2 ok f xs = some (true, v)) : ∃ x y, xs = [.agg x, .agg y] /\ ok x = true /\ ok y = true /\ v = .bool (f x y) := by
  unfold gAgg2 at h
  split at h
  . rename_i x y
    simp only [Option.some.injEq, Prod.mk.injEq, Bool.and_eq_true] at h
    exact ⟨x, y, rfl, h.1.1, h.1.2, h.2.symm⟩
  . cases h
noncomputable def TQ : Table := Tadd (Tadd (Tadd T0 43 (gEq KPt 18 eqPt)) 41 (gEq KPt 18 eqPt)) 42 (gEq KIn 1 eqIn)
theorem TQok : TR TQ := ((TR0.add TR0 (runEq rfl e0SCi e1SCi)).add TR0 (runEq rfl e0SPt e1SPt)).add TR0 (runEq rfl e0SIn e1SIn)
def slAsk (es : Nat) (K : List Kd) (n m : Nat) (c d : List PV) : Bool := Nat.beq es es && (Nat.beq es es && (rowsC K n c && rowsC K m d))
def slEq (es : Nat) (eq : List PV -> List PV -> Bool) (n m : Nat) (c d : List PV) : Bool := Nat.beq n m && eqRows eq (chunks es n c) (chunks es m d)
def tbT (s t : Int) (c1 c2 d1 d2 : List PV) (n1 n2 m1 m2 : Nat) : Option PV :=
  bif s == t then
    (ass (oldL 0 c1) <| ass (oldL 0 d1) <| ass (slAsk 18 KPt n1 m1 c1 d1) <|
    bif slEq 18 eqPt n1 m1 c1 d1 then
      (ass (oldL 0 c2) <| ass (oldL 0 d2) <| ass (slAsk 1 KIn n2 m2 c2 d2) <| some (.bool (slEq 1 eqIn n2 m2 c2 d2)))
    else some (.bool false))
  else some (.bool false)
theorem rSg (N : Nat) (a b : Gi) (s t : Int) (c1 c2 d1 d2 : List PV) (n1 n2 m1 m2 : Nat) : apartS EN TQ H0 N 5 23 [.agg (a.cs ++ [vi s, .sl c1 18 n1 none, .sl c2 1 n2 none]), .agg (b.cs ++ [vi t, .sl d1 18 m1 none, .sl d2 1 m2 none])] =
  (bif eqGi a.cs b.cs then tbT s t c1 c2 d1 d2 n1 n2 m1 m2 else some (.bool false)) := by kernel_rfl
def fiT (a b : Ky) (c1 d1 : List PV) (n1 m1 : Nat) : Option PV :=
  bif eqKy a.cs b.cs then (ass (oldL 0 c1) <| ass (oldL 0 d1) <| ass (slAsk 18 KPt n1 m1 c1 d1) <| some (.bool (slEq 18 eqPt n1 m1 c1 d1))) else some (.bool false)
theorem rSf (N : Nat) (a b : Ky) (c1 d1 : List PV) (n1 m1 : Nat) : apartS EN TQ H0 N 5 24 [.agg (a.cs ++ [.sl c1 18 n1 none]), .agg (b.cs ++ [.sl d1 18 m1 none])] = fiT a b c1 d1 n1 m1 := by kernel_rfl
def gSg : List PV -> Option (Bool × PV) := gAgg2 grOk sameGr
def gSf : List PV -> Option (Bool × PV) := gAgg2 fiOk sameFi
theorem tb_some {x1 x2 y1 y2 : PV} {s t : Int} (h1 : okSl KPt x1 = true) (h2 : okSl KIn x2 = true) (h3 : okSl KPt y1 = true) (h4 : okSl KIn y2 = true) : tbT s t (slCells x1) (slCells x2) (slCells y1) (slCells y2) (slLen x1) (slLen x2) (slLen y1) (slLen y2) = some (.bool ((s == t) && (sameSl 18 eqPt x1 y1 && sameSl 1 eqIn x2 y2))) := by
  unfold tbT
  have a1 : slAsk 18 KPt (slLen x1) (slLen y1) (slCells x1) (slCells y1) = true := by
    unfold slAsk; unfold okSl at h1 h3; rw [h1, h3]; rfl
  have a2 : slAsk 1 KIn (slLen x2) (slLen y2) (slCells x2) (slCells y2) = true := by
    unfold slAsk; unfold okSl at h2 h4; rw [h2, h4]; rfl
  rw [ass_of (okSl_old h1), ass_of (okSl_old h3), ass_of a1, ass_of (okSl_old h2), ass_of (okSl_old h4), ass_of a2]
  rw [show slEq 18 eqPt (slLen x1) (slLen y1) (slCells x1) (slCells y1) = sameSl 18 eqPt x1 y1 from rfl, show slEq 1 eqIn (slLen x2) (slLen y2) (slCells x2) (slCells y2) = sameSl 1 eqIn x2 y2 from rfl]
  cases s == t <;> cases sameSl 18 eqPt x1 y1 <;> rfl
theorem fi_some {a b : Ky} {x1 y1 : PV} (h1 : okSl KPt x1 = true) (h3 : okSl KPt y1 = true) : fiT a b (slCells x1) (slCells y1) (slLen x1) (slLen y1) = some (.bool (eqKy a.cs b.cs && sameSl 18 eqPt x1 y1)) := by
  unfold fiT
  have a1 : slAsk 18 KPt (slLen x1) (slLen y1) (slCells x1) (slCells y1) = true := by
    unfold slAsk; unfold okSl at h1 h3; rw [h1, h3]; rfl
  rw [ass_of (okSl_old h1), ass_of (okSl_old h3), ass_of a1, show slEq 18 eqPt (slLen x1) (slLen y1) (slCells x1) (slCells y1) = sameSl 18 eqPt x1 y1 from rfl]
  cases eqKy a.cs b.cs <;> rfl
theorem tb_of {x : List PV} (h : wk KTb x = true) : x = [vi (asI (x.getD 0 .nilp)), .sl (slCells (x.getD 1 .nilp)) 18 (slLen (x.getD 1 .nilp)) none, .sl (slCells (x.getD 2 .nilp)) 1 (slLen (x.getD 2 .nilp)) none] := (shape_of h).symm
theorem gi_eq {x y : List PV} (hx : wk KGr x = true) (hy : wk KGr y = true) : eqGi (giAt x).cs (giAt y).cs = eqGi x y := by
  have e1 := gr_of hx
  have e2 := gr_of hy
  generalize hA : (giAt x).cs = A at e1 ⊢
  generalize hB : (giAt y).cs = B at e2 ⊢
  rw [e1, e2, <- hA, <- hB]
  rfl
theorem ky_eq2 {x y : List PV} (hx : wk KFi x = true) (hy : wk KFi y = true) : eqKy (kyAt x 0).cs (kyAt y 0).cs = eqKy x y := by
  have e1 := fi_of hx
  have e2 := fi_of hy
  generalize hA : (kyAt x 0).cs = A at e1 ⊢
  generalize hB : (kyAt y 0).cs = B at e2 ⊢
  rw [e1, e2, <- hA, <- hB]
  rfl
theorem runRSg (xs : List PV) (v : PV) (h : gSg xs = some (true, v)) : ∃ H, apartS EN TQ H 1000009 5 23 xs = some v := by
  obtain ⟨x, y, rfl, hx, hy, rfl⟩ := agg2_some h
  unfold grOk okTb at hx hy
  simp only [Bool.and_eq_true] at hx hy
  refine ⟨H0, ?_⟩
  have := rSg 1000009 (giAt x) (giAt y) (asI (x.getD 5 .nilp)) (asI (y.getD 5 .nilp)) (slCells (x.getD 6 .nilp)) (slCells (x.getD 7 .nilp)) (slCells (y.getD 6 .nilp)) (slCells (y.getD 7 .nilp)) (slLen (x.getD 6 .nilp)) (slLen (x.getD 7 .nilp)) (slLen (y.getD 6 .nilp)) (slLen (y.getD 7 .nilp))
  rw [<- gr_of hx.1, <- gr_of hy.1, tb_some hx.2.1 hx.2.2 hy.2.1 hy.2.2, gi_eq hx.1 hy.1] at this
  rw [this]
  unfold sameGr sameTb
  cases eqGi x y <;> rfl
theorem runRSf {f : Nat} (ht : ∀ (N : Nat) (a b : Ky) (c1 d1 : List PV) (n1 m1 : Nat), apartS EN TQ H0 N 5 f [.agg (a.cs ++ [.sl c1 18 n1 none]), .agg (b.cs ++ [.sl d1 18 m1 none])] = fiT a b c1 d1 n1 m1) (xs : List PV) (v : PV) (h : gSf xs = some (true, v)) : ∃ H, apartS EN TQ H 1000009 5 f xs = some v := by
  obtain ⟨x, y, rfl, hx, hy, rfl⟩ := agg2_some h
  unfold fiOk at hx hy
  simp only [Bool.and_eq_true] at hx hy
  refine ⟨H0, ?_⟩
  have := (ht 1000009 (kyAt x 0) (kyAt y 0) _ _ _ _).trans (fi_some hx.2 hy.2)
  rw [<- fi_of hx.1, <- fi_of hy.1, ky_eq2 hx.1 hy.1] at this
  exact this
noncomputable def TQ2 : Table := Tadd (Tadd TQ 23 gSg) 24 gSf
theorem TQ2ok : TR TQ2 := (TQok.add TQok runRSg).add TQok (runRSf rSf)
end
end Go.Proofs.YtpbemfikhmeedaaGreatDoor.Am
