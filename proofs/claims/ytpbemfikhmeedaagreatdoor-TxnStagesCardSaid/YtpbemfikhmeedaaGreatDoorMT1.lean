/- txn.without: rows but for those that an op is about. -/
import Derived.Test.YtpbemfikhmeedaaGreatDoorMR
import Derived.Test.YtpbemfikhmeedaaGreatDoorMD
import Derived.Test.YtpbemfikhmeedaaGreatDoorML
set_option linter.unusedVariables false
set_option linter.unusedSimpArgs false
set_option maxRecDepth 100000
set_option maxHeartbeats 8000000
namespace Go.Proofs.YtpbemfikhmeedaaGreatDoor.Am
section
open St
noncomputable def TWo1 : Table := TaddT (TaddT T0 21 gCp) 44 OF.gDf
noncomputable def TWo2 : Table := TaddT TWo1 47 OG.gDf
noncomputable def TWo : Table := TaddT TWo2 49 OI.gDf
theorem TWook : TR TWo := ((okCp.addF OF.TIxok OF.runDf).addF OG.TIxok OG.runDf).addF OI.TIxok OI.runDf
def oOld (k : Nat) (u : List PV) : List Bool := [oldO k u 33, oldO k u 34, oldO k u 37]
def lenN (b : Bool) (n : Nat) : Nat := bif b then n else 0
def lenB (bf bg bi : Bool) (nf ng ni : Nat) : Int := IntKind.i64.wrap (IntKind.i64.wrap ((lenN bf nf : Int) + (lenN bg ng : Int)) + (lenN bi ni : Int))
def woF (r : Rw) (u : List PV) (bf bg bi : Bool) : Option PV :=
  asks (bif bf then [oldL 0 r.fc] ++ (oOld 0 u ++ [(r.nf == r.nf) && ((r.nf == r.nf) && (OF.askX u && rowsC KFr r.nf r.fc))]) else oOld 0 u ++ [Nat.beq 26 26 && OF.askX u]) <|
  asks (bif bf then [oldL 0 (OF.dfC r.nf r.fc u)] ++ oOld 0 u else oOld 0 u) <|
  asks (ifb bf (sealAskW (OF.dfC r.nf r.fc u) r.nf (OF.dfN r.nf r.fc u) 26)) <|
  asks (ifb bg (sealAskW r.gc r.ng r.ng 8)) <|
  asks (ifb bi (sealAskW r.ic r.ni r.ni 3)) <|
  asks (ifb bf [oldL 0 (((OF.dfC r.nf r.fc u).drop 0).take ((OF.dfN r.nf r.fc u) * 26))]) <|
  asks (ifb bg [oldL 0 ((r.gc.drop 0).take (r.ng * 8))]) <|
  asks (ifb bi [oldL 0 ((r.ic.drop 0).take (r.ni * 3))]) <|
  some (.tup [.agg [sealD bf (OF.dfC r.nf r.fc u) (OF.dfN r.nf r.fc u) 26, sealD bg r.gc r.ng 8, sealD bi r.ic r.ni 3], .bool (decide (lenB bf bg bi (OF.dfN r.nf r.fc u) r.ng r.ni < lenB bf bg bi r.nf r.ng r.ni))])
def woG (r : Rw) (u : List PV) (bf bg bi : Bool) : Option PV :=
  asks (bif bg then [oldL 0 r.gc] ++ (oOld 0 u ++ [(r.ng == r.ng) && ((r.ng == r.ng) && (OG.askX u && rowsC KGr r.ng r.gc))]) else oOld 0 u ++ [Nat.beq 8 8 && OG.askX u]) <|
  asks (bif bg then [oldL 0 (OG.dfC r.ng r.gc u)] ++ oOld 0 u else oOld 0 u) <|
  asks (ifb bf (sealAskW r.fc r.nf r.nf 26)) <|
  asks (ifb bg (sealAskW (OG.dfC r.ng r.gc u) r.ng (OG.dfN r.ng r.gc u) 8)) <|
  asks (ifb bi (sealAskW r.ic r.ni r.ni 3)) <|
  asks (ifb bf [oldL 0 ((r.fc.drop 0).take (r.nf * 26))]) <|
  asks (ifb bg [oldL 0 (((OG.dfC r.ng r.gc u).drop 0).take ((OG.dfN r.ng r.gc u) * 8))]) <|
  asks (ifb bi [oldL 0 ((r.ic.drop 0).take (r.ni * 3))]) <|
  some (.tup [.agg [sealD bf r.fc r.nf 26, sealD bg (OG.dfC r.ng r.gc u) (OG.dfN r.ng r.gc u) 8, sealD bi r.ic r.ni 3], .bool (decide (lenB bf bg bi r.nf (OG.dfN r.ng r.gc u) r.ni < lenB bf bg bi r.nf r.ng r.ni))])
def woI (r : Rw) (u : List PV) (bf bg bi : Bool) : Option PV :=
  asks (bif bi then [oldL 0 r.ic] ++ (oOld 0 u ++ [(r.ni == r.ni) && ((r.ni == r.ni) && (OI.askX u && rowsC KFi r.ni r.ic))]) else oOld 0 u ++ [Nat.beq 3 3 && OI.askX u]) <|
  asks (bif bi then [oldL 0 (OI.dfC r.ni r.ic u)] ++ oOld 0 u else oOld 0 u) <|
  asks (ifb bf (sealAskW r.fc r.nf r.nf 26)) <|
  asks (ifb bg (sealAskW r.gc r.ng r.ng 8)) <|
  asks (ifb bi (sealAskW (OI.dfC r.ni r.ic u) r.ni (OI.dfN r.ni r.ic u) 3)) <|
  asks (ifb bf [oldL 0 ((r.fc.drop 0).take (r.nf * 26))]) <|
  asks (ifb bg [oldL 0 ((r.gc.drop 0).take (r.ng * 8))]) <|
  asks (ifb bi [oldL 0 (((OI.dfC r.ni r.ic u).drop 0).take ((OI.dfN r.ni r.ic u) * 3))]) <|
  some (.tup [.agg [sealD bf r.fc r.nf 26, sealD bg r.gc r.ng 8, sealD bi (OI.dfC r.ni r.ic u) (OI.dfN r.ni r.ic u) 3], .bool (decide (lenB bf bg bi r.nf r.ng (OI.dfN r.ni r.ic u) < lenB bf bg bi r.nf r.ng r.ni))])
def woN (r : Rw) (u : List PV) (bf bg bi : Bool) : Option PV :=
  asks (ifb bf (sealAskW r.fc r.nf r.nf 26)) <|
  asks (ifb bg (sealAskW r.gc r.ng r.ng 8)) <|
  asks (ifb bi (sealAskW r.ic r.ni r.ni 3)) <|
  asks (ifb bf [oldL 0 ((r.fc.drop 0).take (r.nf * 26))]) <|
  asks (ifb bg [oldL 0 ((r.gc.drop 0).take (r.ng * 8))]) <|
  asks (ifb bi [oldL 0 ((r.ic.drop 0).take (r.ni * 3))]) <|
  some (.tup [.agg [sealD bf r.fc r.nf 26, sealD bg r.gc r.ng 8, sealD bi r.ic r.ni 3], .bool (decide (lenB bf bg bi r.nf r.ng r.ni < lenB bf bg bi r.nf r.ng r.ni))])
def woT (r : Rw) (u : List PV) (bf bg bi : Bool) : Option PV :=
  asks [r.ok] <| asks (ifb bf [oldL 0 r.fc]) <| asks (ifb bg [oldL 0 r.gc]) <| asks (ifb bi [oldL 0 r.ic]) <|
  bif opK u == 1 then woF r u bf bg bi else bif opK u == 2 then woF r u bf bg bi else bif opK u == 3 then woG r u bf bg bi else bif opK u == 4 then woG r u bf bg bi else bif opK u == 5 then woI r u bf bg bi else bif opK u == 6 then woI r u bf bg bi else woN r u bf bg bi
theorem tWo (N : Nat) (r : Rw) (u : List PV) : apartS EN TWo H0 N 5 26 [r.pv, .agg (shapeAt KOp u 0)] =
  (asks [oldL 0 r.fc, oldL 0 r.gc, oldL 0 r.ic] <| clB r.nf fun bf => clB r.ng fun bg => clB r.ni fun bi => woT r (shapeAt KOp u 0) bf bg bi) := by kernel_rfl
structure Part (b : Bool) (c : List PV) (n m es : Nat) (R : List (List PV)) : Prop where
  ask : (ifb b (sealAskW c n m es)).all id = true
  old : (ifb b [oldL 0 ((c.drop 0).take (m * es))]).all id = true
  val : sealD b c m es = .sl R.flatten es R.length none
  len : lenN b m = R.length
theorem ifk {b : Bool} {l : List Bool} (h : l.all id = true) : (ifb b l).all id = true := by cases b <;> first | rfl | exact h
theorem part_cut {K : List Kd} {Z : List PV} {R : List (List PV)} (p : List PV -> Bool) {n : Nat} (h : rowsOk K R = true) (hl : R.length = n) (hz : Z.length = K.length) (ho : oldL 0 Z = true) (hk : 0 < K.length) :
    Part (!Nat.beq n 0) (outC n (R.filter p) Z) n (R.filter p).length K.length (R.filter p) := by
  have hle := List.length_filter_le p R
  obtain ⟨o1, o2, o3⟩ := out_ok (n := n) (rowsOk_filter h p) hz ho hk (by omega)
  refine ⟨ifk o2, ifk (by rw [o3]; exact ask1 (rows_old (rowsOk_filter h p))), sealD_ok p h hl hz ho hk, ?_⟩
  unfold lenN
  cases hb : Nat.beq n 0 with
  | true =>
    have := Nat.eq_of_beq_eq_true hb
    rw [Bool.not_true, cond_false]
    omega
  | false => rw [Bool.not_false, cond_true]
theorem part_all {K : List Kd} {R : List (List PV)} {n : Nat} {c : List PV} (h : rowsOk K R = true) (hl : R.length = n) (hc : R.flatten = c) (hk : 0 < K.length) : Part (!Nat.beq n 0) c n n K.length R := by
  have l1 := rows_len h
  have e : (c.drop 0).take (n * K.length) = R.flatten := by rw [<- hc, List.drop_zero, List.take_of_length_le (by rw [l1, hl]; exact Nat.le_refl _)]
  refine ⟨ifk ?_, ifk (by rw [e]; exact ask1 (rows_old h)), ?_, ?_⟩
  . unfold sealAskW
    rw [e]
    have : n * K.length <= c.length := by rw [<- hc, l1, hl]; exact Nat.le_refl _
    simp only [beq_self_eq_true, Bool.true_and, List.all_cons, List.all_nil, id, Bool.and_true, Bool.and_eq_true, decide_eq_true_eq]
    exact ⟨by omega, hk, calm_old (rows_old h)⟩
  . unfold sealD
    cases hb : Nat.beq n 0 with
    | true =>
      have hn := Nat.eq_of_beq_eq_true hb
      have : R = [] := List.eq_nil_of_length_eq_zero (by omega)
      rw [this]
      rfl
    | false => rw [Bool.not_false, cond_true, e, hl]
  . unfold lenN
    cases hb : Nat.beq n 0 with
    | true =>
      have := Nat.eq_of_beq_eq_true hb
      rw [Bool.not_true, cond_false]
      omega
    | false => rw [Bool.not_false, cond_true, hl]
def kF (u : List PV) : Bool := opK u == 1 || opK u == 2
def kG (u : List PV) : Bool := opK u == 3 || opK u == 4
def kI (u : List PV) : Bool := opK u == 5 || opK u == 6
def keepF (u : List PV) (R : List (List PV)) : List (List PV) := bif kF u then R.filter (stayF u) else R
def keepG (u : List PV) (R : List (List PV)) : List (List PV) := bif kG u then R.filter (stayG u) else R
def keepI (u : List PV) (R : List (List PV)) : List (List PV) := bif kI u then R.filter (stayI u) else R
def Rw.rest (r : Rw) (u : List PV) : Rw := Rw.mk' (keepF u r.F) (keepG u r.G) (keepI u r.I)
def Rw.len (r : Rw) : Int := IntKind.i64.wrap (IntKind.i64.wrap ((r.nf : Int) + (r.ng : Int)) + (r.ni : Int))
def askO (u : List PV) : Bool := wk KOp u && oldL 0 u
theorem oOld_ok {u : List PV} (h : askO u = true) (k : Nat) : (oOld k u).all id = true := by
  unfold oOld
  rw [ox_ok h, ox_ok h, ox_ok h]
  rfl
theorem all_app' {a b : List Bool} (h : a.all id = true) (k : b.all id = true) : (a ++ b).all id = true := by rw [List.all_append, h, k]; rfl
theorem wo_tail {bf bg bi : Bool} {cF cG cI : List PV} {nf ng ni mF mG mI : Nat} {F G I : List (List PV)} {X : Int} (p : Part bf cF nf mF 26 F) (q : Part bg cG ng mG 8 G) (s : Part bi cI ni mI 3 I) (hx : lenB bf bg bi nf ng ni = X) :
    (asks (ifb bf (sealAskW cF nf mF 26)) <| asks (ifb bg (sealAskW cG ng mG 8)) <| asks (ifb bi (sealAskW cI ni mI 3)) <|
      asks (ifb bf [oldL 0 ((cF.drop 0).take (mF * 26))]) <| asks (ifb bg [oldL 0 ((cG.drop 0).take (mG * 8))]) <| asks (ifb bi [oldL 0 ((cI.drop 0).take (mI * 3))]) <|
      some (PV.tup [PV.agg [sealD bf cF mF 26, sealD bg cG mG 8, sealD bi cI mI 3], PV.bool (decide (lenB bf bg bi mF mG mI < lenB bf bg bi nf ng ni))])) =
    some (PV.tup [(Rw.mk' F G I).pv, PV.bool (decide ((Rw.mk' F G I).len < X))]) := by
  rw [asks_of p.ask, asks_of q.ask, asks_of s.ask, asks_of p.old, asks_of q.old, asks_of s.old, p.val, q.val, s.val, hx]
  unfold lenB
  rw [p.len, q.len, s.len]
  rfl
theorem wo_ok {r : Rw} {u : List PV} (h : r.ok = true) (hu : askO u = true) : woT r u (!Nat.beq r.nf 0) (!Nat.beq r.ng 0) (!Nat.beq r.ni 0) = some (.tup [(r.rest u).pv, .bool (decide ((r.rest u).len < r.len))]) := by
  have lx := Rw.lists h
  have hC := Rw.ok_0 h
  unfold Rw.ok0 at hC
  simp only [Bool.and_eq_true] at hC
  obtain ⟨c1, c2, c3⟩ := hC
  have fo : oldL 0 r.fc = true := by rw [<- lx.fc]; exact rows_old lx.f
  have go : oldL 0 r.gc = true := by rw [<- lx.gc]; exact rows_old lx.g
  have io : oldL 0 r.ic = true := by rw [<- lx.ic]; exact rows_old lx.i
  have pF := part_all lx.f lx.nf lx.fc (by decide)
  have pG := part_all lx.g lx.ng lx.gc (by decide)
  have pI := part_all lx.i lx.ni lx.ic (by decide)
  have qF := part_cut (Z := OF.ZR) (stayF u) lx.f lx.nf rfl rfl (by decide)
  have qG := part_cut (Z := OG.ZR) (stayG u) lx.g lx.ng rfl rfl (by decide)
  have qI := part_cut (Z := OI.ZR) (stayI u) lx.i lx.ni rfl rfl (by decide)
  have oF := (out_ok (Z := OF.ZR) (n := r.nf) (rowsOk_filter lx.f (stayF u)) rfl rfl (by decide) (lx.nf ▸ List.length_filter_le _ _)).1
  have oG := (out_ok (Z := OG.ZR) (n := r.ng) (rowsOk_filter lx.g (stayG u)) rfl rfl (by decide) (lx.ng ▸ List.length_filter_le _ _)).1
  have oI := (out_ok (Z := OI.ZR) (n := r.ni) (rowsOk_filter lx.i (stayI u)) rfl rfl (by decide) (lx.ni ▸ List.length_filter_le _ _)).1
  have hO := oOld_ok hu
  have l0 : lenB (!Nat.beq r.nf 0) (!Nat.beq r.ng 0) (!Nat.beq r.ni 0) r.nf r.ng r.ni = r.len := by
    unfold lenB Rw.len
    rw [pF.len, pG.len, pI.len, lx.nf, lx.ng, lx.ni]
  rw [show KFr.length = 26 from rfl] at pF qF
  rw [show KGr.length = 8 from rfl] at pG qG
  rw [show KFi.length = 3 from rfl] at pI qI
  have hu' : wk KOp u = true /\ oldL 0 u = true := by unfold askO at hu; simpa using hu
  have xF : OF.askX u = true := hu
  have xG : OG.askX u = true := hu
  have xI : OI.askX u = true := hu
  have hF : woF r u (!Nat.beq r.nf 0) (!Nat.beq r.ng 0) (!Nat.beq r.ni 0) = some (.tup [(Rw.mk' (r.F.filter (stayF u)) r.G r.I).pv, .bool (decide ((Rw.mk' (r.F.filter (stayF u)) r.G r.I).len < r.len))]) := by
    have a1 : ((bif !Nat.beq r.nf 0 then [oldL 0 r.fc] ++ (oOld 0 u ++ [(r.nf == r.nf) && ((r.nf == r.nf) && (OF.askX u && rowsC KFr r.nf r.fc))]) else oOld 0 u ++ [Nat.beq 26 26 && OF.askX u]) : List Bool).all id = true := by
      cases !Nat.beq r.nf 0 with
      | true => exact all_app' (ask1 fo) (all_app' (hO 0) (ask1 (by rw [xF, c1]; simp)))
      | false => exact all_app' (hO 0) (ask1 (by rw [xF]; rfl))
    have a2 : ((bif !Nat.beq r.nf 0 then [oldL 0 (OF.dfC r.nf r.fc u)] ++ oOld 0 u else oOld 0 u) : List Bool).all id = true := by
      cases !Nat.beq r.nf 0 with
      | true => exact all_app' (ask1 oF) (hO 0)
      | false => exact hO 0
    unfold woF
    rw [asks_of a1, asks_of a2]
    exact wo_tail qF pG pI l0
  have hG : woG r u (!Nat.beq r.nf 0) (!Nat.beq r.ng 0) (!Nat.beq r.ni 0) = some (.tup [(Rw.mk' r.F (r.G.filter (stayG u)) r.I).pv, .bool (decide ((Rw.mk' r.F (r.G.filter (stayG u)) r.I).len < r.len))]) := by
    have a1 : ((bif !Nat.beq r.ng 0 then [oldL 0 r.gc] ++ (oOld 0 u ++ [(r.ng == r.ng) && ((r.ng == r.ng) && (OG.askX u && rowsC KGr r.ng r.gc))]) else oOld 0 u ++ [Nat.beq 8 8 && OG.askX u]) : List Bool).all id = true := by
      cases !Nat.beq r.ng 0 with
      | true => exact all_app' (ask1 go) (all_app' (hO 0) (ask1 (by rw [xG, c2]; simp)))
      | false => exact all_app' (hO 0) (ask1 (by rw [xG]; rfl))
    have a2 : ((bif !Nat.beq r.ng 0 then [oldL 0 (OG.dfC r.ng r.gc u)] ++ oOld 0 u else oOld 0 u) : List Bool).all id = true := by
      cases !Nat.beq r.ng 0 with
      | true => exact all_app' (ask1 oG) (hO 0)
      | false => exact hO 0
    unfold woG
    rw [asks_of a1, asks_of a2]
    exact wo_tail pF qG pI l0
  have hI : woI r u (!Nat.beq r.nf 0) (!Nat.beq r.ng 0) (!Nat.beq r.ni 0) = some (.tup [(Rw.mk' r.F r.G (r.I.filter (stayI u))).pv, .bool (decide ((Rw.mk' r.F r.G (r.I.filter (stayI u))).len < r.len))]) := by
    have a1 : ((bif !Nat.beq r.ni 0 then [oldL 0 r.ic] ++ (oOld 0 u ++ [(r.ni == r.ni) && ((r.ni == r.ni) && (OI.askX u && rowsC KFi r.ni r.ic))]) else oOld 0 u ++ [Nat.beq 3 3 && OI.askX u]) : List Bool).all id = true := by
      cases !Nat.beq r.ni 0 with
      | true => exact all_app' (ask1 io) (all_app' (hO 0) (ask1 (by rw [xI, c3]; simp)))
      | false => exact all_app' (hO 0) (ask1 (by rw [xI]; rfl))
    have a2 : ((bif !Nat.beq r.ni 0 then [oldL 0 (OI.dfC r.ni r.ic u)] ++ oOld 0 u else oOld 0 u) : List Bool).all id = true := by
      cases !Nat.beq r.ni 0 with
      | true => exact all_app' (ask1 oI) (hO 0)
      | false => exact hO 0
    unfold woI
    rw [asks_of a1, asks_of a2]
    exact wo_tail pF pG qI l0
  have hN : woN r u (!Nat.beq r.nf 0) (!Nat.beq r.ng 0) (!Nat.beq r.ni 0) = some (.tup [(Rw.mk' r.F r.G r.I).pv, .bool (decide ((Rw.mk' r.F r.G r.I).len < r.len))]) := by
    unfold woN
    exact wo_tail pF pG pI l0
  unfold woT
  rw [asks_of (ask1 h), asks_of (ifk (ask1 fo)), asks_of (ifk (ask1 go)), asks_of (ifk (ask1 io)), hF, hG, hI, hN]
  unfold Rw.rest keepF keepG keepI kF kG kI
  by_cases k1 : opK u = 1
  . rw [k1]; rfl
  by_cases k2 : opK u = 2
  . rw [k2]; rfl
  by_cases k3 : opK u = 3
  . rw [k3]; rfl
  by_cases k4 : opK u = 4
  . rw [k4]; rfl
  by_cases k5 : opK u = 5
  . rw [k5]; rfl
  by_cases k6 : opK u = 6
  . rw [k6]; rfl
  have e : ∀ k : Int, opK u ≠ k -> (opK u == k) = false := fun k hk => by simpa using hk
  rw [e 1 k1, e 2 k2, e 3 k3, e 4 k4, e 5 k5, e 6 k6]
  rfl
def gWo (xs : List PV) : Option (Bool × PV) := match xs with
  | [x, .agg u] => (asRw x).map fun r => (r.ok && askO u, .tup [(r.rest u).pv, .bool (decide ((r.rest u).len < r.len))])
  | _ => none
theorem runWo (xs : List PV) (v : PV) (h : gWo xs = some (true, v)) : ∃ H, apartS EN TWo H 1000009 5 26 xs = some v := by
  unfold gWo at h
  split at h
  . rename_i x u
    simp only [Option.map_eq_some_iff, Prod.mk.injEq, Bool.and_eq_true] at h
    obtain ⟨r, hr, ⟨hk, hu⟩, rfl⟩ := h
    rw [asRw_ok hr]
    have lx := Rw.lists hk
    have t := tWo 1000009 r u
    rw [op_of hu] at t
    refine ⟨H0, t.trans ?_⟩
    rw [asks_of (by
      rw [<- lx.fc, <- lx.gc, <- lx.ic, rows_old lx.f, rows_old lx.g, rows_old lx.i]
      rfl), clB_of, clB_of, clB_of, nob, nob, nob]
    exact wo_ok hk hu
  . cases h
theorem okWo : TR (Tadd T0 26 gWo) := TR0.add TWook runWo
end
section
open St
theorem opF_ok {u : List PV} (h : askO u = true) : wk KFr (opF u) = true /\ oldL 0 (opF u) = true := ⟨rfl, rfl⟩
theorem opG_ok {u : List PV} (h : askO u = true) : wk KGr (opG u) = true /\ oldL 0 (opG u) = true := by
  refine ⟨rfl, ?_⟩
  have h1 := ox_ok h 0 33
  have h2 := ox_ok h 0 34
  unfold oldO at h1 h2
  show oldL 0 [.str _, .str _, .str _, .bool _, .bool _, .int .i64 _, .sl (slCells (u.getD 33 .nilp)) 18 _ none, .sl (slCells (u.getD 34 .nilp)) 1 _ none] = true
  simp only [oldL, oldV, h1, h2, Bool.and_self]
theorem opI_ok {u : List PV} (h : askO u = true) : wk KFi (opI u) = true /\ oldL 0 (opI u) = true := by
  refine ⟨rfl, ?_⟩
  have h1 := ox_ok h 0 37
  unfold oldO at h1
  show oldL 0 [.str _, .str _, .sl (slCells (u.getD 37 .nilp)) 18 _ none] = true
  simp only [oldL, oldV, h1, Bool.and_self]
def putF (u : List PV) : List (List PV) := bif opK u == 1 then [opF u] else []
def putG (u : List PV) : List (List PV) := bif opK u == 3 then [opG u] else []
def putI (u : List PV) : List (List PV) := bif opK u == 5 then [opI u] else []
def moreR (u : List PV) : Rw := Rw.mk' (putF u) (putG u) (putI u)
def gPut (xs : List PV) : Option (Bool × PV) := match xs with
  | [.agg u] => some (askO u, (moreR u).pv)
  | _ => none
theorem tPut (N : Nat) (u : List PV) : apartS EN T0 H0 N 5 27 [.agg (shapeAt KOp u 0)] =
  (bif opK u == 1 then some (.agg [.sl (opF u) 26 1 none, .sl [] 8 0 none, .sl [] 3 0 none])
   else bif opK u == 3 then (asks [oldL 0 (opG u)] <| some (.agg [.sl [] 26 0 none, .sl (opG u) 8 1 none, .sl [] 3 0 none]))
   else bif opK u == 5 then (asks [oldL 0 (opI u)] <| some (.agg [.sl [] 26 0 none, .sl [] 8 0 none, .sl (opI u) 3 1 none]))
   else some (.agg [.sl [] 26 0 none, .sl [] 8 0 none, .sl [] 3 0 none])) := by kernel_rfl
theorem runPut (xs : List PV) (v : PV) (h : gPut xs = some (true, v)) : ∃ H, apartS EN T0 H 1000009 5 27 xs = some v := by
  unfold gPut at h
  split at h
  . rename_i u
    simp only [Option.some.injEq, Prod.mk.injEq] at h
    obtain ⟨hu, rfl⟩ := h
    have t := tPut 1000009 u
    rw [op_of hu] at t
    refine ⟨H0, t.trans ?_⟩
    rw [asks_of (ask1 (opG_ok hu).2), asks_of (ask1 (opI_ok hu).2)]
    unfold moreR putF putG putI
    by_cases k1 : opK u = 1
    . rw [k1]; simp [Rw.mk', Rw.pv]
    by_cases k3 : opK u = 3
    . rw [k3]; simp [Rw.mk', Rw.pv]
    by_cases k5 : opK u = 5
    . rw [k5]; simp [Rw.mk', Rw.pv]
    have e : ∀ k : Int, opK u ≠ k -> (opK u == k) = false := fun k hk => by simpa using hk
    rw [e 1 k1, e 3 k3, e 5 k5]
    rfl
  . cases h
noncomputable def TDo : Table := Tadd (Tadd (Tadd T0 26 gWo) 27 gPut) 29 gJoin
theorem TDook : TR TDo := (okWo.add TR0 runPut).add TJook runJoin
def nilRows : PV := .agg [.sl [] 26 0 none, .sl [] 8 0 none, .sl [] 3 0 none]
def errK : PV := .iface 195 (.gptr 6)
def errN : PV := .iface 195 (.gptr 10)
def joinT (r : Rw) (u : List PV) : Option PV :=
  asks [oldL 0 (c6 (r.rest u) (moreR u))] <| asks [jC 2 (c6 (r.rest u) (moreR u))] <| asks (o3 0 (jA 2 (c6 (r.rest u) (moreR u)))) <| some (.tup [(jA 2 (c6 (r.rest u) (moreR u))).pv, .nilif])
def doT (r : Rw) (u : List PV) : Option PV :=
  asks [oldL 0 r.fc, oldL 0 r.gc, oldL 0 r.ic] <| asks (oOld 0 u) <| asks [r.ok && askO u] <| asks (oOld 0 u) <| asks [askO u] <|
  bif (moreR u).len == 0 then (bif !decide ((r.rest u).len < r.len) then some (.tup [nilRows, errN]) else joinT r u) else joinT r u
theorem tDo (N : Nat) (r : Rw) (u : List PV) : apartS EN TDo H0 N 5 13 [r.pv, .agg (shapeAt KOp u 0)] =
  (bif decide (opK (shapeAt KOp u 0) ≥ 1) then (bif !decide (opK (shapeAt KOp u 0) <= 6) then some (.tup [nilRows, errK]) else doT r (shapeAt KOp u 0)) else some (.tup [nilRows, errK])) := by kernel_rfl
theorem so_okR {r : Rw} (h : r.ok = true) : r.so.ok = true /\ r.so.F = insAll (ltOf cFr) r.F /\ r.so.G = insAll (ltOf cGi) r.G /\ r.so.I = insAll (ltOf cKy) r.I := by
  have lx := Rw.lists h
  have e : r.so = Rw.mk' (insAll (ltOf cFr) r.F) (insAll (ltOf cGi) r.G) (insAll (ltOf cKy) r.I) := by
    unfold Rw.so Rw.mk'
    rw [insAll_len, insAll_len, insAll_len, lx.nf, lx.ng, lx.ni]
  rw [e]
  have := lx.nf
  have := lx.ng
  have := lx.ni
  have := lx.mf
  have := lx.mg
  have := lx.mi
  exact mk_ok (rows_ins lx.f) (rows_ins lx.g) (rows_ins lx.i) (by rw [insAll_len]; omega) (by rw [insAll_len]; omega) (by rw [insAll_len]; omega) (fun x hx => lx.gk x ((mem_insAll _ _ _).1 hx)) (fun x hx => lx.ik x ((mem_insAll _ _ _).1 hx))
theorem c6_ok {a b : Rw} (h : a.ok = true) (k : b.ok = true) : oldL 0 (c6 a b) = true /\ rowsC KRw 2 (c6 a b) = true := by
  have lr := Rw.lists h
  have ls := Rw.lists k
  have hold : oldL 0 (c6 a b) = true := by
    unfold c6
    simp only [oldL, oldV, <- lr.fc, <- lr.gc, <- lr.ic, <- ls.fc, <- ls.gc, <- ls.ic, rows_old lr.f, rows_old lr.g, rows_old lr.i, rows_old ls.f, rows_old ls.g, rows_old ls.i, Bool.and_self]
  refine ⟨hold, ?_⟩
  have hr : rowsOk KRw [[.sl a.fc 26 a.nf none, .sl a.gc 8 a.ng none, .sl a.ic 3 a.ni none], [.sl b.fc 26 b.nf none, .sl b.gc 8 b.ng none, .sl b.ic 3 b.ni none]] = true := by
    unfold rowsOk
    simp only [List.all_cons, List.all_nil, oldL, oldV, <- lr.fc, <- lr.gc, <- lr.ic, <- ls.fc, <- ls.gc, <- ls.ic, rows_old lr.f, rows_old lr.g, rows_old lr.i, rows_old ls.f, rows_old ls.g, rows_old ls.i, Bool.and_self]
    rfl
  exact rowsC_of hr (show 2 <= 1000000 by decide)
def known (u : List PV) : Bool := decide (opK u ≥ 1) && decide (opK u <= 6)
def noneP (r : Rw) (u : List PV) : Bool := (moreR u).len == 0 && !decide ((r.rest u).len < r.len)
def doP (r : Rw) (u : List PV) : Rw := (jo [r.rest u, moreR u]).so
theorem joinT_ok {r : Rw} {u : List PV} (hj : joOk [r.rest u, moreR u] = true) : joinT r u = some (.tup [(doP r u).pv, .nilif]) := by
  have J := JL.of hj
  have h1 : (r.rest u).ok = true := J.ok _ (by simp)
  have h2 : (moreR u).ok = true := J.ok _ (by simp)
  obtain ⟨c1, c2⟩ := c6_ok h1 h2
  have hs : (doP r u).ok = true := (so_okR (jo_ok hj).1).1
  have e : jA 2 (c6 (r.rest u) (moreR u)) = doP r u := rfl
  unfold joinT
  rw [asks_of (ask1 c1), e, asks_of (ask1 (by
    unfold jC
    rw [c2, show (chunks 3 2 (c6 (r.rest u) (moreR u))).map rwOf = [r.rest u, moreR u] from rfl, hj]
    rfl)), asks_of (o3_ok hs 0)]
def gDo (xs : List PV) : Option Tr := match xs with
  | [x, .agg u] => match asRw x with
    | some r => some (.br (known u) (.br (noneP r u) (.leaf (r.ok && askO u) (.tup [nilRows, errN])) (.leaf (r.ok && (askO u && joOk [r.rest u, moreR u])) (.tup [(doP r u).pv, .nilif]))) (.leaf (askO u) (.tup [nilRows, errK])))
    | none => none
  | _ => none
theorem runDo (xs : List PV) (t : Tr) (v : PV) (hg : gDo xs = some t) (hv : t.val = some v) : ∃ H, apartS EN TDo H 1000009 5 13 xs = some v := by
  unfold gDo at hg
  split at hg
  . rename_i x u
    split at hg
    . rename_i r hr
      cases hg
      rw [asRw_ok hr]
      have key : askO u = true -> apartS EN TDo H0 1000009 5 13 [r.pv, .agg u] = (bif decide (opK u ≥ 1) then (bif !decide (opK u <= 6) then some (.tup [nilRows, errK]) else doT r u) else some (.tup [nilRows, errK])) := fun hu => by
        have t := tDo 1000009 r u
        rw [op_of hu] at t
        exact t
      have main : r.ok = true -> askO u = true -> doT r u = (bif noneP r u then some (.tup [nilRows, errN]) else joinT r u) := fun hk hu => by
        have lx := Rw.lists hk
        unfold doT noneP
        rw [asks_of (by
          rw [<- lx.fc, <- lx.gc, <- lx.ic, rows_old lx.f, rows_old lx.g, rows_old lx.i]
          rfl), asks_of (oOld_ok hu 0), asks_of (ask1 (by rw [hk, hu]; rfl)), asks_of (oOld_ok hu 0), asks_of (ask1 hu)]
        cases (moreR u).len == 0 <;> cases decide ((r.rest u).len < r.len) <;> rfl
      refine ⟨H0, ?_⟩
      unfold known at hv
      cases k1 : decide (opK u ≥ 1) with
      | false =>
        rw [k1] at hv
        obtain ⟨hu, rfl⟩ := leaf_val (show (Tr.leaf (askO u) (.tup [nilRows, errK])).val = some v from hv)
        rw [key hu, k1]
        rfl
      | true =>
        cases k2 : decide (opK u <= 6) with
        | false =>
          rw [k1, k2] at hv
          obtain ⟨hu, rfl⟩ := leaf_val (show (Tr.leaf (askO u) (.tup [nilRows, errK])).val = some v from hv)
          rw [key hu, k1, k2]
          rfl
        | true =>
          rw [k1, k2] at hv
          cases hn : noneP r u with
          | true =>
            rw [hn] at hv
            obtain ⟨hu, rfl⟩ := leaf_val (show (Tr.leaf (r.ok && askO u) (.tup [nilRows, errN])).val = some v from hv)
            simp only [Bool.and_eq_true] at hu
            rw [key hu.2, k1, k2, main hu.1 hu.2, hn]
            rfl
          | false =>
            rw [hn] at hv
            obtain ⟨hu, rfl⟩ := leaf_val (show (Tr.leaf (r.ok && (askO u && joOk [r.rest u, moreR u])) (.tup [(doP r u).pv, .nilif])).val = some v from hv)
            simp only [Bool.and_eq_true] at hu
            rw [key hu.2.1, k1, k2, main hu.1 hu.2.1, hn]
            exact joinT_ok hu.2.2
    . cases hg
  . cases hg
end
end Go.Proofs.YtpbemfikhmeedaaGreatDoor.Am
