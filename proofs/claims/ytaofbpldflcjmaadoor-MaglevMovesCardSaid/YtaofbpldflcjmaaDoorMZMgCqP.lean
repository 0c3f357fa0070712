/- slices.Compact at points: its walk and its answer. -/
import Derived.Test.YtaofbpldflcjmaaDoorMMCq
set_option linter.unusedVariables false
set_option linter.unusedSimpArgs false
set_option maxRecDepth 100000
set_option maxHeartbeats 8000000
namespace Go.Proofs.YtaofbpldflcjmaaDoor.Am.CP
open St
def HCm : FuncId -> Hint := fun f t => bif Nat.beq f 27 then (bif Nat.beq t 28 || (Nat.beq t 56 || Nat.beq t 59) then [some false] else []) else []
def slC (n : Nat) (k : Int) : List (Nat × PV) := [(0, .osl 0 n 0 18 n none), (2, .nils), (3, vI k), (6, .osl 0 n 0 18 n none), (7, vI n), (8, .bool false)]
noncomputable def LC (N m : Nat) (c : List PV) (n : Nat) (k : Int) : Option PV := loopSF EN T0 HCm N 5 1 27 Tryd.f27 [1, 1, 0, 1, 0] (patOf (sparse 61 0 (slC 0 0))) 1 m (sparse 61 0 (slC n k)) (obOf 18 n c)
noncomputable def recC (N : Nat) : RecS PV := recS EN T0 HCm N 5
noncomputable def cC (N : Nat) (c : Code) : Slots -> Store -> KC PV -> Option PV := codeS EN T0 (recC N) (HCm 27) 0 N c
noncomputable def aC (N : Nat) (c : Code) (p : List Nat) (k : KC PV) : KC PV := afterS EN T0 (recC N) (HCm 27) 0 N c p k
noncomputable def contC (N : Nat) (pat : List Bool) (n0 : Nat) (body : Code) (q : Nat) (e : KC PV) : KC PV := fun o s1 σ1 => match o with
  | .norm => trimS EN 0 pat n0 s1 σ1 fun s2 σ2 => iterS EN 0 pat n0 (cC N body) q s2 σ2 e
  | .exit j => e (.exit j) s1 σ1
  | .ret => e .ret s1 σ1
  | .goto l => e (.goto l) s1 σ1
noncomputable def endC (N : Nat) : KC PV := aC N (bodyOf Tryd.f27) [1, 1, 0, 1, 0] (endK EN Tryd.f27 (lastF 1))
noncomputable def bodyC : Code := subC (bodyOf Tryd.f27) [1, 1, 0, 1, 0, 0]
noncomputable def patC : List Bool := patOf (sparse 61 0 (slC 0 0))
def pt0 : Pt := ⟨⟨false, fun _ => 0⟩, 0⟩
def slCi (n : Nat) (k : Int) (p1 p2 : Pt) (w j : Int) : List (Nat × PV) := [(0, .osl 0 n 0 18 n none), (2, .nils), (3, vI w), (4, .osl 0 n (0 + k.toNat * 18) 18 (n - k.toNat) none), (5, vI j), (6, .osl 0 n 0 18 n none), (7, vI n), (8, .bool false), (10, vI k), (11, .osl 0 n 0 18 n none), (12, vI n), (13, .bool true), (16, .osl 0 n 0 18 n none), (17, vI k), (18, .ptr 0 n (0 + k.toNat * 18)), (19, .agg p1.cs), (20, .osl 0 n 0 18 n none), (21, vI k), (22, vI (IntKind.i64.wrap (k - 1))), (23, .ptr 0 n (0 + (IntKind.i64.wrap (k - 1)).toNat * 18)), (24, .agg p2.cs), (25, .bool true), (26, .osl 0 n 0 18 n none), (27, vI k), (28, .osl 0 n (0 + k.toNat * 18) 18 (n - k.toNat) none)]
noncomputable def LCi (N m q : Nat) (c : List PV) (n : Nat) (k : Int) (p1 p2 : Pt) (w j : Int) : Option PV :=
  iterS EN 0 (patOf (sparse 61 0 (slCi 0 0 pt0 pt0 0 0))) 1 (cC N (subC bodyC [1, 0, 0, 1, 0, 1, 0, 1, 0, 0])) q (sparse 61 0 (slCi n k p1 p2 w j)) (obOf 18 n c) (aC N bodyC [1, 0, 0, 1, 0, 1, 0, 1, 0] (contC N patC 1 bodyC m (endC N)))
def Zk : List PV := [.bool false, .int .u8 0, .int .u8 0, .int .u8 0, .int .u8 0, .int .u8 0, .int .u8 0, .int .u8 0, .int .u8 0, .int .u8 0, .int .u8 0, .int .u8 0, .int .u8 0, .int .u8 0, .int .u8 0, .int .u8 0, .int .u8 0, .int .i64 0]
def cmA (c : List PV) (n u : Nat) : PV := .tup [.osl 0 n 0 18 u none, encS (obOf 18 n c)]
def finC (c : List PV) (n : Nat) (w : Int) : Option PV :=
  asks [n == n && decide (0 + n * 18 <= c.length), decide (0 <= w) && decide (w <= ((n - 0 : Nat) : Int)), !(decide (0 = w.toNat) && decide (0 < 0)), oldL 0 c] <| some (cmA c n (w.toNat - 0))
def exitC (c : List PV) (n : Nat) (w : Int) : Option PV :=
  asks [n == n && decide (0 + n * 18 <= c.length), decide (0 <= w) && decide (w <= (n : Int)), !(decide (w.toNat = n) && decide (0 < w.toNat))] <|
  bif decide (n - w.toNat = 0) then finC c n w
  else (asks [n == n && decide (0 + w.toNat * 18 + (repCells Zk (n - w.toNat)).length <= c.length)] <| finC (splice c (0 + w.toNat * 18) (repCells Zk (n - w.toNat))) n w)
theorem cm0 (N : Nat) (c : List PV) (n : Nat) : footSR EN T0 HCm N 5 27 [.osl 0 n 0 18 n none, encS (obOf 18 n c)] =
  (bif decide ((n : Int) < 2) then (asks [oldL 0 c] <| some (cmA c n n)) else LC N N c n 1) := by kernel_rfl
theorem cmO (N m : Nat) (c : List PV) (n : Nat) (k : Int) : LC N (m + 1) c n k =
  (bif decide (k < (n : Int)) then
    (asks [decide (0 <= k) && decide (k < (n : Int)), n == n, okAt KPt c (0 + k.toNat * 18), decide (0 <= IntKind.i64.wrap (k - 1)) && decide (IntKind.i64.wrap (k - 1) < (n : Int)), n == n, okAt KPt c (0 + (IntKind.i64.wrap (k - 1)).toNat * 18)] <|
    bif eqPt (shapeAt KPt c (0 + k.toNat * 18)) (shapeAt KPt c (0 + (IntKind.i64.wrap (k - 1)).toNat * 18)) then
      (asks [n == n && decide (0 + n * 18 <= c.length), decide (0 <= k) && decide (k <= (n : Int)), !(decide (k.toNat = n) && decide (0 < k.toNat))] <|
      LCi N m N c n k (ptAt c (0 + k.toNat * 18)) (ptAt c (0 + (IntKind.i64.wrap (k - 1)).toNat * 18)) k 1)
    else (asks [oldL 0 c] <| LC N m c n (IntKind.i64.wrap (k + 1))))
  else (asks [oldL 0 c] <| some (cmA c n n))) := by kernel_rfl
theorem cmI (N m q : Nat) (c : List PV) (n : Nat) (k : Int) (p1 p2 : Pt) (w j : Int) : LCi N m (q + 1) c n k p1 p2 w j =
  (bif decide (j < ((n - k.toNat : Nat) : Int)) then
    (asks [decide (0 <= j) && decide (j < ((n - k.toNat : Nat) : Int)), n == n, okAt KPt c (0 + k.toNat * 18 + j.toNat * 18), decide (0 <= IntKind.i64.wrap (j - 1)) && decide (IntKind.i64.wrap (j - 1) < ((n - k.toNat : Nat) : Int)), n == n, okAt KPt c (0 + k.toNat * 18 + (IntKind.i64.wrap (j - 1)).toNat * 18)] <|
    bif !(eqPt (shapeAt KPt c (0 + k.toNat * 18 + j.toNat * 18)) (shapeAt KPt c (0 + k.toNat * 18 + (IntKind.i64.wrap (j - 1)).toNat * 18))) then
      (asks [decide (0 <= j) && decide (j < ((n - k.toNat : Nat) : Int)), n == n, okAt KPt c (0 + k.toNat * 18 + j.toNat * 18), decide (0 <= w) && decide (w < (n : Int)), n == n && (18 == 18 && (decide (0 + w.toNat * 18 + 18 <= c.length) && (shapeAt KPt c (0 + k.toNat * 18 + j.toNat * 18)).all PV.oneCell))] <|
      asks [oldL 0 (splice c (0 + w.toNat * 18) (shapeAt KPt c (0 + k.toNat * 18 + j.toNat * 18)))] <|
      LCi N m q (splice c (0 + w.toNat * 18) (shapeAt KPt c (0 + k.toNat * 18 + j.toNat * 18))) n k p1 p2 (IntKind.i64.wrap (w + 1)) (IntKind.i64.wrap (j + 1)))
    else (asks [oldL 0 c] <| LCi N m q c n k p1 p2 w (IntKind.i64.wrap (j + 1))))
  else exitC c n w) := by kernel_rfl
theorem i_loop {N m n z : Nat} {R : List (List PV)} {p1 p2 : Pt} (hl : R.length = n) (hn : n <= 1000000) (hz : z < n) : ∀ (r j w q : Nat) (S : List (List PV)), z + j + r = n -> 1 <= j -> rowsOk KPt S = true -> Uq eqPt R S w (z + j) ->
    ∃ S' w', rowsOk KPt S' = true /\ Uq eqPt R S' w' R.length /\ LCi N m (q + r + 1) S.flatten n (z : Int) p1 p2 (w : Int) (j : Int) = exitC S'.flatten n (w' : Int)
  | 0, j, w, q, S, h, h1, hS, hk => by
    have e : z + j = R.length := by omega
    rw [e] at hk
    refine ⟨S, w, hS, hk, ?_⟩
    rw [cmI, cond_f (show decide ((j : Int) < ((n - (z : Int).toNat : Nat) : Int)) = false from by simp; omega)]
  | r + 1, j, w, q, S, h, h1, hS, hk => by
    obtain ⟨i, rfl⟩ : ∃ i, j = i + 1 := ⟨j - 1, by omega⟩
    have hj : z + i + 1 < R.length := by omega
    have hj' : z + i + 1 < S.length := by rw [hk.len]; exact hj
    have hi' : z + i < S.length := by omega
    have hwj := hk.le
    have hw : w < S.length := by omega
    have pa := rows_at hS hj'
    have pb := rows_at hS hi'
    have hrow := rowsOk_get hS (List.getElem_mem hj')
    have ha : S[z + i + 1] = R[z + i + 1] := hk.at (by omega) hj
    have hb : S[z + i] = R[z + i] := hk.at (by omega) (by omega)
    have hin : (decide (0 <= ((i + 1 : Nat) : Int)) && decide (((i + 1 : Nat) : Int) < ((n - z : Nat) : Int))) = true := by simp; omega
    have hin' : (decide (0 <= ((i : Nat) : Int)) && decide (((i : Nat) : Int) < ((n - z : Nat) : Int))) = true := by simp; omega
    rw [show q + (r + 1) + 1 = (q + r + 1) + 1 from by omega, cmI]
    simp only [Int.toNat_natCast]
    rw [cond_t (show decide (((i + 1 : Nat) : Int) < ((n - z : Nat) : Int)) = true from by simp; omega), wrap_pred (by omega : i < 9223372036854775807)]
    simp only [Int.toNat_natCast]
    rw [show 0 + z * 18 + (i + 1) * 18 = 0 + (z + i + 1) * KPt.length from by show _ = 0 + (z + i + 1) * 18; omega, show 0 + z * 18 + i * 18 = 0 + (z + i) * KPt.length from by show _ = 0 + (z + i) * 18; omega, pa.2, pa.1, pb.2, pb.1, asks_of (cons_ok hin (cons_ok (by simp) (cons_ok rfl (cons_ok hin' (cons_ok (by simp) (cons_ok rfl rfl)))))), ha, hb]
    rw [ha] at hrow
    cases hg : eqPt R[z + i + 1] R[z + i] with
    | false =>
      have hset : rowsOk KPt (S.set w R[z + i + 1]) = true := rowsOk_set hS w hrow.1 hrow.2
      have hfl := flat_len hS hw
      obtain ⟨S', w', r1, r2, r3⟩ := i_loop hl hn hz r (i + 2) (w + 1) q (S.set w R[z + i + 1]) (by omega) (by omega) hset (hk.in hj hg)
      refine ⟨S', w', r1, r2, ?_⟩
      rw [Bool.not_false, cond_true]
      rw [show (18 : Nat) = KPt.length from rfl, rows_splice hS hw (wk_len hrow.1), asks_of (cons_ok hin (cons_ok (by simp) (cons_ok rfl (cons_ok (inside (by omega : w < n)) (cons_ok (by
        simp only [hfl, wk_one hrow.1, beq_self_eq_true, decide_true, Bool.and_self]) rfl))))), asks_of (ask1 (rows_old hset)), wrap_succ (by omega : w < 9223372036854775807), wrap_succ (by omega : i + 1 < 9223372036854775807)]
      exact r3
    | true =>
      obtain ⟨S', w', r1, r2, r3⟩ := i_loop hl hn hz r (i + 2) w q S (by omega) (by omega) hS (hk.out hj hg)
      refine ⟨S', w', r1, r2, ?_⟩
      rw [Bool.not_true, cond_false, asks_of (ask1 (rows_old hS)), wrap_succ (by omega : i + 1 < 9223372036854775807)]
      exact r3
theorem exitC_ok {n w : Nat} {S : List (List PV)} (hS : rowsOk KPt S = true) (hl : S.length = n) (hw : w < n) :
    exitC S.flatten n (w : Int) = some (cmA (outC n (S.take w) Zk) n w) := by
  have hz : Zk.length = KPt.length := rfl
  have lS := rows_len hS
  rw [hl, show KPt.length = 18 from rfl] at lS
  have hsp := splice_rest hS hz (w := w) (by omega)
  rw [hl, show KPt.length = 18 from rfl] at hsp
  have ht : (S.take w).length = w := by rw [List.length_take]; omega
  have ho : outC n (S.take w) Zk = (S.take w ++ List.replicate (n - w) Zk).flatten := by unfold outC; rw [ht]
  have hlen : (S.take w ++ List.replicate (n - w) Zk).flatten.length = n * 18 := by
    rw [List.flatten_append, List.length_append, flat_tl hS (by omega), rep_len, hz, show KPt.length = 18 from rfl]
    exact mul_split (by omega)
  have hold : oldL 0 (S.take w ++ List.replicate (n - w) Zk).flatten = true := by rw [List.flatten_append, oldL_append, rows_old (rowsOk_take hS w), rep_old (by rfl)]; rfl
  unfold exitC
  rw [asks_of (cons_ok (by simp [lS]) (cons_ok (by simp; omega) (cons_ok (by simp; omega) rfl)))]
  simp only [Int.toNat_natCast]
  have lr : (repCells Zk (n - w)).length = (n - w) * 18 := by rw [rep_cells, rep_len]; rfl
  rw [cond_f (by simp; omega), hsp, asks_of (ask1 (by
    have := mul_split (e := 18) (show w <= n by omega)
    simp only [lr, lS, beq_self_eq_true, Bool.true_and, decide_eq_true_eq]
    omega))]
  unfold finC
  rw [asks_of (cons_ok (by simp only [hlen, beq_self_eq_true, Bool.true_and, decide_eq_true_eq]; omega) (cons_ok (by simp; omega) (cons_ok (by simp) (cons_ok hold rfl)))), ho]
  simp
theorem o_loop {N n : Nat} {R : List (List PV)} (hR : rowsOk KPt R = true) (hl : R.length = n) (hn : n <= 1000000) (hN : 1000002 <= N) : ∀ (r k q : Nat), k + r = n -> 1 <= k -> (∀ (i : Nat) (hi : i + 1 < k) (h : i + 1 < R.length), eqPt R[i + 1] R[i] = false) ->
    LC N (q + r + 1) R.flatten n (k : Int) = some (cmA (outC n (uniq eqPt R) Zk) n (uniq eqPt R).length)
  | 0, k, q, h, h1, hd => by
    have e : uniq eqPt R = R := by
      have := uniq_same (eq := eqPt) (R := R) R.length (Nat.le_refl _) (fun i hi h => hd i (by omega) h)
      rwa [List.take_length] at this
    rw [cmO, cond_f (show decide ((k : Int) < (n : Int)) = false from by simp; omega), asks_of (ask1 (rows_old hR)), e, hl]
    have : outC n R Zk = R.flatten := by unfold outC; rw [hl]; simp
    rw [this]
  | r + 1, k, q, h, h1, hd => by
    obtain ⟨i, rfl⟩ : ∃ i, k = i + 1 := ⟨k - 1, by omega⟩
    have hk : i + 1 < R.length := by omega
    have pa := rows_at hR hk
    have pb := rows_at hR (show i < R.length by omega)
    rw [show q + (r + 1) + 1 = (q + r + 1) + 1 from by omega, cmO, cond_t (show decide (((i + 1 : Nat) : Int) < (n : Int)) = true from by simp; omega), wrap_pred (by omega : i < 9223372036854775807)]
    simp only [Int.toNat_natCast]
    rw [show 0 + (i + 1) * 18 = 0 + (i + 1) * KPt.length from rfl, show 0 + i * 18 = 0 + i * KPt.length from rfl, pa.2, pa.1, pb.2, pb.1, asks_of (cons_ok (inside (by omega : i + 1 < n)) (cons_ok (by simp) (cons_ok rfl (cons_ok (inside (by omega : i < n)) (cons_ok (by simp) (cons_ok rfl rfl))))))]
    have lR := rows_len hR
    rw [hl] at lR
    cases hg : eqPt R[i + 1] R[i] with
    | true =>
      have hs := Uq.start (eq := eqPt) (R := R) (z := i + 1) (by omega) hk hd hg
      obtain ⟨S', w', s1, s2, s3⟩ := i_loop (N := N) (m := q + r + 1) (n := n) (z := i + 1) (p1 := ptAt R.flatten (0 + (i + 1) * KPt.length)) (p2 := ptAt R.flatten (0 + i * KPt.length)) hl hn (by omega) (n - (i + 2)) 1 (i + 1) (N - 1 - (n - (i + 2))) R (by omega) (Nat.le_refl _) hR hs
      rw [show N - 1 - (n - (i + 2)) + (n - (i + 2)) + 1 = N from by omega] at s3
      rw [cond_true, asks_of (cons_ok (by simp [lR]; exact Nat.le_refl _) (cons_ok (by simp; omega) (cons_ok (by simp; omega) rfl)))]
      refine Eq.trans s3 ?_
      have hle := s2.le
      have hlS : S'.length = n := by rw [s2.len, hl]
      rw [exitC_ok s1 hlS (by omega), s2.done]
      have : (uniq eqPt R).length = w' := by rw [<- s2.done, List.length_take]; omega
      rw [this]
    | false =>
      rw [cond_false, asks_of (ask1 (rows_old hR)), wrap_succ (by omega : i + 1 < 9223372036854775807)]
      refine o_loop hR hl hn hN r (i + 2) q (by omega) (by omega) fun j hj hlt => ?_
      by_cases e : j = i
      . subst e; exact hg
      . exact hd j (by omega) hlt
def gCm (xs : List PV) : Option Tr := match xs with
  | [d, o] => match obIn 18 d o with
    | some (n, n1, n2, c) => some (.leaf ((n1 == n) && ((n2 == n) && rowsC KPt n c)) (cmA (outC n (uniq eqPt (chunks 18 n c)) Zk) n (uniq eqPt (chunks 18 n c)).length))
    | none => none
  | _ => none
theorem runCm (xs : List PV) (t : Tr) (v : PV) (h : gCm xs = some t) (hv : t.val = some v) : ∃ H, footSR EN T0 H 1000009 5 27 xs = some v := by
  unfold gCm at h
  split at h
  . rename_i d o
    split at h
    . rename_i n n1 n2 c ho
      cases h
      obtain ⟨hc, rfl⟩ := leaf_val hv
      simp only [Bool.and_eq_true] at hc
      obtain ⟨q1, q2, hr⟩ := hc
      obtain ⟨rfl, rfl⟩ := obIn_ok ho q1 q2
      obtain ⟨r1, r2, r3, r4⟩ := rowsC_ok hr
      rw [show KPt.length = 18 from rfl] at r2 r3 r4
      refine ⟨HCm, (cm0 1000009 c n).trans ?_⟩
      generalize hR : chunks 18 n c = R at *
      by_cases h2 : n < 2
      . have e : uniq eqPt R = R := by
          have := uniq_same (eq := eqPt) (R := R) R.length (Nat.le_refl _) (fun i hi h => by omega)
          rwa [List.take_length] at this
        have : outC n R Zk = R.flatten := by unfold outC; rw [r4]; simp
        rw [cond_t (by simp; omega), e, this, r3, r4, asks_of (ask1 (by rw [<- r3]; exact rows_old r2))]
      . rw [cond_f (by simp; omega), <- r3]
        have := o_loop (N := 1000009) r2 r4 r1 (by omega) (n - 1) 1 (1000008 - (n - 1)) (by omega) (Nat.le_refl _) (fun i hi => by omega)
        rw [show 1000008 - (n - 1) + (n - 1) + 1 = 1000009 from by omega] at this
        exact this
    . cases h
  . cases h
noncomputable def TCm : Table := TaddT T0 27 gCm
theorem TCmok : TR TCm := TR0.addF TR0 runCm
end Go.Proofs.YtaofbpldflcjmaaDoor.Am.CP
