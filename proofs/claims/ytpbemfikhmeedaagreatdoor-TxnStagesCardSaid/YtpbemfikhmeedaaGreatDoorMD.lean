/- An op's cells; what DeleteFunc's closures say of rows. -/
import Derived.Test.YtpbemfikhmeedaaGreatDoorMZTxRuB
import Derived.Test.YtpbemfikhmeedaaGreatDoorMZTxRuR
import Derived.Test.YtpbemfikhmeedaaGreatDoorMK
set_option linter.unusedVariables false
set_option linter.unusedSimpArgs false
set_option maxRecDepth 100000
set_option maxHeartbeats 8000000
namespace Go.Proofs.YtpbemfikhmeedaaGreatDoor.Am
open St
def KOp : List Kd := .int .i64 :: (KFr ++ (KGr ++ KFi))
def opK (o : List PV) : Int := asI (o.getD 0 .nilp)
def opF (o : List PV) : List PV := shapeAt KFr o 1
def opG (o : List PV) : List PV := shapeAt KGr o 27
def opI (o : List PV) : List PV := shapeAt KFi o 35
theorem old_get : ∀ (r : List PV) (i : Nat), oldL 0 r = true -> oldL 0 (slCells (r.getD i .nilp)) = true
  | [], i, _ => by simp [slCells, oldL]
  | x :: r, 0, h => by
    simp only [oldL, Bool.and_eq_true] at h
    simp only [List.getD_cons_zero]
    cases x <;> first | rfl | (simp only [oldV] at h; exact h.1)
  | x :: r, i + 1, h => by
    simp only [oldL, Bool.and_eq_true] at h
    simp only [List.getD_cons_succ]
    exact old_get r i h.2
def oldO (k : Nat) (o : List PV) (i : Nat) : Bool := oldL k (slCells (o.getD i .nilp))
theorem ox_ok {o : List PV} (h : (wk KOp o && oldL 0 o) = true) (k i : Nat) : oldO k o i = true := by
  simp only [Bool.and_eq_true] at h
  exact oldL_le (Nat.zero_le k) _ (old_get o i h.2)
theorem op_of {o : List PV} (h : (wk KOp o && oldL 0 o) = true) : shapeAt KOp o 0 = o := by
  simp only [Bool.and_eq_true] at h
  exact shape_of h.1
def hitF (o x : List PV) : Bool := atC (frAt x) (frAt (opF o)) == 0
def hitG (o x : List PV) : Bool := eqGi x (opG o)
def hitI (o x : List PV) : Bool := eqKy x (opI o)
def stayF (o x : List PV) : Bool := !hitF o x
def stayG (o x : List PV) : Bool := !hitG o x
def stayI (o x : List PV) : Bool := !hitI o x
def gPlB (xs : List PV) : Option (Bool × PV) := match xs with
  | [.agg x, .agg y] => some (wk KFr x && wk KFr y, .bool (atC (frAt x) (frAt y) == 0))
  | _ => none
noncomputable def TPlc : Table := Tadd T0 46 gPlB
theorem tPlc (N : Nat) (a b : Fr) : apartS EN TPB H0 N 5 46 [.agg a.cs, .agg b.cs] = some (.bool (atC a b == 0)) := by kernel_rfl
theorem TPlcok : TR TPlc := TR0.add TPBok fun xs v h => by
  unfold gPlB at h
  split at h
  . rename_i x y
    simp only [Option.some.injEq, Prod.mk.injEq, Bool.and_eq_true] at h
    obtain ⟨⟨h1, h2⟩, rfl⟩ := h
    have := tPlc 1000009 (frAt x) (frAt y)
    rw [<- fr_of h1, <- fr_of h2] at this
    exact ⟨H0, this⟩
  . cases h
end Go.Proofs.YtpbemfikhmeedaaGreatDoor.Am
namespace Go.Proofs.YtpbemfikhmeedaaGreatDoor.Am.OF
open St
def hit (u : List PV) (x : List PV) : Bool := hitF u x
theorem hit_good (u : List PV) (x : List PV) : hit u x = !((stayF u) x) := by unfold hit stayF; simp
def bxd (u : List PV) : Ob := bxN (shapeAt KOp u 0) 38
def st (c : List PV) (n : Nat) (u : List PV) : Store := [.mem ⟨c, 26, n, false, false, false⟩, bxd u]
def fnc (id : Nat) : PV := .fn (.func 45) [] [.ptr id 1 0]
def slIx (n : Nat) (i : Int) : List (Nat × PV) := [(0, .osl 0 n 0 26 n none), (1, fnc 1), (4, vI 0), (6, .osl 0 n 0 26 n none), (7, vI n), (8, vI i)]
noncomputable def LIx (N m : Nat) (c : List PV) (n : Nat) (u : List PV) (i : Int) : Option PV := loopSF EN TPlc H0 N 5 2 65 Tryz.f65 [1, 0, 1, 0] (patOf (sparse 19 0 (slIx 0 0))) 2 m (sparse 19 0 (slIx n i)) (st c n u)
theorem x0 (N : Nat) (c : List PV) (n : Nat) (u : List PV) : footSR EN TPlc H0 N 5 65 [.osl 0 n 0 26 n none, fnc 1, encS (st c n u)] = LIx N N c n u 0 := by kernel_rfl
theorem x1 (N m : Nat) (c : List PV) (n : Nat) (u : List PV) (i : Int) : LIx N (m + 1) c n u i =
  (bif decide (i < (n : Int)) then
    (asks ([decide (0 <= i) && decide (i < (n : Int)), n == n, okAt KFr c (0 + i.toNat * 26)]) <|
    bif hit u (shapeAt KFr c (0 + i.toNat * 26)) then (asks [oldL 0 c, oldO 2 u 33, oldO 2 u 34, oldO 2 u 37] <| some (.tup [vI i, encS (st c n u)]))
    else (asks [oldL 0 c, oldO 2 u 33, oldO 2 u 34, oldO 2 u 37] <| LIx N m c n u (IntKind.i64.wrap (i + 1))))
  else (asks [oldL 0 c, oldO 2 u 33, oldO 2 u 34, oldO 2 u 37] <| some (.tup [vI (-1), encS (st c n u)]))) := by kernel_rfl
def askX (u : List PV) : Bool := wk KOp u && oldL 0 u
theorem hx_s {u : List PV} (hx : askX u = true) : askX (shapeAt KOp u 0) = true := by rw [op_of hx]; exact hx
theorem x_loop {N n : Nat} {R : List (List PV)} {u : List PV} (hx : askX u = true) (hR : rowsOk KFr R = true) (hl : R.length = n) (hn : n <= 1000000) : ∀ (k i q : Nat), i + k = n -> LIx N (q + k + 1) R.flatten n u (i : Int) = some (.tup [vI (idxI (idxN (stayF u) (R.drop i)) i), encS (st R.flatten n u)])
  | 0, i, q, h => by
    have ho : ([oldL 0 R.flatten, oldO 2 u 33, oldO 2 u 34, oldO 2 u 37] : List Bool).all id = true := by
      simp [rows_old hR, ox_ok hx]
      try exact hx
    rw [x1, cond_f (show decide ((i : Int) < (n : Int)) = false from by simp; omega), asks_of ho, List.drop_eq_nil_of_le (by omega)]
    rfl
  | k + 1, i, q, h => by
    have hi : i < R.length := by omega
    have pa := rows_at hR hi
    have hrw := rowsOk_get hR (List.getElem_mem hi)
    have ho : ([oldL 0 R.flatten, oldO 2 u 33, oldO 2 u 34, oldO 2 u 37] : List Bool).all id = true := by
      simp [rows_old hR, ox_ok hx]
      try exact hx
    rw [show q + (k + 1) + 1 = (q + k + 1) + 1 from by omega, x1, cond_t (show decide ((i : Int) < (n : Int)) = true from by simp; omega)]
    simp only [Int.toNat_natCast]
    rw [show (26 : Nat) = (KFr).length from rfl, pa.2, pa.1, asks_of (by rw [inside (show i < n by omega)]; simp), List.drop_eq_getElem_cons hi, idxN, hit_good]
    cases hg : (stayF u) R[i] with
    | false =>
      rw [Bool.not_false, cond_true, cond_true, asks_of ho]
      rfl
    | true =>
      rw [Bool.not_true, cond_false, cond_false, asks_of ho, wrap_succ (by omega : i < 9223372036854775807), x_loop hx hR hl hn k (i + 1) q (by omega), idxI_succ]
      try rfl
def ob (d o : PV) : Option (Nat × Nat × Nat × List PV × List PV) := match d, o with
  | .osl 0 n1 0 e n none, .tup [.tup [.agg c, .ptr e2 n2 0, .bool false, .bool false, .bool false], .tup [.agg u, .ptr 38 1 0, .bool true, .bool false, .bool true]] =>
    bif Nat.beq e 26 && Nat.beq e2 26 then some (n, n1, n2, c, u) else none
  | _, _ => none
theorem ob_ok {d o : PV} {n n1 n2 : Nat} {c : List PV} {u : List PV} (h : ob d o = some (n, n1, n2, c, u)) (h1 : n1 = n) (h2 : n2 = n) (hx : askX u = true) : d = .osl 0 n 0 26 n none /\ o = encS (st c n u) := by
  unfold ob at h
  split at h
  . rename_i m1 e m c' e2 m2 u'
    cases hb : Nat.beq e 26 && Nat.beq e2 26 with
    | false => rw [hb] at h; cases h
    | true =>
      rw [hb] at h
      cases h
      simp only [Bool.and_eq_true] at hb
      have k1 := Nat.eq_of_beq_eq_true hb.1
      have k2 := Nat.eq_of_beq_eq_true hb.2
      subst k1 h1 h2
      rw [k2]
      exact ⟨rfl, (congrArg (fun z => PV.tup [.tup [.agg _, .ptr _ _ 0, .bool false, .bool false, .bool false], .tup [.agg z, .ptr 38 1 0, .bool true, .bool false, .bool true]]) (op_of hx).symm)⟩
  . cases h
def gIx (xs : List PV) : Option Tr := match xs with
  | [d, .fn (.func 45) [] [.ptr 1 1 0], o] => match ob d o with
    | some (n, n1, n2, c, u) => some (.leaf ((n1 == n) && ((n2 == n) && (askX u && rowsC KFr n c))) (.tup [vI (idxI (idxN (stayF u) (chunks 26 n c)) 0), encS (st c n u)]))
    | none => none
  | _ => none
theorem runIx (xs : List PV) (t : Tr) (v : PV) (h : gIx xs = some t) (hv : t.val = some v) : ∃ H, footSR EN TPlc H 1000009 5 65 xs = some v := by
  refine ⟨H0, ?_⟩
  unfold gIx at h
  split at h
  . rename_i d o
    split at h
    . rename_i n n1 n2 c u ho
      cases h
      obtain ⟨hc, rfl⟩ := leaf_val hv
      simp only [Bool.and_eq_true, beq_iff_eq] at hc
      obtain ⟨q1, q2, hx, hr⟩ := hc
      obtain ⟨rfl, rfl⟩ := ob_ok ho q1 q2 hx
      obtain ⟨r1, r2, r3, r4⟩ := rowsC_ok hr
      refine (x0 1000009 c n u).trans ?_
      have := x_loop (N := 1000009) (u := u) hx r2 r4 r1 n 0 (1000008 - n) (by omega)
      rw [show 1000008 - n + n + 1 = 1000009 from by omega, r3] at this
      exact this
    . cases h
  . cases h
noncomputable def TIx : Table := TaddT TPlc 65 gIx
theorem TIxok : TR TIx := (TPlcok).addF TPlcok runIx
def HDf : FuncId -> Hint := fun f t => bif Nat.beq f 44 && Nat.beq t 41 then [some false] else []
def slDf (n : Nat) (z w j : Int) : List (Nat × PV) := [(0, .osl 0 n 0 26 n none), (1, fnc 1), (4, .nils), (5, vI w), (6, vI j), (8, .osl 0 n 0 26 n none), (9, fnc 1), (10, vI z), (11, vI z), (12, .bool false), (14, vI z), (15, vI (IntKind.i64.wrap (z + 1)))]
noncomputable def LDf (N m : Nat) (c : List PV) (n : Nat) (u : List PV) (z w j : Int) : Option PV := loopSF EN TIx HDf N 5 2 44 Tryz.f44 [1, 1, 1, 0, 1, 0] (patOf (sparse 42 0 (slDf 0 0 0 0))) 2 m (sparse 42 0 (slDf n z w j)) (st c n u)
def ZR : List PV := [.int .i64 0, .bool false, .int .u8 0, .int .u8 0, .int .u8 0, .int .u8 0, .int .u8 0, .int .u8 0, .int .u8 0, .int .u8 0, .int .u8 0, .int .u8 0, .int .u8 0, .int .u8 0, .int .u8 0, .int .u8 0, .int .u8 0, .int .u8 0, .int .i64 0, .str [], .str [], .str [], .int .i64 0, .bool false, .bool false, .int .i64 0]
def fin (c : List PV) (n : Nat) (u : List PV) (w : Int) : Option PV :=
  asks [n == n && decide (0 + n * 26 <= c.length), decide (0 <= w) && decide (w <= ((n - 0 : Nat) : Int)), !(decide (0 = w.toNat) && decide (0 < 0)), oldL 0 c, oldO 2 u 33, oldO 2 u 34, oldO 2 u 37] <| some (.tup [.osl 0 n 0 26 (w.toNat - 0) none, encS (st c n u)])
def exitD (c : List PV) (n : Nat) (u : List PV) (w : Int) : Option PV :=
  asks [n == n && decide (0 + n * 26 <= c.length), decide (0 <= w) && decide (w <= (n : Int))] <|
  bif decide (w.toNat = n) && decide (0 < w.toNat) then fin c n u w
  else bif decide (n - w.toNat = 0) then fin c n u w
  else (asks [n == n && decide (0 + w.toNat * 26 + (repCells ZR (n - w.toNat)).length <= c.length)] <| fin (splice c (0 + w.toNat * 26) (repCells ZR (n - w.toNat))) n u w)
theorem d1 (N m : Nat) (c : List PV) (n : Nat) (u : List PV) (z w j : Int) : LDf N (m + 1) c n u z w j =
  (bif decide (j < (n : Int)) then
    (asks ([decide (0 <= j) && decide (j < (n : Int)), n == n, okAt KFr c (0 + j.toNat * 26)]) <|
    bif !(hit u (shapeAt KFr c (0 + j.toNat * 26))) then
      (asks [decide (0 <= w) && decide (w < (n : Int)), n == n && (26 == 26 && (decide (0 + w.toNat * 26 + 26 <= c.length) && (shapeAt KFr c (0 + j.toNat * 26)).all PV.oneCell))] <|
      asks [oldL 0 (splice c (0 + w.toNat * 26) (shapeAt KFr c (0 + j.toNat * 26))), oldO 2 u 33, oldO 2 u 34, oldO 2 u 37] <|
      LDf N m (splice c (0 + w.toNat * 26) (shapeAt KFr c (0 + j.toNat * 26))) n u z (IntKind.i64.wrap (w + 1)) (IntKind.i64.wrap (j + 1)))
    else (asks [oldL 0 c, oldO 2 u 33, oldO 2 u 34, oldO 2 u 37] <| LDf N m c n u z w (IntKind.i64.wrap (j + 1))))
  else exitD c n u w) := by kernel_rfl
theorem d0 (N : Nat) (c : List PV) (n : Nat) (u : List PV) : footSR EN TIx HDf N 5 44 [.osl 0 n 0 26 n none, fnc 1, encS (st c n u)] =
  (asks [oldL 0 c, oldO 0 u 33, oldO 0 u 34, oldO 0 u 37, (n == n) && ((n == n) && (askX (shapeAt KOp u 0) && rowsC KFr n c)), oldL 0 c, oldO 0 u 33, oldO 0 u 34, oldO 0 u 37] <|
   bif idxI (idxN (stayF u) (chunks 26 n c)) 0 == -1 then (asks [oldL 0 c, oldO 2 u 33, oldO 2 u 34, oldO 2 u 37] <| some (.tup [.osl 0 n 0 26 n none, encS (st c n u)]))
   else LDf N N c n u (idxI (idxN (stayF u) (chunks 26 n c)) 0) (idxI (idxN (stayF u) (chunks 26 n c)) 0) (IntKind.i64.wrap (idxI (idxN (stayF u) (chunks 26 n c)) 0 + 1))) := by kernel_rfl
theorem d_loop {N n : Nat} {R : List (List PV)} {u : List PV} {z : Int} (hx : askX u = true) (hl : R.length = n) (hn : n <= 1000000) : ∀ (k j w q : Nat) (S : List (List PV)), j + k = n -> rowsOk KFr S = true -> Kept (stayF u) R S w j ->
    ∃ S' w', rowsOk KFr S' = true /\ Kept (stayF u) R S' w' R.length /\ LDf N (q + k + 1) S.flatten n u z (w : Int) (j : Int) = exitD S'.flatten n u (w' : Int)
  | 0, j, w, q, S, h, hS, hk => by
    have e : j = R.length := by omega
    subst e
    refine ⟨S, w, hS, hk, ?_⟩
    rw [d1, cond_f (show decide (((R.length : Nat) : Int) < (n : Int)) = false from by simp; omega)]
  | k + 1, j, w, q, S, h, hS, hk => by
    have hj : j < R.length := by omega
    have hj' : j < S.length := by rw [hk.len]; exact hj
    have hwj := hk.le
    have hw : w < S.length := by omega
    have pa := rows_at hS hj'
    have hrow := rowsOk_get hS (List.getElem_mem hj')
    have hrw := hrow
    rw [show q + (k + 1) + 1 = (q + k + 1) + 1 from by omega, d1, cond_t (show decide ((j : Int) < (n : Int)) = true from by simp; omega)]
    simp only [Int.toNat_natCast]
    rw [show (26 : Nat) = (KFr).length from rfl, pa.2, pa.1, asks_of (by rw [inside (show j < n by omega)]; simp), hk.at hj, hit_good]
    rw [hk.at hj] at hrow
    cases hg : (stayF u) R[j] with
    | true =>
      rw [Bool.not_true, Bool.not_false, cond_true]
      have hset : rowsOk KFr (S.set w R[j]) = true := rowsOk_set hS w hrow.1 hrow.2
      have hfl := flat_len hS hw
      have ho : ([oldL 0 (S.set w R[j]).flatten, oldO 2 u 33, oldO 2 u 34, oldO 2 u 37] : List Bool).all id = true := by
        simp [rows_old hset, ox_ok hx]
        try exact hx
      obtain ⟨S', w', r1, r2, r3⟩ := d_loop hx hl hn k (j + 1) (w + 1) q (S.set w R[j]) (by omega) hset (hk.in hj hg)
      refine ⟨S', w', r1, r2, ?_⟩
      rw [rows_splice hS hw (wk_len hrow.1), asks_of (by rw [inside (show w < n by rw [<- hl, <- hk.len]; exact hw)]; simp only [hfl, wk_one hrow.1, beq_self_eq_true, decide_true, Bool.and_self, List.all_cons, List.all_nil, id]), asks_of ho, wrap_succ (by omega : w < 9223372036854775807), wrap_succ (by omega : j < 9223372036854775807)]
      exact r3
    | false =>
      have ho : ([oldL 0 S.flatten, oldO 2 u 33, oldO 2 u 34, oldO 2 u 37] : List Bool).all id = true := by
        simp [rows_old hS, ox_ok hx]
        try exact hx
      rw [Bool.not_false, Bool.not_true, cond_false]
      obtain ⟨S', w', r1, r2, r3⟩ := d_loop hx hl hn k (j + 1) w q S (by omega) hS (hk.out hj hg)
      refine ⟨S', w', r1, r2, ?_⟩
      rw [asks_of ho, wrap_succ (by omega : j < 9223372036854775807)]
      exact r3
theorem ZR_old : ∀ k, oldL 0 (List.replicate k ZR).flatten = true := fun k => rep_old (by rfl) k
theorem exit_ok {n w : Nat} {S : List (List PV)} {u : List PV} (hx : askX u = true) (hS : rowsOk KFr S = true) (hl : S.length = n) (hw : w <= n) :
    exitD S.flatten n u (w : Int) = some (.tup [.osl 0 n 0 26 w none, encS (st (S.take w ++ List.replicate (n - w) ZR).flatten n u)]) := by
  have hz : ZR.length = (KFr).length := rfl
  have lS := rows_len hS
  rw [hl, show (KFr).length = 26 from rfl] at lS
  have hsp := splice_rest hS hz (hl ▸ hw) (w := w)
  rw [hl, show (KFr).length = 26 from rfl] at hsp
  have hlen : (S.take w ++ List.replicate (n - w) ZR).flatten.length = n * 26 := by
    rw [List.flatten_append, List.length_append, flat_tl hS (by omega), rep_len, hz, show (KFr).length = 26 from rfl]
    exact mul_split hw
  have hold : oldL 0 (S.take w ++ List.replicate (n - w) ZR).flatten = true := by rw [List.flatten_append, oldL_append, rows_old (rowsOk_take hS w), ZR_old]; rfl
  have key : ∀ c : List PV, c.length = n * 26 -> oldL 0 c = true -> fin c n u (w : Int) = some (.tup [.osl 0 n 0 26 w none, encS (st c n u)]) := by
    intro c h1 h2
    have ho : ([n == n && decide (0 + n * 26 <= c.length), decide (0 <= (w : Int)) && decide ((w : Int) <= ((n - 0 : Nat) : Int)), !(decide (0 = (w : Int).toNat) && decide (0 < 0)), oldL 0 c, oldO 2 u 33, oldO 2 u 34, oldO 2 u 37] : List Bool).all id = true := by
      have a1 : decide (0 + n * 26 <= c.length) = true := by simp [h1]
      have a2 : (decide (0 <= (w : Int)) && decide ((w : Int) <= ((n - 0 : Nat) : Int))) = true := by simp; omega
      rw [a1, a2, h2]
      simp [ox_ok hx]
      try exact hx
    unfold fin
    rw [asks_of ho]
    simp
  unfold exitD
  rw [asks_of (by simp [lS]; omega)]
  simp only [Int.toNat_natCast]
  by_cases e : w = n
  . subst e
    have t : S.take w ++ List.replicate (w - w) ZR = S := by rw [Nat.sub_self, List.take_of_length_le (by omega)]; simp
    rw [t]
    have k := key S.flatten lS (rows_old hS)
    cases decide (w = w) && decide (0 < w) with
    | true => exact k
    | false => rw [cond_false, cond_t (show decide (w - w = 0) = true from by simp)]; exact k
  . rw [cond_f (by simp [e]), cond_f (by simp; omega), hsp]
    have lr : (repCells ZR (n - w)).length = (n - w) * 26 := by rw [rep_cells, rep_len]; rfl
    rw [asks_of (by
      have := mul_split (e := 26) hw
      simp only [lr, lS, beq_self_eq_true, Bool.true_and, List.all_cons, List.all_nil, id, Bool.and_true, decide_eq_true_eq]
      omega)]
    exact key _ hlen hold
def dfC (n : Nat) (c : List PV) (u : List PV) : List PV := ((chunks 26 n c).filter (stayF u) ++ List.replicate (n - ((chunks 26 n c).filter (stayF u)).length) ZR).flatten
def dfN (n : Nat) (c : List PV) (u : List PV) : Nat := ((chunks 26 n c).filter (stayF u)).length
def gDf (xs : List PV) : Option Tr := match xs with
  | [d, .fn (.func 45) [] [.ptr 1 1 0], o] => match ob d o with
    | some (n, n1, n2, c, u) => some (.leaf ((n1 == n) && ((n2 == n) && (askX u && rowsC KFr n c))) (.tup [.osl 0 n 0 26 (dfN n c u) none, encS (st (dfC n c u) n u)]))
    | none => none
  | [.sl [] e 0 none, .fn (.func 45) [] [.ptr 0 1 0], .tup [.tup [.agg u, .ptr 38 1 0, .bool true, .bool false, .bool true]]] =>
    some (.leaf (Nat.beq e 26 && askX u) (.tup [.sl [] 26 0 none, encS [bxd u]]))
  | _ => none
theorem dn1 (N : Nat) (u : List PV) : footSR EN TIx HDf (N + 50) 5 44 [.sl [] 26 0 none, fnc 0, encS [bxd u]] = (asks [oldO 0 u 33, oldO 0 u 34, oldO 0 u 37, oldO 1 u 33, oldO 1 u 34, oldO 1 u 37, oldO 0 u 33, oldO 0 u 34, oldO 0 u 37, oldO 1 u 33, oldO 1 u 34, oldO 1 u 37] <| some (.tup [.sl [] 26 0 none, encS [bxd u]])) := by kernel_rfl
theorem runDf (xs : List PV) (t : Tr) (v : PV) (h : gDf xs = some t) (hv : t.val = some v) : ∃ H, footSR EN TIx H 1000009 5 44 xs = some v := by
  unfold gDf at h
  split at h
  . rename_i d o
    split at h
    . rename_i n n1 n2 c u ho
      cases h
      obtain ⟨hc, rfl⟩ := leaf_val hv
      simp only [Bool.and_eq_true, beq_iff_eq] at hc
      obtain ⟨q1, q2, hx, hr⟩ := hc
      obtain ⟨rfl, rfl⟩ := ob_ok ho q1 q2 hx
      obtain ⟨r1, r2, r3, r4⟩ := rowsC_ok hr
      rw [show (KFr).length = 26 from rfl] at r2 r3 r4
      refine ⟨HDf, (d0 1000009 c n u).trans ?_⟩
      have o1 : oldL 0 c = true := by rw [<- r3]; exact rows_old r2
      have hoA : ([oldL 0 c, oldO 0 u 33, oldO 0 u 34, oldO 0 u 37, (n == n) && ((n == n) && (askX (shapeAt KOp u 0) && rowsC KFr n c)), oldL 0 c, oldO 0 u 33, oldO 0 u 34, oldO 0 u 37] : List Bool).all id = true := by
        simp [o1, hr, hx, ox_ok hx, hx_s hx]
        try exact hx
      have hoB : ([oldL 0 c, oldO 2 u 33, oldO 2 u 34, oldO 2 u 37] : List Bool).all id = true := by
        simp [o1, ox_ok hx]
        try exact hx
      rw [asks_of hoA]
      have hxi := idxN_ok (stayF u) (chunks 26 n c)
      cases hi : idxN (stayF u) (chunks 26 n c) with
      | none =>
        rw [hi] at hxi
        have e : dfN n c u = n /\ dfC n c u = c := by
          unfold dfN dfC
          rw [hxi, r4, Nat.sub_self]
          simp [r3]
        rw [e.1, e.2, cond_t (show (idxI (none : Option Nat) 0 == -1) = true from rfl), asks_of hoB]
      | some z =>
        rw [hi] at hxi
        obtain ⟨z1, z2, z3⟩ := hxi
        have e0 : idxI (some z) 0 = (z : Int) := by simp [idxI]
        rw [e0, cond_f (show ((z : Int) == -1) = false from by simp), wrap_succ (by omega : z < 9223372036854775807)]
        have hk := Kept.start z1 z2 z3
        obtain ⟨S', w', s1, s2, s3⟩ := d_loop (N := 1000009) (z := (z : Int)) (u := u) hx r4 r1 (n - (z + 1)) (z + 1) z (1000008 - (n - (z + 1))) (chunks 26 n c) (by omega) r2 hk
        rw [show 1000008 - (n - (z + 1)) + (n - (z + 1)) + 1 = 1000009 from by omega, r3] at s3
        rw [s3]
        have hle := s2.le
        have hlS : S'.length = n := by rw [s2.len, r4]
        rw [exit_ok hx s1 hlS (by omega)]
        have ed := s2.done
        have ew : w' = dfN n c u := by
          unfold dfN
          rw [<- ed, List.length_take]
          omega
        unfold dfC
        rw [<- ed, List.length_take, Nat.min_eq_left (by omega), <- ew]
    . cases h
  . rename_i e u
    cases h
    obtain ⟨hc, rfl⟩ := leaf_val hv
    simp only [Bool.and_eq_true] at hc
    rw [Nat.eq_of_beq_eq_true hc.1]
    have e2 : (PV.tup [.tup [.agg u, .ptr 38 1 0, .bool true, .bool false, .bool true]]) = encS [bxd u] := congrArg (fun z => PV.tup [.tup [.agg z, .ptr 38 1 0, .bool true, .bool false, .bool true]]) (op_of hc.2).symm
    rw [e2]
    refine ⟨HDf, (dn1 999959 _ ).trans ?_⟩
    rw [asks_of (by simp [ox_ok hc.2])]
  . cases h
end Go.Proofs.YtpbemfikhmeedaaGreatDoor.Am.OF
namespace Go.Proofs.YtpbemfikhmeedaaGreatDoor.Am.OG
open St
def hit (u : List PV) (x : List PV) : Bool := hitG u x
theorem hit_good (u : List PV) (x : List PV) : hit u x = !((stayG u) x) := by unfold hit stayG; simp
def bxd (u : List PV) : Ob := bxN (shapeAt KOp u 0) 38
def st (c : List PV) (n : Nat) (u : List PV) : Store := [.mem ⟨c, 8, n, false, false, false⟩, bxd u]
def fnc (id : Nat) : PV := .fn (.func 48) [] [.ptr id 1 0]
def slIx (n : Nat) (i : Int) : List (Nat × PV) := [(0, .osl 0 n 0 8 n none), (1, fnc 1), (4, vI 0), (6, .osl 0 n 0 8 n none), (7, vI n), (8, vI i)]
noncomputable def LIx (N m : Nat) (c : List PV) (n : Nat) (u : List PV) (i : Int) : Option PV := loopSF EN T0 H0 N 5 2 67 Tryz.f67 [1, 0, 1, 0] (patOf (sparse 19 0 (slIx 0 0))) 2 m (sparse 19 0 (slIx n i)) (st c n u)
theorem x0 (N : Nat) (c : List PV) (n : Nat) (u : List PV) : footSR EN T0 H0 N 5 67 [.osl 0 n 0 8 n none, fnc 1, encS (st c n u)] = LIx N N c n u 0 := by kernel_rfl
theorem x1 (N m : Nat) (c : List PV) (n : Nat) (u : List PV) (i : Int) : LIx N (m + 1) c n u i =
  (bif decide (i < (n : Int)) then
    (asks ([decide (0 <= i) && decide (i < (n : Int)), n == n, okAt KGr c (0 + i.toNat * 8)]) <|
    bif hit u (shapeAt KGr c (0 + i.toNat * 8)) then (asks [oldL 0 c, oldO 2 u 33, oldO 2 u 34, oldO 2 u 37] <| some (.tup [vI i, encS (st c n u)]))
    else (asks [oldL 0 c, oldO 2 u 33, oldO 2 u 34, oldO 2 u 37] <| LIx N m c n u (IntKind.i64.wrap (i + 1))))
  else (asks [oldL 0 c, oldO 2 u 33, oldO 2 u 34, oldO 2 u 37] <| some (.tup [vI (-1), encS (st c n u)]))) := by kernel_rfl
def askX (u : List PV) : Bool := wk KOp u && oldL 0 u
theorem hx_s {u : List PV} (hx : askX u = true) : askX (shapeAt KOp u 0) = true := by rw [op_of hx]; exact hx
theorem x_loop {N n : Nat} {R : List (List PV)} {u : List PV} (hx : askX u = true) (hR : rowsOk KGr R = true) (hl : R.length = n) (hn : n <= 1000000) : ∀ (k i q : Nat), i + k = n -> LIx N (q + k + 1) R.flatten n u (i : Int) = some (.tup [vI (idxI (idxN (stayG u) (R.drop i)) i), encS (st R.flatten n u)])
  | 0, i, q, h => by
    have ho : ([oldL 0 R.flatten, oldO 2 u 33, oldO 2 u 34, oldO 2 u 37] : List Bool).all id = true := by
      simp [rows_old hR, ox_ok hx]
      try exact hx
    rw [x1, cond_f (show decide ((i : Int) < (n : Int)) = false from by simp; omega), asks_of ho, List.drop_eq_nil_of_le (by omega)]
    rfl
  | k + 1, i, q, h => by
    have hi : i < R.length := by omega
    have pa := rows_at hR hi
    have hrw := rowsOk_get hR (List.getElem_mem hi)
    have ho : ([oldL 0 R.flatten, oldO 2 u 33, oldO 2 u 34, oldO 2 u 37] : List Bool).all id = true := by
      simp [rows_old hR, ox_ok hx]
      try exact hx
    rw [show q + (k + 1) + 1 = (q + k + 1) + 1 from by omega, x1, cond_t (show decide ((i : Int) < (n : Int)) = true from by simp; omega)]
    simp only [Int.toNat_natCast]
    rw [show (8 : Nat) = (KGr).length from rfl, pa.2, pa.1, asks_of (by rw [inside (show i < n by omega)]; simp), List.drop_eq_getElem_cons hi, idxN, hit_good]
    cases hg : (stayG u) R[i] with
    | false =>
      rw [Bool.not_false, cond_true, cond_true, asks_of ho]
      rfl
    | true =>
      rw [Bool.not_true, cond_false, cond_false, asks_of ho, wrap_succ (by omega : i < 9223372036854775807), x_loop hx hR hl hn k (i + 1) q (by omega), idxI_succ]
      try rfl
def ob (d o : PV) : Option (Nat × Nat × Nat × List PV × List PV) := match d, o with
  | .osl 0 n1 0 e n none, .tup [.tup [.agg c, .ptr e2 n2 0, .bool false, .bool false, .bool false], .tup [.agg u, .ptr 38 1 0, .bool true, .bool false, .bool true]] =>
    bif Nat.beq e 8 && Nat.beq e2 8 then some (n, n1, n2, c, u) else none
  | _, _ => none
theorem ob_ok {d o : PV} {n n1 n2 : Nat} {c : List PV} {u : List PV} (h : ob d o = some (n, n1, n2, c, u)) (h1 : n1 = n) (h2 : n2 = n) (hx : askX u = true) : d = .osl 0 n 0 8 n none /\ o = encS (st c n u) := by
  unfold ob at h
  split at h
  . rename_i m1 e m c' e2 m2 u'
    cases hb : Nat.beq e 8 && Nat.beq e2 8 with
    | false => rw [hb] at h; cases h
    | true =>
      rw [hb] at h
      cases h
      simp only [Bool.and_eq_true] at hb
      have k1 := Nat.eq_of_beq_eq_true hb.1
      have k2 := Nat.eq_of_beq_eq_true hb.2
      subst k1 h1 h2
      rw [k2]
      exact ⟨rfl, (congrArg (fun z => PV.tup [.tup [.agg _, .ptr _ _ 0, .bool false, .bool false, .bool false], .tup [.agg z, .ptr 38 1 0, .bool true, .bool false, .bool true]]) (op_of hx).symm)⟩
  . cases h
def gIx (xs : List PV) : Option Tr := match xs with
  | [d, .fn (.func 48) [] [.ptr 1 1 0], o] => match ob d o with
    | some (n, n1, n2, c, u) => some (.leaf ((n1 == n) && ((n2 == n) && (askX u && rowsC KGr n c))) (.tup [vI (idxI (idxN (stayG u) (chunks 8 n c)) 0), encS (st c n u)]))
    | none => none
  | _ => none
theorem runIx (xs : List PV) (t : Tr) (v : PV) (h : gIx xs = some t) (hv : t.val = some v) : ∃ H, footSR EN T0 H 1000009 5 67 xs = some v := by
  refine ⟨H0, ?_⟩
  unfold gIx at h
  split at h
  . rename_i d o
    split at h
    . rename_i n n1 n2 c u ho
      cases h
      obtain ⟨hc, rfl⟩ := leaf_val hv
      simp only [Bool.and_eq_true, beq_iff_eq] at hc
      obtain ⟨q1, q2, hx, hr⟩ := hc
      obtain ⟨rfl, rfl⟩ := ob_ok ho q1 q2 hx
      obtain ⟨r1, r2, r3, r4⟩ := rowsC_ok hr
      refine (x0 1000009 c n u).trans ?_
      have := x_loop (N := 1000009) (u := u) hx r2 r4 r1 n 0 (1000008 - n) (by omega)
      rw [show 1000008 - n + n + 1 = 1000009 from by omega, r3] at this
      exact this
    . cases h
  . cases h
noncomputable def TIx : Table := TaddT T0 67 gIx
theorem TIxok : TR TIx := (TR0).addF TR0 runIx
def HDf : FuncId -> Hint := fun f t => bif Nat.beq f 47 && Nat.beq t 41 then [some false] else []
def slDf (n : Nat) (z w j : Int) : List (Nat × PV) := [(0, .osl 0 n 0 8 n none), (1, fnc 1), (4, .nils), (5, vI w), (6, vI j), (8, .osl 0 n 0 8 n none), (9, fnc 1), (10, vI z), (11, vI z), (12, .bool false), (14, vI z), (15, vI (IntKind.i64.wrap (z + 1)))]
noncomputable def LDf (N m : Nat) (c : List PV) (n : Nat) (u : List PV) (z w j : Int) : Option PV := loopSF EN TIx HDf N 5 2 47 Tryz.f47 [1, 1, 1, 0, 1, 0] (patOf (sparse 42 0 (slDf 0 0 0 0))) 2 m (sparse 42 0 (slDf n z w j)) (st c n u)
def ZR : List PV := [.str [], .str [], .str [], .bool false, .bool false, .int .i64 0, .nils, .nils]
def fin (c : List PV) (n : Nat) (u : List PV) (w : Int) : Option PV :=
  asks [n == n && decide (0 + n * 8 <= c.length), decide (0 <= w) && decide (w <= ((n - 0 : Nat) : Int)), !(decide (0 = w.toNat) && decide (0 < 0)), oldL 0 c, oldO 2 u 33, oldO 2 u 34, oldO 2 u 37] <| some (.tup [.osl 0 n 0 8 (w.toNat - 0) none, encS (st c n u)])
def exitD (c : List PV) (n : Nat) (u : List PV) (w : Int) : Option PV :=
  asks [n == n && decide (0 + n * 8 <= c.length), decide (0 <= w) && decide (w <= (n : Int))] <|
  bif decide (w.toNat = n) && decide (0 < w.toNat) then fin c n u w
  else bif decide (n - w.toNat = 0) then fin c n u w
  else (asks [n == n && decide (0 + w.toNat * 8 + (repCells ZR (n - w.toNat)).length <= c.length)] <| fin (splice c (0 + w.toNat * 8) (repCells ZR (n - w.toNat))) n u w)
theorem d1 (N m : Nat) (c : List PV) (n : Nat) (u : List PV) (z w j : Int) : LDf N (m + 1) c n u z w j =
  (bif decide (j < (n : Int)) then
    (asks ([decide (0 <= j) && decide (j < (n : Int)), n == n, okAt KGr c (0 + j.toNat * 8)]) <|
    bif !(hit u (shapeAt KGr c (0 + j.toNat * 8))) then
      (asks [decide (0 <= w) && decide (w < (n : Int)), n == n && (8 == 8 && (decide (0 + w.toNat * 8 + 8 <= c.length) && (shapeAt KGr c (0 + j.toNat * 8)).all PV.oneCell))] <|
      asks [oldL 0 (splice c (0 + w.toNat * 8) (shapeAt KGr c (0 + j.toNat * 8))), oldO 2 u 33, oldO 2 u 34, oldO 2 u 37] <|
      LDf N m (splice c (0 + w.toNat * 8) (shapeAt KGr c (0 + j.toNat * 8))) n u z (IntKind.i64.wrap (w + 1)) (IntKind.i64.wrap (j + 1)))
    else (asks [oldL 0 c, oldO 2 u 33, oldO 2 u 34, oldO 2 u 37] <| LDf N m c n u z w (IntKind.i64.wrap (j + 1))))
  else exitD c n u w) := by kernel_rfl
theorem d0 (N : Nat) (c : List PV) (n : Nat) (u : List PV) : footSR EN TIx HDf N 5 47 [.osl 0 n 0 8 n none, fnc 1, encS (st c n u)] =
  (asks [oldL 0 c, oldO 0 u 33, oldO 0 u 34, oldO 0 u 37, (n == n) && ((n == n) && (askX (shapeAt KOp u 0) && rowsC KGr n c)), oldL 0 c, oldO 0 u 33, oldO 0 u 34, oldO 0 u 37] <|
   bif idxI (idxN (stayG u) (chunks 8 n c)) 0 == -1 then (asks [oldL 0 c, oldO 2 u 33, oldO 2 u 34, oldO 2 u 37] <| some (.tup [.osl 0 n 0 8 n none, encS (st c n u)]))
   else LDf N N c n u (idxI (idxN (stayG u) (chunks 8 n c)) 0) (idxI (idxN (stayG u) (chunks 8 n c)) 0) (IntKind.i64.wrap (idxI (idxN (stayG u) (chunks 8 n c)) 0 + 1))) := by kernel_rfl
theorem d_loop {N n : Nat} {R : List (List PV)} {u : List PV} {z : Int} (hx : askX u = true) (hl : R.length = n) (hn : n <= 1000000) : ∀ (k j w q : Nat) (S : List (List PV)), j + k = n -> rowsOk KGr S = true -> Kept (stayG u) R S w j ->
    ∃ S' w', rowsOk KGr S' = true /\ Kept (stayG u) R S' w' R.length /\ LDf N (q + k + 1) S.flatten n u z (w : Int) (j : Int) = exitD S'.flatten n u (w' : Int)
  | 0, j, w, q, S, h, hS, hk => by
    have e : j = R.length := by omega
    subst e
    refine ⟨S, w, hS, hk, ?_⟩
    rw [d1, cond_f (show decide (((R.length : Nat) : Int) < (n : Int)) = false from by simp; omega)]
  | k + 1, j, w, q, S, h, hS, hk => by
    have hj : j < R.length := by omega
    have hj' : j < S.length := by rw [hk.len]; exact hj
    have hwj := hk.le
    have hw : w < S.length := by omega
    have pa := rows_at hS hj'
    have hrow := rowsOk_get hS (List.getElem_mem hj')
    have hrw := hrow
    rw [show q + (k + 1) + 1 = (q + k + 1) + 1 from by omega, d1, cond_t (show decide ((j : Int) < (n : Int)) = true from by simp; omega)]
    simp only [Int.toNat_natCast]
    rw [show (8 : Nat) = (KGr).length from rfl, pa.2, pa.1, asks_of (by rw [inside (show j < n by omega)]; simp), hk.at hj, hit_good]
    rw [hk.at hj] at hrow
    cases hg : (stayG u) R[j] with
    | true =>
      rw [Bool.not_true, Bool.not_false, cond_true]
      have hset : rowsOk KGr (S.set w R[j]) = true := rowsOk_set hS w hrow.1 hrow.2
      have hfl := flat_len hS hw
      have ho : ([oldL 0 (S.set w R[j]).flatten, oldO 2 u 33, oldO 2 u 34, oldO 2 u 37] : List Bool).all id = true := by
        simp [rows_old hset, ox_ok hx]
        try exact hx
      obtain ⟨S', w', r1, r2, r3⟩ := d_loop hx hl hn k (j + 1) (w + 1) q (S.set w R[j]) (by omega) hset (hk.in hj hg)
      refine ⟨S', w', r1, r2, ?_⟩
      rw [rows_splice hS hw (wk_len hrow.1), asks_of (by rw [inside (show w < n by rw [<- hl, <- hk.len]; exact hw)]; simp only [hfl, wk_one hrow.1, beq_self_eq_true, decide_true, Bool.and_self, List.all_cons, List.all_nil, id]), asks_of ho, wrap_succ (by omega : w < 9223372036854775807), wrap_succ (by omega : j < 9223372036854775807)]
      exact r3
    | false =>
      have ho : ([oldL 0 S.flatten, oldO 2 u 33, oldO 2 u 34, oldO 2 u 37] : List Bool).all id = true := by
        simp [rows_old hS, ox_ok hx]
        try exact hx
      rw [Bool.not_false, Bool.not_true, cond_false]
      obtain ⟨S', w', r1, r2, r3⟩ := d_loop hx hl hn k (j + 1) w q S (by omega) hS (hk.out hj hg)
      refine ⟨S', w', r1, r2, ?_⟩
      rw [asks_of ho, wrap_succ (by omega : j < 9223372036854775807)]
      exact r3
theorem ZR_old : ∀ k, oldL 0 (List.replicate k ZR).flatten = true := fun k => rep_old (by rfl) k
theorem exit_ok {n w : Nat} {S : List (List PV)} {u : List PV} (hx : askX u = true) (hS : rowsOk KGr S = true) (hl : S.length = n) (hw : w <= n) :
    exitD S.flatten n u (w : Int) = some (.tup [.osl 0 n 0 8 w none, encS (st (S.take w ++ List.replicate (n - w) ZR).flatten n u)]) := by
  have hz : ZR.length = (KGr).length := rfl
  have lS := rows_len hS
  rw [hl, show (KGr).length = 8 from rfl] at lS
  have hsp := splice_rest hS hz (hl ▸ hw) (w := w)
  rw [hl, show (KGr).length = 8 from rfl] at hsp
  have hlen : (S.take w ++ List.replicate (n - w) ZR).flatten.length = n * 8 := by
    rw [List.flatten_append, List.length_append, flat_tl hS (by omega), rep_len, hz, show (KGr).length = 8 from rfl]
    exact mul_split hw
  have hold : oldL 0 (S.take w ++ List.replicate (n - w) ZR).flatten = true := by rw [List.flatten_append, oldL_append, rows_old (rowsOk_take hS w), ZR_old]; rfl
  have key : ∀ c : List PV, c.length = n * 8 -> oldL 0 c = true -> fin c n u (w : Int) = some (.tup [.osl 0 n 0 8 w none, encS (st c n u)]) := by
    intro c h1 h2
    have ho : ([n == n && decide (0 + n * 8 <= c.length), decide (0 <= (w : Int)) && decide ((w : Int) <= ((n - 0 : Nat) : Int)), !(decide (0 = (w : Int).toNat) && decide (0 < 0)), oldL 0 c, oldO 2 u 33, oldO 2 u 34, oldO 2 u 37] : List Bool).all id = true := by
      have a1 : decide (0 + n * 8 <= c.length) = true := by simp [h1]
      have a2 : (decide (0 <= (w : Int)) && decide ((w : Int) <= ((n - 0 : Nat) : Int))) = true := by simp; omega
      rw [a1, a2, h2]
      simp [ox_ok hx]
      try exact hx
    unfold fin
    rw [asks_of ho]
    simp
  unfold exitD
  rw [asks_of (by simp [lS]; omega)]
  simp only [Int.toNat_natCast]
  by_cases e : w = n
  . subst e
    have t : S.take w ++ List.replicate (w - w) ZR = S := by rw [Nat.sub_self, List.take_of_length_le (by omega)]; simp
    rw [t]
    have k := key S.flatten lS (rows_old hS)
    cases decide (w = w) && decide (0 < w) with
    | true => exact k
    | false => rw [cond_false, cond_t (show decide (w - w = 0) = true from by simp)]; exact k
  . rw [cond_f (by simp [e]), cond_f (by simp; omega), hsp]
    have lr : (repCells ZR (n - w)).length = (n - w) * 8 := by rw [rep_cells, rep_len]; rfl
    rw [asks_of (by
      have := mul_split (e := 8) hw
      simp only [lr, lS, beq_self_eq_true, Bool.true_and, List.all_cons, List.all_nil, id, Bool.and_true, decide_eq_true_eq]
      omega)]
    exact key _ hlen hold
def dfC (n : Nat) (c : List PV) (u : List PV) : List PV := ((chunks 8 n c).filter (stayG u) ++ List.replicate (n - ((chunks 8 n c).filter (stayG u)).length) ZR).flatten
def dfN (n : Nat) (c : List PV) (u : List PV) : Nat := ((chunks 8 n c).filter (stayG u)).length
def gDf (xs : List PV) : Option Tr := match xs with
  | [d, .fn (.func 48) [] [.ptr 1 1 0], o] => match ob d o with
    | some (n, n1, n2, c, u) => some (.leaf ((n1 == n) && ((n2 == n) && (askX u && rowsC KGr n c))) (.tup [.osl 0 n 0 8 (dfN n c u) none, encS (st (dfC n c u) n u)]))
    | none => none
  | [.sl [] e 0 none, .fn (.func 48) [] [.ptr 0 1 0], .tup [.tup [.agg u, .ptr 38 1 0, .bool true, .bool false, .bool true]]] =>
    some (.leaf (Nat.beq e 8 && askX u) (.tup [.sl [] 8 0 none, encS [bxd u]]))
  | _ => none
theorem dn1 (N : Nat) (u : List PV) : footSR EN TIx HDf (N + 50) 5 47 [.sl [] 8 0 none, fnc 0, encS [bxd u]] = (asks [oldO 0 u 33, oldO 0 u 34, oldO 0 u 37, oldO 1 u 33, oldO 1 u 34, oldO 1 u 37, oldO 0 u 33, oldO 0 u 34, oldO 0 u 37, oldO 1 u 33, oldO 1 u 34, oldO 1 u 37] <| some (.tup [.sl [] 8 0 none, encS [bxd u]])) := by kernel_rfl
theorem runDf (xs : List PV) (t : Tr) (v : PV) (h : gDf xs = some t) (hv : t.val = some v) : ∃ H, footSR EN TIx H 1000009 5 47 xs = some v := by
  unfold gDf at h
  split at h
  . rename_i d o
    split at h
    . rename_i n n1 n2 c u ho
      cases h
      obtain ⟨hc, rfl⟩ := leaf_val hv
      simp only [Bool.and_eq_true, beq_iff_eq] at hc
      obtain ⟨q1, q2, hx, hr⟩ := hc
      obtain ⟨rfl, rfl⟩ := ob_ok ho q1 q2 hx
      obtain ⟨r1, r2, r3, r4⟩ := rowsC_ok hr
      rw [show (KGr).length = 8 from rfl] at r2 r3 r4
      refine ⟨HDf, (d0 1000009 c n u).trans ?_⟩
      have o1 : oldL 0 c = true := by rw [<- r3]; exact rows_old r2
      have hoA : ([oldL 0 c, oldO 0 u 33, oldO 0 u 34, oldO 0 u 37, (n == n) && ((n == n) && (askX (shapeAt KOp u 0) && rowsC KGr n c)), oldL 0 c, oldO 0 u 33, oldO 0 u 34, oldO 0 u 37] : List Bool).all id = true := by
        simp [o1, hr, hx, ox_ok hx, hx_s hx]
        try exact hx
      have hoB : ([oldL 0 c, oldO 2 u 33, oldO 2 u 34, oldO 2 u 37] : List Bool).all id = true := by
        simp [o1, ox_ok hx]
        try exact hx
      rw [asks_of hoA]
      have hxi := idxN_ok (stayG u) (chunks 8 n c)
      cases hi : idxN (stayG u) (chunks 8 n c) with
      | none =>
        rw [hi] at hxi
        have e : dfN n c u = n /\ dfC n c u = c := by
          unfold dfN dfC
          rw [hxi, r4, Nat.sub_self]
          simp [r3]
        rw [e.1, e.2, cond_t (show (idxI (none : Option Nat) 0 == -1) = true from rfl), asks_of hoB]
      | some z =>
        rw [hi] at hxi
        obtain ⟨z1, z2, z3⟩ := hxi
        have e0 : idxI (some z) 0 = (z : Int) := by simp [idxI]
        rw [e0, cond_f (show ((z : Int) == -1) = false from by simp), wrap_succ (by omega : z < 9223372036854775807)]
        have hk := Kept.start z1 z2 z3
        obtain ⟨S', w', s1, s2, s3⟩ := d_loop (N := 1000009) (z := (z : Int)) (u := u) hx r4 r1 (n - (z + 1)) (z + 1) z (1000008 - (n - (z + 1))) (chunks 8 n c) (by omega) r2 hk
        rw [show 1000008 - (n - (z + 1)) + (n - (z + 1)) + 1 = 1000009 from by omega, r3] at s3
        rw [s3]
        have hle := s2.le
        have hlS : S'.length = n := by rw [s2.len, r4]
        rw [exit_ok hx s1 hlS (by omega)]
        have ed := s2.done
        have ew : w' = dfN n c u := by
          unfold dfN
          rw [<- ed, List.length_take]
          omega
        unfold dfC
        rw [<- ed, List.length_take, Nat.min_eq_left (by omega), <- ew]
    . cases h
  . rename_i e u
    cases h
    obtain ⟨hc, rfl⟩ := leaf_val hv
    simp only [Bool.and_eq_true] at hc
    rw [Nat.eq_of_beq_eq_true hc.1]
    have e2 : (PV.tup [.tup [.agg u, .ptr 38 1 0, .bool true, .bool false, .bool true]]) = encS [bxd u] := congrArg (fun z => PV.tup [.tup [.agg z, .ptr 38 1 0, .bool true, .bool false, .bool true]]) (op_of hc.2).symm
    rw [e2]
    refine ⟨HDf, (dn1 999959 _ ).trans ?_⟩
    rw [asks_of (by simp [ox_ok hc.2])]
  . cases h
end Go.Proofs.YtpbemfikhmeedaaGreatDoor.Am.OG
namespace Go.Proofs.YtpbemfikhmeedaaGreatDoor.Am.OI
open St
def hit (u : List PV) (x : List PV) : Bool := hitI u x
theorem hit_good (u : List PV) (x : List PV) : hit u x = !((stayI u) x) := by unfold hit stayI; simp
def bxd (u : List PV) : Ob := bxN (shapeAt KOp u 0) 38
def st (c : List PV) (n : Nat) (u : List PV) : Store := [.mem ⟨c, 3, n, false, false, false⟩, bxd u]
def fnc (id : Nat) : PV := .fn (.func 50) [] [.ptr id 1 0]
def slIx (n : Nat) (i : Int) : List (Nat × PV) := [(0, .osl 0 n 0 3 n none), (1, fnc 1), (4, vI 0), (6, .osl 0 n 0 3 n none), (7, vI n), (8, vI i)]
noncomputable def LIx (N m : Nat) (c : List PV) (n : Nat) (u : List PV) (i : Int) : Option PV := loopSF EN T0 H0 N 5 2 68 Tryz.f68 [1, 0, 1, 0] (patOf (sparse 19 0 (slIx 0 0))) 2 m (sparse 19 0 (slIx n i)) (st c n u)
theorem x0 (N : Nat) (c : List PV) (n : Nat) (u : List PV) : footSR EN T0 H0 N 5 68 [.osl 0 n 0 3 n none, fnc 1, encS (st c n u)] = LIx N N c n u 0 := by kernel_rfl
theorem x1 (N m : Nat) (c : List PV) (n : Nat) (u : List PV) (i : Int) : LIx N (m + 1) c n u i =
  (bif decide (i < (n : Int)) then
    (asks ([decide (0 <= i) && decide (i < (n : Int)), n == n, okAt KFi c (0 + i.toNat * 3)]) <|
    bif hit u (shapeAt KFi c (0 + i.toNat * 3)) then (asks [oldL 0 c, oldO 2 u 33, oldO 2 u 34, oldO 2 u 37] <| some (.tup [vI i, encS (st c n u)]))
    else (asks [oldL 0 c, oldO 2 u 33, oldO 2 u 34, oldO 2 u 37] <| LIx N m c n u (IntKind.i64.wrap (i + 1))))
  else (asks [oldL 0 c, oldO 2 u 33, oldO 2 u 34, oldO 2 u 37] <| some (.tup [vI (-1), encS (st c n u)]))) := by kernel_rfl
def askX (u : List PV) : Bool := wk KOp u && oldL 0 u
theorem hx_s {u : List PV} (hx : askX u = true) : askX (shapeAt KOp u 0) = true := by rw [op_of hx]; exact hx
theorem x_loop {N n : Nat} {R : List (List PV)} {u : List PV} (hx : askX u = true) (hR : rowsOk KFi R = true) (hl : R.length = n) (hn : n <= 1000000) : ∀ (k i q : Nat), i + k = n -> LIx N (q + k + 1) R.flatten n u (i : Int) = some (.tup [vI (idxI (idxN (stayI u) (R.drop i)) i), encS (st R.flatten n u)])
  | 0, i, q, h => by
    have ho : ([oldL 0 R.flatten, oldO 2 u 33, oldO 2 u 34, oldO 2 u 37] : List Bool).all id = true := by
      simp [rows_old hR, ox_ok hx]
      try exact hx
    rw [x1, cond_f (show decide ((i : Int) < (n : Int)) = false from by simp; omega), asks_of ho, List.drop_eq_nil_of_le (by omega)]
    rfl
  | k + 1, i, q, h => by
    have hi : i < R.length := by omega
    have pa := rows_at hR hi
    have hrw := rowsOk_get hR (List.getElem_mem hi)
    have ho : ([oldL 0 R.flatten, oldO 2 u 33, oldO 2 u 34, oldO 2 u 37] : List Bool).all id = true := by
      simp [rows_old hR, ox_ok hx]
      try exact hx
    rw [show q + (k + 1) + 1 = (q + k + 1) + 1 from by omega, x1, cond_t (show decide ((i : Int) < (n : Int)) = true from by simp; omega)]
    simp only [Int.toNat_natCast]
    rw [show (3 : Nat) = (KFi).length from rfl, pa.2, pa.1, asks_of (by rw [inside (show i < n by omega)]; simp), List.drop_eq_getElem_cons hi, idxN, hit_good]
    cases hg : (stayI u) R[i] with
    | false =>
      rw [Bool.not_false, cond_true, cond_true, asks_of ho]
      rfl
    | true =>
      rw [Bool.not_true, cond_false, cond_false, asks_of ho, wrap_succ (by omega : i < 9223372036854775807), x_loop hx hR hl hn k (i + 1) q (by omega), idxI_succ]
      try rfl
def ob (d o : PV) : Option (Nat × Nat × Nat × List PV × List PV) := match d, o with
  | .osl 0 n1 0 e n none, .tup [.tup [.agg c, .ptr e2 n2 0, .bool false, .bool false, .bool false], .tup [.agg u, .ptr 38 1 0, .bool true, .bool false, .bool true]] =>
    bif Nat.beq e 3 && Nat.beq e2 3 then some (n, n1, n2, c, u) else none
  | _, _ => none
theorem ob_ok {d o : PV} {n n1 n2 : Nat} {c : List PV} {u : List PV} (h : ob d o = some (n, n1, n2, c, u)) (h1 : n1 = n) (h2 : n2 = n) (hx : askX u = true) : d = .osl 0 n 0 3 n none /\ o = encS (st c n u) := by
  unfold ob at h
  split at h
  . rename_i m1 e m c' e2 m2 u'
    cases hb : Nat.beq e 3 && Nat.beq e2 3 with
    | false => rw [hb] at h; cases h
    | true =>
      rw [hb] at h
      cases h
      simp only [Bool.and_eq_true] at hb
      have k1 := Nat.eq_of_beq_eq_true hb.1
      have k2 := Nat.eq_of_beq_eq_true hb.2
      subst k1 h1 h2
      rw [k2]
      exact ⟨rfl, (congrArg (fun z => PV.tup [.tup [.agg _, .ptr _ _ 0, .bool false, .bool false, .bool false], .tup [.agg z, .ptr 38 1 0, .bool true, .bool false, .bool true]]) (op_of hx).symm)⟩
  . cases h
def gIx (xs : List PV) : Option Tr := match xs with
  | [d, .fn (.func 50) [] [.ptr 1 1 0], o] => match ob d o with
    | some (n, n1, n2, c, u) => some (.leaf ((n1 == n) && ((n2 == n) && (askX u && rowsC KFi n c))) (.tup [vI (idxI (idxN (stayI u) (chunks 3 n c)) 0), encS (st c n u)]))
    | none => none
  | _ => none
theorem runIx (xs : List PV) (t : Tr) (v : PV) (h : gIx xs = some t) (hv : t.val = some v) : ∃ H, footSR EN T0 H 1000009 5 68 xs = some v := by
  refine ⟨H0, ?_⟩
  unfold gIx at h
  split at h
  . rename_i d o
    split at h
    . rename_i n n1 n2 c u ho
      cases h
      obtain ⟨hc, rfl⟩ := leaf_val hv
      simp only [Bool.and_eq_true, beq_iff_eq] at hc
      obtain ⟨q1, q2, hx, hr⟩ := hc
      obtain ⟨rfl, rfl⟩ := ob_ok ho q1 q2 hx
      obtain ⟨r1, r2, r3, r4⟩ := rowsC_ok hr
      refine (x0 1000009 c n u).trans ?_
      have := x_loop (N := 1000009) (u := u) hx r2 r4 r1 n 0 (1000008 - n) (by omega)
      rw [show 1000008 - n + n + 1 = 1000009 from by omega, r3] at this
      exact this
    . cases h
  . cases h
noncomputable def TIx : Table := TaddT T0 68 gIx
theorem TIxok : TR TIx := (TR0).addF TR0 runIx
def HDf : FuncId -> Hint := fun f t => bif Nat.beq f 49 && Nat.beq t 41 then [some false] else []
def slDf (n : Nat) (z w j : Int) : List (Nat × PV) := [(0, .osl 0 n 0 3 n none), (1, fnc 1), (4, .nils), (5, vI w), (6, vI j), (8, .osl 0 n 0 3 n none), (9, fnc 1), (10, vI z), (11, vI z), (12, .bool false), (14, vI z), (15, vI (IntKind.i64.wrap (z + 1)))]
noncomputable def LDf (N m : Nat) (c : List PV) (n : Nat) (u : List PV) (z w j : Int) : Option PV := loopSF EN TIx HDf N 5 2 49 Tryz.f49 [1, 1, 1, 0, 1, 0] (patOf (sparse 42 0 (slDf 0 0 0 0))) 2 m (sparse 42 0 (slDf n z w j)) (st c n u)
def ZR : List PV := [.str [], .str [], .nils]
def fin (c : List PV) (n : Nat) (u : List PV) (w : Int) : Option PV :=
  asks [n == n && decide (0 + n * 3 <= c.length), decide (0 <= w) && decide (w <= ((n - 0 : Nat) : Int)), !(decide (0 = w.toNat) && decide (0 < 0)), oldL 0 c, oldO 2 u 33, oldO 2 u 34, oldO 2 u 37] <| some (.tup [.osl 0 n 0 3 (w.toNat - 0) none, encS (st c n u)])
def exitD (c : List PV) (n : Nat) (u : List PV) (w : Int) : Option PV :=
  asks [n == n && decide (0 + n * 3 <= c.length), decide (0 <= w) && decide (w <= (n : Int))] <|
  bif decide (w.toNat = n) && decide (0 < w.toNat) then fin c n u w
  else bif decide (n - w.toNat = 0) then fin c n u w
  else (asks [n == n && decide (0 + w.toNat * 3 + (repCells ZR (n - w.toNat)).length <= c.length)] <| fin (splice c (0 + w.toNat * 3) (repCells ZR (n - w.toNat))) n u w)
theorem d1 (N m : Nat) (c : List PV) (n : Nat) (u : List PV) (z w j : Int) : LDf N (m + 1) c n u z w j =
  (bif decide (j < (n : Int)) then
    (asks ([decide (0 <= j) && decide (j < (n : Int)), n == n, okAt KFi c (0 + j.toNat * 3)]) <|
    bif !(hit u (shapeAt KFi c (0 + j.toNat * 3))) then
      (asks [decide (0 <= w) && decide (w < (n : Int)), n == n && (3 == 3 && (decide (0 + w.toNat * 3 + 3 <= c.length) && (shapeAt KFi c (0 + j.toNat * 3)).all PV.oneCell))] <|
      asks [oldL 0 (splice c (0 + w.toNat * 3) (shapeAt KFi c (0 + j.toNat * 3))), oldO 2 u 33, oldO 2 u 34, oldO 2 u 37] <|
      LDf N m (splice c (0 + w.toNat * 3) (shapeAt KFi c (0 + j.toNat * 3))) n u z (IntKind.i64.wrap (w + 1)) (IntKind.i64.wrap (j + 1)))
    else (asks [oldL 0 c, oldO 2 u 33, oldO 2 u 34, oldO 2 u 37] <| LDf N m c n u z w (IntKind.i64.wrap (j + 1))))
  else exitD c n u w) := by kernel_rfl
theorem d0 (N : Nat) (c : List PV) (n : Nat) (u : List PV) : footSR EN TIx HDf N 5 49 [.osl 0 n 0 3 n none, fnc 1, encS (st c n u)] =
  (asks [oldL 0 c, oldO 0 u 33, oldO 0 u 34, oldO 0 u 37, (n == n) && ((n == n) && (askX (shapeAt KOp u 0) && rowsC KFi n c)), oldL 0 c, oldO 0 u 33, oldO 0 u 34, oldO 0 u 37] <|
   bif idxI (idxN (stayI u) (chunks 3 n c)) 0 == -1 then (asks [oldL 0 c, oldO 2 u 33, oldO 2 u 34, oldO 2 u 37] <| some (.tup [.osl 0 n 0 3 n none, encS (st c n u)]))
   else LDf N N c n u (idxI (idxN (stayI u) (chunks 3 n c)) 0) (idxI (idxN (stayI u) (chunks 3 n c)) 0) (IntKind.i64.wrap (idxI (idxN (stayI u) (chunks 3 n c)) 0 + 1))) := by kernel_rfl
theorem d_loop {N n : Nat} {R : List (List PV)} {u : List PV} {z : Int} (hx : askX u = true) (hl : R.length = n) (hn : n <= 1000000) : ∀ (k j w q : Nat) (S : List (List PV)), j + k = n -> rowsOk KFi S = true -> Kept (stayI u) R S w j ->
    ∃ S' w', rowsOk KFi S' = true /\ Kept (stayI u) R S' w' R.length /\ LDf N (q + k + 1) S.flatten n u z (w : Int) (j : Int) = exitD S'.flatten n u (w' : Int)
  | 0, j, w, q, S, h, hS, hk => by
    have e : j = R.length := by omega
    subst e
    refine ⟨S, w, hS, hk, ?_⟩
    rw [d1, cond_f (show decide (((R.length : Nat) : Int) < (n : Int)) = false from by simp; omega)]
  | k + 1, j, w, q, S, h, hS, hk => by
    have hj : j < R.length := by omega
    have hj' : j < S.length := by rw [hk.len]; exact hj
    have hwj := hk.le
    have hw : w < S.length := by omega
    have pa := rows_at hS hj'
    have hrow := rowsOk_get hS (List.getElem_mem hj')
    have hrw := hrow
    rw [show q + (k + 1) + 1 = (q + k + 1) + 1 from by omega, d1, cond_t (show decide ((j : Int) < (n : Int)) = true from by simp; omega)]
    simp only [Int.toNat_natCast]
    rw [show (3 : Nat) = (KFi).length from rfl, pa.2, pa.1, asks_of (by rw [inside (show j < n by omega)]; simp), hk.at hj, hit_good]
    rw [hk.at hj] at hrow
    cases hg : (stayI u) R[j] with
    | true =>
      rw [Bool.not_true, Bool.not_false, cond_true]
      have hset : rowsOk KFi (S.set w R[j]) = true := rowsOk_set hS w hrow.1 hrow.2
      have hfl := flat_len hS hw
      have ho : ([oldL 0 (S.set w R[j]).flatten, oldO 2 u 33, oldO 2 u 34, oldO 2 u 37] : List Bool).all id = true := by
        simp [rows_old hset, ox_ok hx]
        try exact hx
      obtain ⟨S', w', r1, r2, r3⟩ := d_loop hx hl hn k (j + 1) (w + 1) q (S.set w R[j]) (by omega) hset (hk.in hj hg)
      refine ⟨S', w', r1, r2, ?_⟩
      rw [rows_splice hS hw (wk_len hrow.1), asks_of (by rw [inside (show w < n by rw [<- hl, <- hk.len]; exact hw)]; simp only [hfl, wk_one hrow.1, beq_self_eq_true, decide_true, Bool.and_self, List.all_cons, List.all_nil, id]), asks_of ho, wrap_succ (by omega : w < 9223372036854775807), wrap_succ (by omega : j < 9223372036854775807)]
      exact r3
    | false =>
      have ho : ([oldL 0 S.flatten, oldO 2 u 33, oldO 2 u 34, oldO 2 u 37] : List Bool).all id = true := by
        simp [rows_old hS, ox_ok hx]
        try exact hx
      rw [Bool.not_false, Bool.not_true, cond_false]
      obtain ⟨S', w', r1, r2, r3⟩ := d_loop hx hl hn k (j + 1) w q S (by omega) hS (hk.out hj hg)
      refine ⟨S', w', r1, r2, ?_⟩
      rw [asks_of ho, wrap_succ (by omega : j < 9223372036854775807)]
      exact r3
theorem ZR_old : ∀ k, oldL 0 (List.replicate k ZR).flatten = true := fun k => rep_old (by rfl) k
theorem exit_ok {n w : Nat} {S : List (List PV)} {u : List PV} (hx : askX u = true) (hS : rowsOk KFi S = true) (hl : S.length = n) (hw : w <= n) :
    exitD S.flatten n u (w : Int) = some (.tup [.osl 0 n 0 3 w none, encS (st (S.take w ++ List.replicate (n - w) ZR).flatten n u)]) := by
  have hz : ZR.length = (KFi).length := rfl
  have lS := rows_len hS
  rw [hl, show (KFi).length = 3 from rfl] at lS
  have hsp := splice_rest hS hz (hl ▸ hw) (w := w)
  rw [hl, show (KFi).length = 3 from rfl] at hsp
  have hlen : (S.take w ++ List.replicate (n - w) ZR).flatten.length = n * 3 := by
    rw [List.flatten_append, List.length_append, flat_tl hS (by omega), rep_len, hz, show (KFi).length = 3 from rfl]
    exact mul_split hw
  have hold : oldL 0 (S.take w ++ List.replicate (n - w) ZR).flatten = true := by rw [List.flatten_append, oldL_append, rows_old (rowsOk_take hS w), ZR_old]; rfl
  have key : ∀ c : List PV, c.length = n * 3 -> oldL 0 c = true -> fin c n u (w : Int) = some (.tup [.osl 0 n 0 3 w none, encS (st c n u)]) := by
    intro c h1 h2
    have ho : ([n == n && decide (0 + n * 3 <= c.length), decide (0 <= (w : Int)) && decide ((w : Int) <= ((n - 0 : Nat) : Int)), !(decide (0 = (w : Int).toNat) && decide (0 < 0)), oldL 0 c, oldO 2 u 33, oldO 2 u 34, oldO 2 u 37] : List Bool).all id = true := by
      have a1 : decide (0 + n * 3 <= c.length) = true := by simp [h1]
      have a2 : (decide (0 <= (w : Int)) && decide ((w : Int) <= ((n - 0 : Nat) : Int))) = true := by simp; omega
      rw [a1, a2, h2]
      simp [ox_ok hx]
      try exact hx
    unfold fin
    rw [asks_of ho]
    simp
  unfold exitD
  rw [asks_of (by simp [lS]; omega)]
  simp only [Int.toNat_natCast]
  by_cases e : w = n
  . subst e
    have t : S.take w ++ List.replicate (w - w) ZR = S := by rw [Nat.sub_self, List.take_of_length_le (by omega)]; simp
    rw [t]
    have k := key S.flatten lS (rows_old hS)
    cases decide (w = w) && decide (0 < w) with
    | true => exact k
    | false => rw [cond_false, cond_t (show decide (w - w = 0) = true from by simp)]; exact k
  . rw [cond_f (by simp [e]), cond_f (by simp; omega), hsp]
    have lr : (repCells ZR (n - w)).length = (n - w) * 3 := by rw [rep_cells, rep_len]; rfl
    rw [asks_of (by
      have := mul_split (e := 3) hw
      simp only [lr, lS, beq_self_eq_true, Bool.true_and, List.all_cons, List.all_nil, id, Bool.and_true, decide_eq_true_eq]
      omega)]
    exact key _ hlen hold
def dfC (n : Nat) (c : List PV) (u : List PV) : List PV := ((chunks 3 n c).filter (stayI u) ++ List.replicate (n - ((chunks 3 n c).filter (stayI u)).length) ZR).flatten
def dfN (n : Nat) (c : List PV) (u : List PV) : Nat := ((chunks 3 n c).filter (stayI u)).length
def gDf (xs : List PV) : Option Tr := match xs with
  | [d, .fn (.func 50) [] [.ptr 1 1 0], o] => match ob d o with
    | some (n, n1, n2, c, u) => some (.leaf ((n1 == n) && ((n2 == n) && (askX u && rowsC KFi n c))) (.tup [.osl 0 n 0 3 (dfN n c u) none, encS (st (dfC n c u) n u)]))
    | none => none
  | [.sl [] e 0 none, .fn (.func 50) [] [.ptr 0 1 0], .tup [.tup [.agg u, .ptr 38 1 0, .bool true, .bool false, .bool true]]] =>
    some (.leaf (Nat.beq e 3 && askX u) (.tup [.sl [] 3 0 none, encS [bxd u]]))
  | _ => none
theorem dn1 (N : Nat) (u : List PV) : footSR EN TIx HDf (N + 50) 5 49 [.sl [] 3 0 none, fnc 0, encS [bxd u]] = (asks [oldO 0 u 33, oldO 0 u 34, oldO 0 u 37, oldO 1 u 33, oldO 1 u 34, oldO 1 u 37, oldO 0 u 33, oldO 0 u 34, oldO 0 u 37, oldO 1 u 33, oldO 1 u 34, oldO 1 u 37] <| some (.tup [.sl [] 3 0 none, encS [bxd u]])) := by kernel_rfl
theorem runDf (xs : List PV) (t : Tr) (v : PV) (h : gDf xs = some t) (hv : t.val = some v) : ∃ H, footSR EN TIx H 1000009 5 49 xs = some v := by
  unfold gDf at h
  split at h
  . rename_i d o
    split at h
    . rename_i n n1 n2 c u ho
      cases h
      obtain ⟨hc, rfl⟩ := leaf_val hv
      simp only [Bool.and_eq_true, beq_iff_eq] at hc
      obtain ⟨q1, q2, hx, hr⟩ := hc
      obtain ⟨rfl, rfl⟩ := ob_ok ho q1 q2 hx
      obtain ⟨r1, r2, r3, r4⟩ := rowsC_ok hr
      rw [show (KFi).length = 3 from rfl] at r2 r3 r4
      refine ⟨HDf, (d0 1000009 c n u).trans ?_⟩
      have o1 : oldL 0 c = true := by rw [<- r3]; exact rows_old r2
      have hoA : ([oldL 0 c, oldO 0 u 33, oldO 0 u 34, oldO 0 u 37, (n == n) && ((n == n) && (askX (shapeAt KOp u 0) && rowsC KFi n c)), oldL 0 c, oldO 0 u 33, oldO 0 u 34, oldO 0 u 37] : List Bool).all id = true := by
        simp [o1, hr, hx, ox_ok hx, hx_s hx]
        try exact hx
      have hoB : ([oldL 0 c, oldO 2 u 33, oldO 2 u 34, oldO 2 u 37] : List Bool).all id = true := by
        simp [o1, ox_ok hx]
        try exact hx
      rw [asks_of hoA]
      have hxi := idxN_ok (stayI u) (chunks 3 n c)
      cases hi : idxN (stayI u) (chunks 3 n c) with
      | none =>
        rw [hi] at hxi
        have e : dfN n c u = n /\ dfC n c u = c := by
          unfold dfN dfC
          rw [hxi, r4, Nat.sub_self]
          simp [r3]
        rw [e.1, e.2, cond_t (show (idxI (none : Option Nat) 0 == -1) = true from rfl), asks_of hoB]
      | some z =>
        rw [hi] at hxi
        obtain ⟨z1, z2, z3⟩ := hxi
        have e0 : idxI (some z) 0 = (z : Int) := by simp [idxI]
        rw [e0, cond_f (show ((z : Int) == -1) = false from by simp), wrap_succ (by omega : z < 9223372036854775807)]
        have hk := Kept.start z1 z2 z3
        obtain ⟨S', w', s1, s2, s3⟩ := d_loop (N := 1000009) (z := (z : Int)) (u := u) hx r4 r1 (n - (z + 1)) (z + 1) z (1000008 - (n - (z + 1))) (chunks 3 n c) (by omega) r2 hk
        rw [show 1000008 - (n - (z + 1)) + (n - (z + 1)) + 1 = 1000009 from by omega, r3] at s3
        rw [s3]
        have hle := s2.le
        have hlS : S'.length = n := by rw [s2.len, r4]
        rw [exit_ok hx s1 hlS (by omega)]
        have ed := s2.done
        have ew : w' = dfN n c u := by
          unfold dfN
          rw [<- ed, List.length_take]
          omega
        unfold dfC
        rw [<- ed, List.length_take, Nat.min_eq_left (by omega), <- ew]
    . cases h
  . rename_i e u
    cases h
    obtain ⟨hc, rfl⟩ := leaf_val hv
    simp only [Bool.and_eq_true] at hc
    rw [Nat.eq_of_beq_eq_true hc.1]
    have e2 : (PV.tup [.tup [.agg u, .ptr 38 1 0, .bool true, .bool false, .bool true]]) = encS [bxd u] := congrArg (fun z => PV.tup [.tup [.agg z, .ptr 38 1 0, .bool true, .bool false, .bool true]]) (op_of hc.2).symm
    rw [e2]
    refine ⟨HDf, (dn1 999959 _ ).trans ?_⟩
    rw [asks_of (by simp [ox_ok hc.2])]
  . cases h
end Go.Proofs.YtpbemfikhmeedaaGreatDoor.Am.OI
