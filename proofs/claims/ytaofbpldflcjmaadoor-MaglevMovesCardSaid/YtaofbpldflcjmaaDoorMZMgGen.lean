/- What walks over rows of cells use: loops, rows that grow, what is asked for; tables that are right. -/
import Derived.Test.YtaofbpldflcjmaaDoorMZMgEnvP
import Derived.Test.YtaofbpldflcjmaaDoorMZMgEnvV
import Derived.Test.YtaofbpldflcjmaaDoorMMSf
set_option linter.unusedVariables false
set_option linter.unusedSimpArgs false
set_option maxRecDepth 100000
set_option maxHeartbeats 8000000
namespace Go.Proofs.YtaofbpldflcjmaaDoor.Am
open St
def gAd2 (k : Ad -> Ad -> Int) (xs : List PV) : Option (Bool × PV) := (two asAd xs).map fun p => (true, vi (k p.1 p.2))
def gPt2 (k : Pt -> Pt -> Int) (xs : List PV) : Option (Bool × PV) := (two asPt xs).map fun p => (true, vi (k p.1 p.2))
def gKy2 (k : Ky -> Ky -> Int) (xs : List PV) : Option (Bool × PV) := (two asKy xs).map fun p => (true, vi (k p.1 p.2))
def gRow2 (K : List Kd) (f : List PV -> List PV -> Int) (xs : List PV) : Option (Bool × PV) := match xs with
  | [.agg x, .agg y] => some (wk K x && wk K y, vi (f x y))
  | _ => none
def kyT (a b c d : List UInt8) : Option PV := bif Op.bytesLess a c then some (vi (-1)) else bif a == c then (bif Op.bytesLess b d then some (vi (-1)) else bif (a == c) && ((b == d) && true) then some (vi 0) else some (vi 1)) else bif (a == c) && ((b == d) && true) then some (vi 0) else some (vi 1)
def loopT (a b : Nat -> Int) : List Nat -> Option PV
  | [] => some (vi 0)
  | i :: r => bif decide (a i < b i) then some (vi (-1)) else bif decide (a i > b i) then some (vi 1) else loopT a b r
def TR (T : Table) : Prop := ∃ K, TOk EN T (runA EN 1000009 K)
theorem TR0 : TR T0 := ⟨0, T0_ok⟩
theorem TR.add {T T' : Table} {f0 : Nat} {g : List PV -> Option (Bool × PV)} (hT : TR T) (hT' : TR T') (h : ∀ xs v, g xs = some (true, v) -> ∃ H, apartS EN T' H 1000009 5 f0 xs = some v) (hft : footK f0 = false := by rfl) (hp : ∀ xs, EN.pure f0 xs = none := by intro xs; rfl) : TR (Tadd T f0 g) := by
  obtain ⟨k, hT⟩ := hT
  obtain ⟨k', hT'⟩ := hT'
  exact ⟨_, Tadd_ok2 hT hT' hp h hft⟩
theorem TR.addT {T T' : Table} {f0 : Nat} {g : List PV -> Option Tr} (hT : TR T) (hT' : TR T') (h : ∀ xs t v, g xs = some t -> t.val = some v -> ∃ H, apartS EN T' H 1000009 5 f0 xs = some v) (hft : footK f0 = false := by rfl) (hp : ∀ xs, EN.pure f0 xs = none := by intro xs; rfl) : TR (TaddT T f0 g) := by
  obtain ⟨k, hT⟩ := hT
  obtain ⟨k', hT'⟩ := hT'
  exact ⟨_, TaddT_ok2 hT hT' hp h hft⟩
theorem TR.addF {T T' : Table} {f0 : Nat} {g : List PV -> Option Tr} (hT : TR T) (hT' : TR T') (h : ∀ xs t v, g xs = some t -> t.val = some v -> ∃ H, footSR EN T' H 1000009 5 f0 xs = some v) (hap : apartT f0 = false := by rfl) : TR (TaddT T f0 g) := by
  obtain ⟨k, hT⟩ := hT
  obtain ⟨k', hT'⟩ := hT'
  exact ⟨_, TaddF_ok2 hT hT' h hap⟩
theorem two_some {A B : Type} {f : PV -> Option A} {g : A × A -> B} {xs : List PV} {v : B} (h : (two f xs).map g = some v) : ∃ x y a b, xs = [x, y] /\ f x = some a /\ f y = some b /\ v = g (a, b) := by
  simp only [Option.map_eq_some_iff] at h
  obtain ⟨⟨a, b⟩, h, rfl⟩ := h
  unfold two at h
  split at h
  . rename_i x y
    split at h
    . rename_i a' b' h1 h2
      cases h
      exact ⟨x, y, a, b, rfl, h1, h2, rfl⟩
    . cases h
  . cases h
theorem row2_some {K : List Kd} {f : List PV -> List PV -> Int} {xs : List PV} {v : PV} (h : gRow2 K f xs = some (true, v)) : ∃ x y, xs = [.agg x, .agg y] /\ wk K x = true /\ wk K y = true /\ v = vi (f x y) := by
  unfold gRow2 at h
  split at h
  . rename_i x y
    simp only [Option.some.injEq, Prod.mk.injEq, Bool.and_eq_true] at h
    exact ⟨x, y, rfl, h.1.1, h.1.2, h.2.symm⟩
  . cases h
theorem or4_some (a b c d : Int) : (bif a != 0 then some (vi a) else bif b != 0 then some (vi b) else bif c != 0 then some (vi c) else bif d != 0 then some (vi d) else some (vi 0)) = some (vi (orr [a, b, c, d])) := by
  unfold orr orr orr orr orr
  cases a != 0 <;> cases b != 0 <;> cases c != 0 <;> cases d != 0 <;> rfl
theorem or5_some (a b c d e : Int) : (bif a != 0 then some (vi a) else bif b != 0 then some (vi b) else bif c != 0 then some (vi c) else bif d != 0 then some (vi d) else bif e != 0 then some (vi e) else some (vi 0)) = some (vi (orr [a, b, c, d, e])) := by
  unfold orr orr orr orr orr orr
  cases a != 0 <;> cases b != 0 <;> cases c != 0 <;> cases d != 0 <;> cases e != 0 <;> rfl
theorem runOr {f : Nat} {T : Table} (h2 : ∀ (a b : Int) (xc : Option Nat), apartS EN T H0 1000009 5 f [.sl [.int .i64 a, .int .i64 b] 1 2 xc] = (bif a != 0 then some (vi a) else bif b != 0 then some (vi b) else some (vi 0))) (h4 : ∀ (a b c d : Int) (xc : Option Nat), apartS EN T H0 1000009 5 f [.sl [.int .i64 a, .int .i64 b, .int .i64 c, .int .i64 d] 1 4 xc] = (bif a != 0 then some (vi a) else bif b != 0 then some (vi b) else bif c != 0 then some (vi c) else bif d != 0 then some (vi d) else some (vi 0)))
    (h5 : ∀ (a b c d e : Int) (xc : Option Nat), apartS EN T H0 1000009 5 f [.sl [.int .i64 a, .int .i64 b, .int .i64 c, .int .i64 d, .int .i64 e] 1 5 xc] = (bif a != 0 then some (vi a) else bif b != 0 then some (vi b) else bif c != 0 then some (vi c) else bif d != 0 then some (vi d) else bif e != 0 then some (vi e) else some (vi 0))) (xs : List PV) (v : PV) (h : gOr xs = some (true, v)) : ∃ H, apartS EN T H 1000009 5 f xs = some v := by
  unfold gOr at h
  split at h
  . simp only [Option.some.injEq, Prod.mk.injEq, true_and] at h
    subst h
    exact ⟨H0, (h2 _ _ _).trans (or2_some _ _)⟩
  . simp only [Option.some.injEq, Prod.mk.injEq, true_and] at h
    subst h
    exact ⟨H0, (h4 _ _ _ _ _).trans (or4_some _ _ _ _)⟩
  . simp only [Option.some.injEq, Prod.mk.injEq, true_and] at h
    subst h
    exact ⟨H0, (h5 _ _ _ _ _ _).trans (or5_some _ _ _ _ _)⟩
  . cases h
theorem loopT_some (a b : Nat -> Int) : ∀ l, loopT a b l = some (vi (loopI a b l))
  | [] => rfl
  | i :: l => by
    have ih := loopT_some a b l
    unfold loopT loopI
    rw [ih]
    cases decide (a i < b i) <;> cases decide (a i > b i) <;> rfl
theorem runAd {f : Nat} {T : Table} {k : Ad -> Ad -> Int} (ht : ∀ a b : Ad, apartS EN T H0 1000009 5 f [.agg a.cs, .agg b.cs] = some (vi (k a b))) (xs : List PV) (v : PV) (h : gAd2 k xs = some (true, v)) : ∃ H, apartS EN T H 1000009 5 f xs = some v := by
  obtain ⟨x, y, a, b, rfl, h1, h2, h3⟩ := two_some h
  cases h3
  rw [asAd_ok h1, asAd_ok h2]
  exact ⟨H0, ht a b⟩
theorem runPt {f : Nat} {T : Table} {k : Pt -> Pt -> Int} (ht : ∀ a b : Pt, apartS EN T H0 1000009 5 f [.agg a.cs, .agg b.cs] = some (vi (k a b))) (xs : List PV) (v : PV) (h : gPt2 k xs = some (true, v)) : ∃ H, apartS EN T H 1000009 5 f xs = some v := by
  obtain ⟨x, y, a, b, rfl, h1, h2, h3⟩ := two_some h
  cases h3
  rw [asPt_ok h1, asPt_ok h2]
  exact ⟨H0, ht a b⟩
theorem runKy {f : Nat} {T : Table} {k : Ky -> Ky -> Int} (ht : ∀ a b : Ky, apartS EN T H0 1000009 5 f [.agg a.cs, .agg b.cs] = some (vi (k a b))) (xs : List PV) (v : PV) (h : gKy2 k xs = some (true, v)) : ∃ H, apartS EN T H 1000009 5 f xs = some v := by
  obtain ⟨x, y, a, b, rfl, h1, h2, h3⟩ := two_some h
  cases h3
  rw [asKy_ok h1, asKy_ok h2]
  exact ⟨H0, ht a b⟩
theorem runCmp {f : Nat} {T : Table} (ht : ∀ a b : Int, apartS EN T H0 1000009 5 f [.int .i64 a, .int .i64 b] = (bif decide (a < b) then some (vi (-1)) else bif decide (a > b) then some (vi 1) else some (vi 0))) (xs : List PV) (v : PV) (h : gCmp xs = some (true, v)) : ∃ H, apartS EN T H 1000009 5 f xs = some v := by
  unfold gCmp at h
  split at h
  . rename_i a b
    simp only [Option.some.injEq, Prod.mk.injEq, true_and] at h
    subst h
    exact ⟨H0, (ht a b).trans (cmpI_some a b)⟩
  . cases h
theorem runCmpS {f : Nat} {T : Table} (ht : ∀ s t : List UInt8, apartS EN T H0 1000009 5 f [.str s, .str t] = (bif Op.bytesLess s t then some (vi (-1)) else bif !(Op.bytesLess s t || s == t) then some (vi 1) else some (vi 0))) (xs : List PV) (v : PV) (h : gCmpS xs = some (true, v)) : ∃ H, apartS EN T H 1000009 5 f xs = some v := by
  unfold gCmpS at h
  split at h
  . rename_i a b
    simp only [Option.some.injEq, Prod.mk.injEq, true_and] at h
    subst h
    exact ⟨H0, (ht a b).trans (cmpS_some a b)⟩
  . cases h
theorem adC_some (a b : Ad) : (bif a.six == b.six then some (vi (cmpBytes (bytes16 a.b) (bytes16 b.b))) else bif a.six then some (vi 1) else some (vi (-1))) = some (vi (adC a b)) := by
  unfold adC
  cases a.six <;> cases b.six <;> rfl
theorem adR_some (a b : Ad) : (bif !(a.six == b.six) then (bif a.six then some (vi 1) else some (vi (-1))) else loopT a.b b.b [0, 1, 2, 3, 4, 5, 6, 7, 8, 9, 10, 11, 12, 13, 14, 15]) = some (vi (adR a b)) := by
  unfold adR
  rw [loopT_some]
  cases a.six <;> cases b.six <;> rfl
theorem ptR_some (a b : Pt) : (bif adR a.ad b.ad != 0 then some (vi (adR a.ad b.ad)) else bif decide (a.port < b.port) then some (vi (-1)) else bif decide (a.port > b.port) then some (vi 1) else some (vi 0)) = some (vi (ptR a b)) := by
  unfold ptR cmpI
  cases adR a.ad b.ad != 0 <;> cases decide (a.port < b.port) <;> cases decide (a.port > b.port) <;> rfl
theorem kyT_some (a b : Ky) : kyT a.space a.name b.space b.name = some (vi (kyR a b)) := by
  unfold kyT kyR
  cases Op.bytesLess a.space b.space <;> cases a.space == b.space <;> cases Op.bytesLess a.name b.name <;> cases a.name == b.name <;> rfl
theorem leafRow {K : List Kd} {c : List PV -> List PV -> Int} {xs : List PV} {t : Tr} {v : PV} (hg : (match xs with
  | [.agg x, .agg y] => some (Tr.leaf (wk K x && wk K y) (.int .i64 (c x y)))
  | _ => none) = some t) (hv : t.val = some v) : ∃ x y, xs = [.agg x, .agg y] /\ wk K x = true /\ wk K y = true /\ v = vi (c x y) := by
  split at hg
  . rename_i x y
    cases hg
    obtain ⟨hc, rfl⟩ := leaf_val hv
    simp only [Bool.and_eq_true] at hc
    exact ⟨x, y, rfl, hc.1, hc.2, rfl⟩
  . cases hg
inductive Et where
  | c (k : Kd)
  | st (l : List Et)
def Kd.eqc (k : Kd) (x y : PV) : Bool := match k with
  | .int _ => asI x == asI y
  | .bool => asB x == asB y
  | .str => asS x == asS y
  | _ => true
mutual
def Et.n : Et -> Nat
  | .c _ => 1
  | .st l => Et.nL l
def Et.nL : List Et -> Nat
  | [] => 0
  | e :: l => e.n + Et.nL l
end
mutual
def Et.eq (x y : List PV) : Et -> Nat -> Bool
  | .c k, i => k.eqc (x.getD i .nilp) (y.getD i .nilp)
  | .st l, i => Et.eqL x y l i
def Et.eqL (x y : List PV) : List Et -> Nat -> Bool
  | [], _ => true
  | e :: l, i => Et.eq x y e i && Et.eqL x y l (i + e.n)
end
theorem Kd.eqc_refl (k : Kd) (x : PV) : k.eqc x x = true := by cases k <;> simp [Kd.eqc]
mutual
theorem Et.eq_refl (x : List PV) : ∀ (e : Et) (i : Nat), Et.eq x x e i = true
  | .c k, i => by simp only [Et.eq, Kd.eqc_refl]
  | .st l, i => by simp only [Et.eq]; exact Et.eqL_refl x l i
theorem Et.eqL_refl (x : List PV) : ∀ (l : List Et) (i : Nat), Et.eqL x x l i = true
  | [], i => rfl
  | e :: l, i => by simp only [Et.eqL, Et.eq_refl x e i, Et.eqL_refl x l, Bool.and_self]
end
def etAd : Et := .st [.c .bool, .st [.c (.int .u8), .c (.int .u8), .c (.int .u8), .c (.int .u8), .c (.int .u8), .c (.int .u8), .c (.int .u8), .c (.int .u8), .c (.int .u8), .c (.int .u8), .c (.int .u8), .c (.int .u8), .c (.int .u8), .c (.int .u8), .c (.int .u8), .c (.int .u8)]]
def etPt : Et := .st [etAd, .c (.int .i64)]
def etKy : Et := .st [.c .str, .c .str]
def KPt : List Kd := [.bool, .int .u8, .int .u8, .int .u8, .int .u8, .int .u8, .int .u8, .int .u8, .int .u8, .int .u8, .int .u8, .int .u8, .int .u8, .int .u8, .int .u8, .int .u8, .int .u8, .int .i64]
def KIn : List Kd := [.int .i64]
def eqPt (x y : List PV) : Bool := Et.eq x y etPt 0
def eqKy (x y : List PV) : Bool := Et.eq x y etKy 0
def eqIn (x y : List PV) : Bool := asI (x.getD 0 .nilp) == asI (y.getD 0 .nilp)
def eqRows (eq : List PV -> List PV -> Bool) : List (List PV) -> List (List PV) -> Bool
  | x :: R, y :: S => eq x y && eqRows eq R S
  | _, _ => true
theorem eqRows_refl {eq : List PV -> List PV -> Bool} : ∀ (R : List (List PV)), (∀ r ∈ R, eq r r = true) -> eqRows eq R R = true
  | [], _ => rfl
  | r :: R, h => by rw [eqRows, h r List.mem_cons_self, eqRows_refl R fun x hx => h x (List.mem_cons_of_mem _ hx)]; rfl
theorem eqRows_drop {eq : List PV -> List PV -> Bool} {R S : List (List PV)} {i : Nat} (h1 : i < R.length) (h2 : i < S.length) : eqRows eq (R.drop i) (S.drop i) = (eq R[i] S[i] && eqRows eq (R.drop (i + 1)) (S.drop (i + 1))) := by
  rw [List.drop_eq_getElem_cons h1, List.drop_eq_getElem_cons h2, eqRows]
theorem rows_at0 {K : List Kd} {R : List (List PV)} (h : rowsOk K R = true) {j : Nat} (hj : j < R.length) : okAt K R.flatten (j * K.length) = true /\ shapeAt K R.flatten (j * K.length) = R[j] := by
  have := rows_at h hj
  rwa [Nat.zero_add] at this
def rndE (K : List Kd) (es : Nat) (eq : List PV -> List PV -> Bool) (n m : Nat) (c d : List PV) (i : Int) (L : Int -> Option PV) : Option PV :=
  bif decide (i < (n : Int)) then
    (ass (decide (0 <= i) && decide (i < (n : Int))) <|
    ass (okAt K c (i.toNat * es)) <|
    ass (decide (0 <= i) && decide (i < (m : Int))) <|
    ass (okAt K d (i.toNat * es)) <|
    bif !(eq (shapeAt K c (i.toNat * es)) (shapeAt K d (i.toNat * es))) then some (.bool false)
    else
      (ass (oldL 0 c) <|
      ass (oldL 0 d) <|
      ass (oldL 0 c) <|
      ass (oldL 0 d) <|
      ass (oldL 0 c) <|
      L (IntKind.i64.wrap (i + 1))))
  else some (.bool true)
theorem eqE_loop {K : List Kd} {eq : List PV -> List PV -> Bool} {n : Nat} {R S : List (List PV)} (hR : rowsOk K R = true) (hS : rowsOk K S = true) (h1 : R.length = n) (h2 : S.length = n) (hn : n <= 1000000) (L : Nat -> Int -> Option PV) (ht : ∀ q i, L (q + 1) i = rndE K K.length eq n n R.flatten S.flatten i (L q)) :
    ∀ (k i q : Nat), i + k = n -> L (q + k + 1) (i : Int) = some (.bool (eqRows eq (R.drop i) (S.drop i)))
  | 0, i, q, h => by
    rw [ht]
    unfold rndE
    rw [cond_f (show decide ((i : Int) < (n : Int)) = false from by simp; omega), List.drop_of_length_le (by omega), List.drop_of_length_le (by omega)]
    rfl
  | k + 1, i, q, h => by
    have hi : i < R.length := by omega
    have hj : i < S.length := by omega
    rw [show q + (k + 1) + 1 = (q + k + 1) + 1 from by omega, ht]
    unfold rndE
    rw [cond_t (show decide ((i : Int) < (n : Int)) = true from by simp; omega)]
    simp only [Int.toNat_natCast]
    rw [(rows_at0 hR hi).2, (rows_at0 hS hj).2, ass_of (inside (by omega)), ass_of (rows_at0 hR hi).1, ass_of (inside (by omega)), ass_of (rows_at0 hS hj).1, eqRows_drop hi hj]
    cases he : eq R[i] S[i] with
    | false => rfl
    | true =>
      rw [Bool.not_true, cond_false, ass_of (rows_old hR), ass_of (rows_old hS), ass_of (rows_old hR), ass_of (rows_old hS), ass_of (rows_old hR), wrap_succ (by omega : i < 9223372036854775807), eqE_loop hR hS h1 h2 hn L ht k (i + 1) q (by omega)]
      rfl
def gEq (K : List Kd) (es : Nat) (eq : List PV -> List PV -> Bool) (xs : List PV) : Option (Bool × PV) := match xs with
  | [.sl c e1 n none, .sl d e2 m none] => some (Nat.beq e1 es && (Nat.beq e2 es && (rowsC K n c && rowsC K m d)), .bool (Nat.beq n m && eqRows eq (chunks es n c) (chunks es m d)))
  | _ => none
noncomputable def LEq (f : Nat) (fn : Func) (es N q : Nat) (c d : List PV) (n m : Nat) (i : Int) : Option PV := loopS EN T0 H0 N 5 f fn [1, 1, 0, 1, 0] (patOf (sparse 26 0 [(0, .nils), (1, .nils), (4, .nils), (6, .nils), (7, .nils), (8, .nils), (9, .nils), (10, .nils), (11, .nils), (12, .nils), (13, .nils)])) 0 q
  (sparse 26 0 [(0, .sl c es n none), (1, .sl d es m none), (4, .bool false), (6, .sl c es n none), (7, vI n), (8, .sl d es m none), (9, vI m), (10, .bool false), (11, .sl c es n none), (12, vI n), (13, vI i)]) []
theorem runEq {K : List Kd} {es : Nat} (hk : es = K.length) {eq : List PV -> List PV -> Bool} {f : Nat} {fn : Func}
    (t0 : ∀ (N : Nat) (c d : List PV) (n m : Nat), apartS EN T0 H0 N 5 f [.sl c es n none, .sl d es m none] = (bif (n : Int) != (m : Int) then some (.bool false) else LEq f fn es N N c d n m 0))
    (t1 : ∀ (N q : Nat) (c d : List PV) (n m : Nat) (i : Int), LEq f fn es N (q + 1) c d n m i = rndE K es eq n m c d i (LEq f fn es N q c d n m))
    (xs : List PV) (v : PV) (h : gEq K es eq xs = some (true, v)) : ∃ H, apartS EN T0 H 1000009 5 f xs = some v := by
  unfold gEq at h
  split at h
  . rename_i c e1 n d e2 m
    simp only [Option.some.injEq, Prod.mk.injEq, Bool.and_eq_true] at h
    obtain ⟨⟨a1, a2, a3, a4⟩, rfl⟩ := h
    have a1 := Nat.eq_of_beq_eq_true a1
    have a2 := Nat.eq_of_beq_eq_true a2
    rw [a1, a2]
    obtain ⟨r1, r2, r3, r4⟩ := rowsC_ok a3
    obtain ⟨s1, s2, s3, s4⟩ := rowsC_ok a4
    refine ⟨H0, (t0 1000009 c d n m).trans ?_⟩
    by_cases hnm : n = m
    . subst hnm
      rw [cond_f (show ((n : Int) != (n : Int)) = false from by simp), Nat.beq_refl, Bool.true_and]
      have := eqE_loop r2 s2 r4 s4 r1 (fun q => LEq f fn es 1000009 q c d n n) (fun q i => by rw [t1, hk, r3, s3]) n 0 (1000008 - n) (by omega)
      rw [show 1000008 - n + n + 1 = 1000009 from by omega, List.drop_zero, List.drop_zero, <- hk] at this
      exact this
    . have hb : Nat.beq n m = false := by
        cases hb : Nat.beq n m with
        | false => rfl
        | true => exact absurd (Nat.eq_of_beq_eq_true hb) hnm
      rw [cond_t (show ((n : Int) != (m : Int)) = true from by simp; omega), hb]
      rfl
  . cases h
def okSl (K : List Kd) (x : PV) : Bool := rowsC K (slLen x) (slCells x)
def sameSl (es : Nat) (eq : List PV -> List PV -> Bool) (x y : PV) : Bool := Nat.beq (slLen x) (slLen y) && eqRows eq (chunks es (slLen x) (slCells x)) (chunks es (slLen y) (slCells y))
theorem okSl_rows {K : List Kd} {x : PV} (h : okSl K x = true) : rowsOk K (chunks K.length (slLen x) (slCells x)) = true /\ (chunks K.length (slLen x) (slCells x)).flatten = slCells x /\ (chunks K.length (slLen x) (slCells x)).length = slLen x := by
  obtain ⟨r1, r2, r3, r4⟩ := rowsC_ok h
  exact ⟨r2, r3, r4⟩
theorem okSl_old {K : List Kd} {x : PV} (h : okSl K x = true) : oldL 0 (slCells x) = true := by
  obtain ⟨r1, r2, r3⟩ := okSl_rows h
  have := rows_old r1
  rwa [r2] at this
theorem eqPt_refl (x : List PV) : eqPt x x = true := Et.eq_refl x _ _
theorem eqKy_refl (x : List PV) : eqKy x x = true := Et.eq_refl x _ _
theorem eqIn_refl (x : List PV) : eqIn x x = true := by simp [eqIn]
def asks {R : Type} : List Bool -> Option R -> Option R
  | [], k => k
  | c :: cs, k => ass c (asks cs k)
theorem asks_of {R : Type} {l : List Bool} {k : Option R} (h : l.all id = true) : asks l k = k := by
  induction l with
  | nil => rfl
  | cons c cs ih =>
    simp only [List.all_cons, Bool.and_eq_true, id] at h
    unfold asks
    rw [ass_of h.1, ih h.2]
theorem bif_or {R : Type} (a b : Bool) (x y : R) : (bif a then x else bif b then x else y) = bif (a || b) then x else y := by cases a <;> rfl
def anyFrom (C : Int -> Bool) (i : Nat) : Nat -> Bool
  | 0 => false
  | k + 1 => C (i : Int) || anyFrom C (i + 1) k
theorem any_loop {n : Nat} (hn : n <= 1000000) {L : Nat -> Int -> Option PV} {e : Int -> Option PV} {P Q : Int -> List Bool} {C : Int -> Bool} {x : Option PV}
    (ht : ∀ q i, L (q + 1) i = bif decide (i < (n : Int)) then asks (P i) (bif C i then x else asks (Q i) (L q (IntKind.i64.wrap (i + 1)))) else e i)
    (hP : ∀ i : Nat, i < n -> (P (i : Int)).all id = true) (hQ : ∀ i : Nat, i < n -> (Q (i : Int)).all id = true) :
    ∀ (k i q : Nat), i + k = n -> L (q + k + 1) (i : Int) = bif anyFrom C i k then x else e (n : Int)
  | 0, i, q, h => by
    have : i = n := by omega
    subst this
    rw [ht, cond_f (show decide ((i : Int) < (i : Int)) = false from by simp)]
    rfl
  | k + 1, i, q, h => by
    rw [show q + (k + 1) + 1 = (q + k + 1) + 1 from by omega, ht, cond_t (show decide ((i : Int) < (n : Int)) = true from by simp; omega), asks_of (hP i (by omega)), asks_of (hQ i (by omega)), wrap_succ (by omega : i < 9223372036854775807), any_loop hn ht hP hQ k (i + 1) q (by omega), anyFrom]
    cases C (i : Int) <;> rfl
theorem any_rows {C : Int -> Bool} {c : List PV -> Bool} {R : List (List PV)} (h : ∀ (j : Nat) (hj : j < R.length), C (j : Int) = c R[j]) : ∀ (k i : Nat), i + k = R.length -> anyFrom C i k = (R.drop i).any c
  | 0, i, hk => by rw [List.drop_of_length_le (by omega)]; rfl
  | k + 1, i, hk => by
    rw [anyFrom, h i (by omega), any_rows h k (i + 1) (by omega), List.drop_eq_getElem_cons (by omega : i < R.length)]
    rfl
theorem any_rows2 {C : Int -> Bool} {eq : List PV -> List PV -> Bool} {R S : List (List PV)} (hl : S.length = R.length) (h : ∀ (j : Nat) (hj : j < R.length), C (j : Int) = !eq R[j] (S[j]'(by omega))) : ∀ (k i : Nat), i + k = R.length -> anyFrom C i k = !eqRows eq (R.drop i) (S.drop i)
  | 0, i, hk => by rw [List.drop_of_length_le (by omega), List.drop_of_length_le (by omega)]; rfl
  | k + 1, i, hk => by
    rw [anyFrom, h i (by omega), any_rows2 hl h k (i + 1) (by omega), eqRows_drop (by omega : i < R.length) (by omega)]
    cases eq R[i] S[i] <;> rfl
theorem rows_oldn {K : List Kd} {R : List (List PV)} (h : rowsOk K R = true) (n : Nat) : oldL n R.flatten = true := oldL_le (Nat.zero_le n) _ (rows_old h)
theorem cell_old {x : List PV} (h : oldL 0 x = true) (n k : Nat) : oldL n (slCells (x.getD k .nilp)) = true := by
  have : ∀ (x : List PV) (k : Nat), oldL 0 x = true -> oldV 0 (x.getD k .nilp) = true := by
    intro x
    induction x with
    | nil => intro k _; simp [oldV]
    | cons a x ih =>
      intro k hx
      simp only [oldL, Bool.and_eq_true] at hx
      cases k with
      | zero => exact hx.1
      | succ k => simpa using ih k hx.2
  have h1 := this x k h
  refine oldL_le (Nat.zero_le n) _ ?_
  cases hc : x.getD k .nilp <;> first | rfl | (rw [hc] at h1; simp only [oldV] at h1; exact h1)
theorem row_cell {K : List Kd} {R : List (List PV)} (h : rowsOk K R = true) {j : Nat} (hj : j < R.length) (n k : Nat) : oldL n (slCells (R[j].getD k .nilp)) = true := cell_old (rowsOk_get h (List.getElem_mem hj)).2 n k
theorem beq_no {n m : Nat} (h : n ≠ m) : Nat.beq n m = false := by
  cases hb : Nat.beq n m with
  | false => rfl
  | true => exact absurd (Nat.eq_of_beq_eq_true hb) h
structure Rw where
  nf : Nat
  fc : List PV
  ng : Nat
  gc : List PV
  ni : Nat
  ic : List PV
def gt (n : Nat) (k : Int) : Bool := decide ((n : Int) > k)
def accP (b : Bool) (id es n : Nat) : PV := bif b then .osl id n 0 es n none else .nils
def accO (b : Bool) (cells : List PV) (es n : Nat) : Store := bif b then [.mem ⟨cells, es, n, false, false, false⟩] else []
def bx (cells : List PV) : Ob := .mem ⟨cells, 3, 1, true, false, true⟩
def nx (b : Bool) (n : Nat) : Nat := bif b then n + 1 else n
def grow (b : Bool) (ac : List PV) (k es : Nat) (row : List PV) (K : List PV -> Nat -> Option PV) : Option PV := match b with
  | true => asks [k == k && (decide (k <= 1048576) && (decide (1 <= 1048576) && decide (0 + k * es <= ac.length))), !decide (0 + k + 1 <= k)] (K (ac.take (k * es) ++ row) (k + 1))
  | false => K row 1
def nb (b : Bool) : Nat := bif b then 1 else 0
def ifb (b : Bool) (l : List Bool) : List Bool := bif b then l else []
def sealAsk (ac : List PV) (k es : Nat) : List Bool := [k == k && (decide (0 + k * es <= ac.length) && (decide (0 < es) && ((ac.drop 0).take (k * es)).all PV.calm))]
def sealC (b : Bool) (ac : List PV) (k es : Nat) : PV := bif b then .sl ((ac.drop 0).take (k * es)) es k none else .sl [] es 0 none
theorem take_flat {K : List Kd} {R : List (List PV)} (hR : rowsOk K R = true) {i : Nat} (hi : i < R.length) : (R.take (i + 1)).flatten = (R.take i).flatten ++ R[i] := by
  rw [List.take_succ_eq_append_getElem hi, List.flatten_append]
  simp
theorem grow_ok {K : List Kd} {R : List (List PV)} (hR : rowsOk K R = true) {i : Nat} (hi : i < R.length) (hn : R.length <= 1000000) (Kf : List PV -> Nat -> Option PV) :
    grow (!Nat.beq i 0) (R.take i).flatten i K.length R[i] Kf = Kf (R.take (i + 1)).flatten (i + 1) := by
  have hl : (R.take i).flatten.length = i * K.length := by rw [rows_len (rowsOk_take hR i), List.length_take, Nat.min_eq_left (by omega)]
  rw [take_flat hR hi]
  cases i with
  | zero => rfl
  | succ j =>
    have hb : (!Nat.beq (j + 1) 0) = true := rfl
    rw [hb]
    unfold grow
    rw [asks_of (by
      simp only [beq_self_eq_true, hl, List.all_cons, List.all_nil, id, Bool.and_true, Bool.true_and, Bool.and_eq_true, decide_eq_true_eq, Bool.not_eq_true', decide_eq_false_iff_not]
      omega), <- hl, List.take_length]
theorem acc_loop {K : List Kd} {n es : Nat} (he : es = K.length) {R : List (List PV)} (hR : rowsOk K R = true) (hl : R.length = n) (hn : n <= 1000000) {L : Nat -> Bool -> Int -> List PV -> Nat -> Option PV} {e : Bool -> Int -> List PV -> Nat -> Option PV} {row : Int -> List PV} {P : Bool -> Int -> List Bool} {A B1 B2 : List Bool}
    (ht : ∀ q b i ac k, L (q + 1) b i ac k = bif decide (i < (n : Int)) then asks (P b i) (grow b ac k es (row i) fun ac' k' => asks A <| asks B1 <| asks B2 <| asks [oldL 0 ac'] <| L q true (IntKind.i64.wrap (i + 1)) ac' k') else e b i ac k)
    (hP : ∀ b (i : Nat), i < n -> (P b (i : Int)).all id = true) (hrow : ∀ (i : Nat) (hi : i < R.length), row (i : Int) = R[i]) (hA : A.all id = true) (hB1 : B1.all id = true) (hB2 : B2.all id = true) :
    ∀ (k i q : Nat), i + k = n -> L (q + k + 1) (!Nat.beq i 0) (i : Int) (R.take i).flatten i = e (!Nat.beq n 0) (n : Int) R.flatten n
  | 0, i, q, h => by
    have : i = n := by omega
    subst this
    rw [ht, cond_f (show decide ((i : Int) < (i : Int)) = false from by simp), <- hl, List.take_length]
  | k + 1, i, q, h => by
    have hi : i < R.length := by omega
    rw [show q + (k + 1) + 1 = (q + k + 1) + 1 from by omega, ht, cond_t (show decide ((i : Int) < (n : Int)) = true from by simp; omega), asks_of (hP _ i (by omega)), hrow i hi, he, grow_ok hR hi (by omega)]
    rw [asks_of hA, asks_of hB1, asks_of hB2, asks_of (by simp only [rows_old (rowsOk_take hR (i + 1)), List.all_cons, List.all_nil, id, Bool.and_self]), wrap_succ (by omega : i < 9223372036854775807)]
    have ih := acc_loop he hR hl hn ht hP hrow hA hB1 hB2 k (i + 1) q (by omega)
    exact ih
theorem acc_run {K : List Kd} {n es : Nat} (he : es = K.length) {R : List (List PV)} (hR : rowsOk K R = true) (hl : R.length = n) (hn : n <= 1000000) {L : Nat -> Bool -> Int -> List PV -> Nat -> Option PV} {e : Bool -> Int -> List PV -> Nat -> Option PV} {row : Int -> List PV} {P : Bool -> Int -> List Bool} {A B1 B2 : List Bool}
    (ht : ∀ q b i ac k, L (q + 1) b i ac k = bif decide (i < (n : Int)) then asks (P b i) (grow b ac k es (row i) fun ac' k' => asks A <| asks B1 <| asks B2 <| asks [oldL 0 ac'] <| L q true (IntKind.i64.wrap (i + 1)) ac' k') else e b i ac k)
    (hP : ∀ b (i : Nat), i < n -> (P b (i : Int)).all id = true) (hrow : ∀ (i : Nat) (hi : i < R.length), row (i : Int) = R[i]) (hA : A.all id = true) (hB1 : B1.all id = true) (hB2 : B2.all id = true) :
    L 1000009 false 0 [] 0 = e (!Nat.beq n 0) (n : Int) R.flatten n := by
  have := acc_loop he hR hl hn ht hP hrow hA hB1 hB2 n 0 (1000008 - n) (by omega)
  rw [show 1000008 - n + n + 1 = 1000009 from by omega] at this
  exact this
theorem calm_old : ∀ {xs : List PV}, oldL 0 xs = true -> xs.all PV.calm = true
  | [], _ => rfl
  | x :: xs, h => by
    simp only [oldL, Bool.and_eq_true] at h
    rw [List.all_cons, calm_old h.2, Bool.and_true]
    cases x <;> first | rfl | (simp [oldV] at h)
theorem take_all (c : List PV) {n es : Nat} (h : c.length = n * es) : (c.drop 0).take (n * es) = c := by rw [List.drop_zero, <- h, List.take_length]
theorem seal_ok {K : List Kd} {R : List (List PV)} (hR : rowsOk K R = true) (hk : 0 < K.length) :
    (ifb (!Nat.beq R.length 0) (sealAsk R.flatten R.length K.length)).all id = true /\ (ifb (!Nat.beq R.length 0) [oldL 0 ((R.flatten.drop 0).take (R.length * K.length))]).all id = true /\ sealC (!Nat.beq R.length 0) R.flatten R.length K.length = .sl R.flatten K.length R.length none := by
  have hl := rows_len hR
  have ho := rows_old hR
  unfold sealC sealAsk ifb
  rw [take_all _ hl]
  cases hb : Nat.beq R.length 0 with
  | true =>
    have := Nat.eq_of_beq_eq_true hb
    have := List.eq_nil_of_length_eq_zero this
    subst this
    exact ⟨rfl, rfl, rfl⟩
  | false =>
    refine ⟨?_, ?_, rfl⟩
    . simp only [Bool.not_false, cond_true, beq_self_eq_true, Bool.true_and, List.all_cons, List.all_nil, id, Bool.and_true, Bool.and_eq_true, decide_eq_true_eq]
      exact ⟨by omega, hk, calm_old ho⟩
    . simp only [Bool.not_false, cond_true, List.all_cons, List.all_nil, id, ho, Bool.and_true]
def clB (n : Nat) (k : Bool -> Option PV) : Option PV := bif decide (n = 0) then k false else k true
theorem wk_drop : ∀ (p : Nat) {K : List Kd} {r : List PV}, wk K r = true -> wk (K.drop p) (r.drop p) = true
  | 0, K, r, h => h
  | p + 1, [], [], h => rfl
  | p + 1, [], _ :: _, h => by cases h
  | p + 1, _ :: _, [], h => by cases h
  | p + 1, k :: K, x :: r, h => by
    simp only [wk, Bool.and_eq_true] at h
    exact wk_drop p h.2
theorem part_at {K : List Kd} {R : List (List PV)} (hR : rowsOk K R = true) {j : Nat} (hj : j < R.length) (p : Nat) (hp : p <= K.length) :
    okAt (K.drop p) R.flatten (0 + j * K.length + p) = true /\ shapeAt (K.drop p) R.flatten (0 + j * K.length + p) = R[j].drop p /\ splice R.flatten (0 + j * K.length + p) (R[j].drop p) = R.flatten := by
  obtain ⟨h1, h2⟩ := rows_split hR hj
  have hw := (rowsOk_get hR (List.getElem_mem hj)).1
  have hl := wk_len hw
  have hq := wk_at ((R.take j).flatten ++ R[j].take p) (R.drop (j + 1)).flatten (wk_drop p hw)
  have e1 : ((R.take j).flatten ++ R[j].take p).length = 0 + j * K.length + p := by rw [List.length_append, h2, List.length_take]; omega
  have e2 : ((R.take j).flatten ++ R[j].take p) ++ (R[j].drop p ++ (R.drop (j + 1)).flatten) = R.flatten := by
    rw [h1, List.append_assoc, <- List.append_assoc (R[j].take p), List.take_append_drop]
  rw [e1, e2] at hq
  refine ⟨hq.1, hq.2, ?_⟩
  unfold splice
  rw [<- e1]
  generalize (R.take j).flatten ++ R[j].take p = A at e2 ⊢
  have e3 : (A ++ (R[j].drop p ++ (R.drop (j + 1)).flatten)).drop (A.length + (R[j].drop p).length) = (R.drop (j + 1)).flatten := by
    rw [<- List.append_assoc, <- List.length_append, List.drop_left]
  rw [<- e2, List.take_left, e3]
theorem flat_len {K : List Kd} {R : List (List PV)} (hR : rowsOk K R = true) {j : Nat} (hj : j < R.length) : 0 + j * K.length + K.length <= R.flatten.length := by
  rw [rows_len hR]
  have := Nat.mul_le_mul_right K.length (show j + 1 <= R.length from hj)
  rw [Nat.add_mul, Nat.one_mul] at this
  omega
theorem one_flat {K : List Kd} {R : List (List PV)} (hR : rowsOk K R = true) : R.flatten.all PV.oneCell = true := by
  rw [List.all_flatten, List.all_eq_true]
  intro r hr
  exact wk_one (rowsOk_get hR hr).1
theorem clB_of {n : Nat} (k : Bool -> Option PV) : clB n k = k (!decide (n = 0)) := by
  unfold clB
  cases decide (n = 0) <;> rfl
theorem nob {n : Nat} : (!decide (n = 0)) = !Nat.beq n 0 := by cases n <;> rfl
def growN (b : Bool) (ac : List PV) (k es : Nat) (c : List PV) (n : Nat) (K : Bool -> List PV -> Nat -> Option PV) : Option PV :=
  asks [c.length == n * es] <| bif decide (n = 0) then K b ac k else
    bif b then asks [k == k && (decide (k <= 1048576) && (decide (n <= 1048576) && decide (0 + k * es <= ac.length))), !decide (0 + k + n <= k)] (K true (ac.take (k * es) ++ c) (k + n))
    else asks [es == es && (decide (0 < 0 + n) && (decide (0 + n <= 1048576) && ([] : List PV).all PV.oneCell))] (K true ([] ++ c) (0 + n))
theorem rowsOk_flatMap {K : List Kd} {L : List Rw} {f : Rw -> List (List PV)} (h : ∀ r ∈ L, rowsOk K (f r) = true) : rowsOk K (L.flatMap f) = true := by
  unfold rowsOk at h ⊢
  rw [List.all_eq_true]
  intro x hx
  obtain ⟨r, hr, hx⟩ := List.mem_flatMap.1 hx
  exact List.all_eq_true.1 (h r hr) x hx
theorem growN_ok {K : List Kd} {A R : List (List PV)} (hA : rowsOk K A = true) (hR : rowsOk K R = true) (hn : (A ++ R).length <= 1000000) (Kf : Bool -> List PV -> Nat -> Option PV) :
    growN (!Nat.beq A.length 0) A.flatten A.length K.length R.flatten R.length Kf = Kf (!Nat.beq (A ++ R).length 0) (A ++ R).flatten (A ++ R).length := by
  have lA := rows_len hA
  have lR := rows_len hR
  rw [List.length_append] at hn
  unfold growN
  rw [asks_of (by simp [lR])]
  by_cases h0 : R.length = 0
  . have := List.eq_nil_of_length_eq_zero h0
    subst this
    rw [cond_t (by simp), List.append_nil]
  . rw [cond_f (by simpa using h0)]
    cases A with
    | nil =>
      have hb : (!Nat.beq ([] : List (List PV)).length 0) = false := rfl
      rw [hb, cond_false, asks_of (by simp; omega), Nat.zero_add, List.nil_append, List.nil_append]
      have : (!Nat.beq R.length 0) = true := by rw [beq_no h0]; rfl
      rw [this]
    | cons a A =>
      have hb : (!Nat.beq (a :: A).length 0) = true := rfl
      rw [hb, cond_true, asks_of (by
        simp only [beq_self_eq_true, lA, List.all_cons, List.all_nil, id, Bool.and_true, Bool.true_and, Bool.and_eq_true, decide_eq_true_eq, Bool.not_eq_true', decide_eq_false_iff_not]
        omega), <- lA, List.take_length, List.flatten_append, List.length_append]
      rw [show (!Nat.beq ((a :: A).length + R.length) 0) = true from by rw [beq_no (show (a :: A).length + R.length ≠ 0 from by simp)]; rfl]
theorem beqL (A : List (List PV)) : ifb (!Nat.beq A.length 0) [oldL 0 A.flatten] = [] ∨ ifb (!Nat.beq A.length 0) [oldL 0 A.flatten] = [oldL 0 A.flatten] := by
  unfold ifb
  cases Nat.beq A.length 0
  . exact Or.inr rfl
  . exact Or.inl rfl
theorem ifb_old {K : List Kd} {A : List (List PV)} (h : rowsOk K A = true) (b : Bool) : (ifb b [oldL 0 A.flatten]).all id = true := by
  unfold ifb
  cases b <;> simp [rows_old h]
def plc (lt : List PV -> List PV -> Bool) (x : List PV) (R : List (List PV)) : Nat -> Nat
  | 0 => 0
  | k + 1 => if lt x (R.getD k []) = true then plc lt x R k else k + 1
theorem plc_le (lt : List PV -> List PV -> Bool) (x : List PV) (R : List (List PV)) : ∀ k, plc lt x R k <= k
  | 0 => Nat.le_refl _
  | k + 1 => by
    rw [plc]
    split
    . exact Nat.le_succ_of_le (plc_le lt x R k)
    . exact Nat.le_refl _
theorem plc_ins (lt : List PV -> List PV -> Bool) (x : List PV) (R : List (List PV)) : ∀ k, k <= R.length -> R.take (plc lt x R k) ++ (x :: R.drop (plc lt x R k)) = ins lt x (R.take k) ++ R.drop k
  | 0, h => by simp [plc, ins]
  | k + 1, h => by
    have hk : k < R.length := h
    have e : R.take (k + 1) = R.take k ++ [R[k]] := by rw [List.take_succ_eq_append_getElem hk]
    rw [plc, e, ins_snoc, getD_at hk]
    split
    . rename_i h1
      rw [plc_ins lt x R k (by omega), List.append_assoc, List.singleton_append, <- List.drop_eq_getElem_cons hk]
    . rename_i h1
      rw [<- e, List.append_assoc, List.singleton_append]
theorem plc_all (lt : List PV -> List PV -> Bool) (x : List PV) (R : List (List PV)) : R.take (plc lt x R R.length) ++ (x :: R.drop (plc lt x R R.length)) = ins lt x R := by
  rw [plc_ins lt x R R.length (Nat.le_refl _), List.take_length, List.drop_length, List.append_nil]
theorem ins_congr {lt lt' : List PV -> List PV -> Bool} (x : List PV) : ∀ (R : List (List PV)), (∀ y ∈ R, lt x y = lt' x y) -> ins lt x R = ins lt' x R
  | [], _ => rfl
  | y :: R, h => by
    rw [ins_cons, ins_cons, ins_congr x R fun z hz => h z (List.mem_cons_of_mem _ hz), h y List.mem_cons_self]
    have : R.all (lt x) = R.all (lt' x) := by
      rw [Bool.eq_iff_iff, List.all_eq_true, List.all_eq_true]
      exact ⟨fun k z hz => by rw [<- h z (List.mem_cons_of_mem _ hz)]; exact k z hz, fun k z hz => by rw [h z (List.mem_cons_of_mem _ hz)]; exact k z hz⟩
    rw [this]
theorem insAll_congr {lt lt' : List PV -> List PV -> Bool} (R : List (List PV)) (h : ∀ x ∈ R, ∀ y ∈ R, lt x y = lt' x y) : insAll lt R = insAll lt' R := by
  have key : ∀ (S acc : List (List PV)), (∀ x ∈ S, x ∈ R) -> (∀ x ∈ acc, x ∈ R) -> S.foldl (fun acc x => ins lt x acc) acc = S.foldl (fun acc x => ins lt' x acc) acc := by
    intro S
    induction S with
    | nil => intro acc _ _; rfl
    | cons x S ih =>
      intro acc h1 h2
      rw [List.foldl_cons, List.foldl_cons, ins_congr x acc fun y hy => h x (h1 x List.mem_cons_self) y (h2 y hy)]
      refine ih _ (fun y hy => h1 y (List.mem_cons_of_mem _ hy)) fun y hy => ?_
      rcases (mem_ins lt' x y acc).1 hy with rfl | hy
      . exact h1 y List.mem_cons_self
      . exact h2 y hy
  exact key R [] (fun x hx => hx) (fun x hx => by cases hx)
def bxN (cells : List PV) (n : Nat) : Ob := .mem ⟨cells, n, 1, true, false, true⟩
def tailT (cc : List PV) (kk : Nat) (at' : Int) (es : Nat) (y : List PV) (ny : Nat) (K : List PV -> Nat -> Option PV) : Option PV :=
  asks [kk == kk && decide (0 + kk * es <= cc.length), decide (0 <= at') && decide (at' <= (kk : Int))] <|
  bif decide (at'.toNat = kk) && decide (0 < at'.toNat) then K y ny
  else
    (asks [kk == kk && decide (0 + at'.toNat * es + (kk - at'.toNat) * es <= cc.length), ((cc.drop (0 + at'.toNat * es)).take ((kk - at'.toNat) * es)).length == (kk - at'.toNat) * es] <|
    bif decide (kk - at'.toNat = 0) then K y ny
    else asks [ny == ny && (decide (ny <= 1048576) && (decide (kk - at'.toNat <= 1048576) && decide (0 + ny * es <= y.length))), !decide (0 + ny + (kk - at'.toNat) <= ny)] <|
      K (y.take (ny * es) ++ (cc.drop (0 + at'.toNat * es)).take ((kk - at'.toNat) * es)) (ny + (kk - at'.toNat)))
def insT (cc : List PV) (kk : Nat) (at' : Int) (es : Nat) (row : List PV) (K : List PV -> Nat -> Option PV) : Option PV :=
  asks [kk == kk && decide (0 + kk * es <= cc.length), decide (0 <= at') && decide (at' <= ((kk - 0 : Nat) : Int)), !(decide (0 = at'.toNat) && decide (0 < 0)), kk == kk && decide (0 + (at'.toNat - 0) * es <= cc.length), ((cc.drop 0).take ((at'.toNat - 0) * es)).length == (at'.toNat - 0) * es] <|
  bif decide (at'.toNat - 0 = 0) then tailT cc kk at' es row 1 K
  else
    asks [es == es && (decide (0 < 0 + (at'.toNat - 0)) && (decide (0 + (at'.toNat - 0) <= 1048576) && ([] : List PV).all PV.oneCell)), 0 + (at'.toNat - 0) == 0 + (at'.toNat - 0) && (decide (0 + (at'.toNat - 0) <= 1048576) && (decide (1 <= 1048576) && decide (0 + (0 + (at'.toNat - 0)) * es <= (([] : List PV) ++ (cc.drop 0).take ((at'.toNat - 0) * es)).length))), !decide (0 + (0 + (at'.toNat - 0)) + 1 <= 0 + (at'.toNat - 0))] <|
    tailT cc kk at' es ((([] : List PV) ++ (cc.drop 0).take ((at'.toNat - 0) * es)).take ((0 + (at'.toNat - 0)) * es) ++ row) (0 + (at'.toNat - 0) + 1) K
def insT2 (cc : List PV) (kk : Nat) (at' : Int) (es : Nat) (row : List PV) (W0 W1 : List Bool) (K : List PV -> Nat -> Option PV) : Option PV :=
  asks [kk == kk && decide (0 + kk * es <= cc.length), decide (0 <= at') && decide (at' <= ((kk - 0 : Nat) : Int)), !(decide (0 = at'.toNat) && decide (0 < 0)), kk == kk && decide (0 + (at'.toNat - 0) * es <= cc.length), ((cc.drop 0).take ((at'.toNat - 0) * es)).length == (at'.toNat - 0) * es] <|
  bif decide (at'.toNat - 0 = 0) then asks W0 <| tailT cc kk at' es row 1 K
  else
    (asks [es == es && (decide (0 < 0 + (at'.toNat - 0)) && (decide (0 + (at'.toNat - 0) <= 1048576) && ([] : List PV).all PV.oneCell))] <| asks W1 <|
    asks [0 + (at'.toNat - 0) == 0 + (at'.toNat - 0) && (decide (0 + (at'.toNat - 0) <= 1048576) && (decide (1 <= 1048576) && decide (0 + (0 + (at'.toNat - 0)) * es <= (([] : List PV) ++ (cc.drop 0).take ((at'.toNat - 0) * es)).length))), !decide (0 + (0 + (at'.toNat - 0)) + 1 <= 0 + (at'.toNat - 0))] <|
    tailT cc kk at' es ((([] : List PV) ++ (cc.drop 0).take ((at'.toNat - 0) * es)).take ((0 + (at'.toNat - 0)) * es) ++ row) (0 + (at'.toNat - 0) + 1) K)
theorem flat_two (A : List (List PV)) (t : Nat) : A.flatten = (A.take t).flatten ++ (A.drop t).flatten := by
  rw [<- List.flatten_append, List.take_append_drop]
theorem flat_tl {K : List Kd} {A : List (List PV)} (h : rowsOk K A = true) {t : Nat} (ht : t <= A.length) : (A.take t).flatten.length = t * K.length := by
  rw [rows_len (rowsOk_take h t), List.length_take, Nat.min_eq_left ht]
theorem rowsOk_drop {K : List Kd} {A : List (List PV)} (h : rowsOk K A = true) (t : Nat) : rowsOk K (A.drop t) = true := by
  unfold rowsOk at h ⊢
  rw [List.all_eq_true] at h ⊢
  exact fun x hx => h x (List.mem_of_mem_drop hx)
theorem flat_dl {K : List Kd} {A : List (List PV)} (h : rowsOk K A = true) (t : Nat) : (A.drop t).flatten.length = (A.length - t) * K.length := by
  rw [rows_len (rowsOk_drop h t), List.length_drop]
theorem flat_tk {K : List Kd} {A : List (List PV)} (h : rowsOk K A = true) {t : Nat} (ht : t <= A.length) : (A.flatten.drop 0).take (t * K.length) = (A.take t).flatten := by
  rw [List.drop_zero, flat_two A t, <- flat_tl h ht, List.take_left]
theorem flat_dr {K : List Kd} {A : List (List PV)} (h : rowsOk K A = true) {t : Nat} (ht : t <= A.length) : (A.flatten.drop (0 + t * K.length)).take ((A.length - t) * K.length) = (A.drop t).flatten := by
  rw [Nat.zero_add, flat_two A t, <- flat_tl h ht, List.drop_left, <- flat_dl h t, List.take_length]
theorem mul_split {n t e : Nat} (h : t <= n) : t * e + (n - t) * e = n * e := by
  rw [<- Nat.add_mul, Nat.add_sub_cancel' h]
theorem tailT_ok {K : List Kd} {A : List (List PV)} {x : List PV} (hA : rowsOk K A = true) (hx : x.length = K.length) (hn : A.length + 1 <= 1000000) {t : Nat} (ht : t <= A.length) (h0 : 0 < A.length) (KK : List PV -> Nat -> Option PV) :
    tailT A.flatten A.length (t : Int) K.length ((A.take t).flatten ++ x) (t + 1) KK = KK (A.take t ++ x :: A.drop t).flatten (A.length + 1) := by
  have lA := rows_len hA
  have lT := flat_tl hA ht
  have lD := flat_dl hA t
  have e : (A.take t ++ x :: A.drop t).flatten = (A.take t).flatten ++ x ++ (A.drop t).flatten := by simp
  have eY : ((A.take t).flatten ++ x).length = (t + 1) * K.length := by rw [List.length_append, lT, hx, Nat.add_mul, Nat.one_mul]
  have ms := mul_split (e := K.length) ht
  unfold tailT
  rw [asks_of (by
    simp only [lA, Nat.zero_add, beq_self_eq_true, Bool.true_and, List.all_cons, List.all_nil, id, Bool.and_true, Bool.and_eq_true, decide_eq_true_eq]
    omega)]
  simp only [Int.toNat_natCast, flat_dr hA ht]
  by_cases h1 : t = A.length
  . rw [cond_t (by simp [h1, h0]), e, h1, List.drop_length]
    simp
  . rw [cond_f (by simp [h1]), asks_of (by
      simp only [lA, lD, Nat.zero_add, beq_self_eq_true, Bool.true_and, List.all_cons, List.all_nil, id, Bool.and_true, Bool.and_eq_true, decide_eq_true_eq]
      omega), cond_f (by simp; omega), asks_of (by
      simp only [eY, Nat.zero_add, beq_self_eq_true, Bool.true_and, List.all_cons, List.all_nil, id, Bool.and_true, Bool.and_eq_true, decide_eq_true_eq, Bool.not_eq_true', decide_eq_false_iff_not]
      omega), e, <- eY, List.take_length]
    exact congrArg (KK _) (by omega)
theorem insT2_ok {K : List Kd} {A : List (List PV)} {x : List PV} (hA : rowsOk K A = true) (hx : x.length = K.length) (hn : A.length + 1 <= 1000000) {t : Nat} (ht : t <= A.length) (h0 : 0 < A.length) {W0 W1 : List Bool} (w0 : W0.all id = true) (w1 : W1.all id = true) (KK : List PV -> Nat -> Option PV) :
    insT2 A.flatten A.length (t : Int) K.length x W0 W1 KK = KK (A.take t ++ x :: A.drop t).flatten (A.length + 1) := by
  have lA := rows_len hA
  have lT := flat_tl hA ht
  have ms := mul_split (e := K.length) ht
  unfold insT2
  simp only [Int.toNat_natCast, Nat.sub_zero, flat_tk hA ht]
  rw [asks_of (by
    simp only [lA, lT, Nat.zero_add, beq_self_eq_true, Bool.true_and, List.all_cons, List.all_nil, id, Bool.and_true, Bool.and_eq_true, decide_eq_true_eq]
    refine ⟨by omega, by omega, by simp, by omega⟩)]
  by_cases h1 : t = 0
  . subst h1
    rw [cond_t (by rfl), asks_of w0]
    exact tailT_ok (t := 0) hA hx hn ht h0 KK
  . rw [cond_f (by simpa using h1), asks_of (by simp; omega), asks_of w1]
    simp only [List.nil_append, Nat.zero_add]
    rw [asks_of (by simp [lT]; omega), <- lT, List.take_length]
    exact tailT_ok hA hx hn ht h0 KK
def foldI (lt : List PV -> List PV -> Bool) (A R : List (List PV)) : List (List PV) := R.foldl (fun acc x => ins lt x acc) A
theorem foldI_snoc (lt : List PV -> List PV -> Bool) (A R : List (List PV)) (x : List PV) : foldI lt A (R ++ [x]) = ins lt x (foldI lt A R) := by simp [foldI]
theorem foldI_len (lt : List PV -> List PV -> Bool) (A R : List (List PV)) : (foldI lt A R).length = A.length + R.length := foldl_ins_len lt R A
theorem foldI_mem (lt : List PV -> List PV -> Bool) : ∀ (R A : List (List PV)) (y : List PV), y ∈ foldI lt A R -> y ∈ A ∨ y ∈ R
  | [], A, y, h => Or.inl h
  | x :: R, A, y, h => by
    rcases foldI_mem lt R (ins lt x A) y h with h | h
    . rcases (mem_ins lt x y A).1 h with rfl | h
      . exact Or.inr List.mem_cons_self
      . exact Or.inl h
    . exact Or.inr (List.mem_cons_of_mem _ h)
theorem at_loop {lt : List PV -> List PV -> Bool} {x : List PV} {A : List (List PV)} {L : Nat -> Int -> Option PV} {fin : Nat -> Option PV} {v : Option PV}
    (hs : ∀ s t, t < A.length -> L (s + 1) ((t + 1 : Nat) : Int) = bif lt x (A.getD t []) then L s (t : Int) else fin (t + 1))
    (h0 : ∀ s, L (s + 1) 0 = fin 0) (hf : fin (plc lt x A A.length) = v) (s : Nat) : L (s + A.length + 1) (A.length : Int) = v := by
  have key : ∀ t, t <= A.length -> L (s + t + 1) (t : Int) = fin (plc lt x A t) := by
    intro t
    induction t with
    | zero => intro _; exact h0 s
    | succ t ih =>
      intro ht
      rw [show s + (t + 1) + 1 = (s + t + 1) + 1 from by omega, hs _ t (by omega), plc]
      cases hc : lt x (A.getD t [])
      . rfl
      . exact ih (by omega)
  rw [key _ (Nat.le_refl _), hf]
theorem wrap_pred {t : Nat} (h : t < 9223372036854775807) : IntKind.i64.wrap (((t + 1 : Nat) : Int) - 1) = (t : Int) := by
  rw [show ((t + 1 : Nat) : Int) - 1 = (t : Int) from by omega]
  exact wrap_nat (by omega)
def acA (lt : List PV -> List PV -> Bool) (A R : List (List PV)) (i : Nat) : List PV := bif Nat.beq i 0 then [] else (foldI lt A (R.take i)).flatten
def acK (lt : List PV -> List PV -> Bool) (A R : List (List PV)) (i : Nat) : Nat := bif Nat.beq i 0 then 0 else (foldI lt A (R.take i)).length
theorem mid_loop {n : Nat} {L : Nat -> Nat -> Option PV} {v : Option PV} (hs : ∀ q i, i < n -> L (q + 1) i = L q (i + 1)) (he : ∀ q, L (q + 1) n = v) (q : Nat) : L (q + n + 1) 0 = v := by
  have key : ∀ k i, i + k = n -> L (q + k + 1) i = v := by
    intro k
    induction k with
    | zero => intro i h; rw [show i = n from by omega]; exact he _
    | succ k ih => intro i h; rw [show q + (k + 1) + 1 = (q + k + 1) + 1 from by omega, hs _ i (by omega)]; exact ih (i + 1) (by omega)
  exact key n 0 (by omega)
theorem ask1 {b : Bool} (h : b = true) : ([b] : List Bool).all id = true := by rw [h]; rfl
theorem gt_false {n : Nat} {k : Nat} (h : gt n (k : Int) = false) : n <= k := by
  unfold gt at h
  simp only [decide_eq_false_iff_not] at h
  omega
theorem all_app {a b : List Bool} (ha : a.all id = true) (hb : b.all id = true) : (a ++ b).all id = true := by rw [List.all_append, ha, hb]; rfl
theorem cons_ok {b : Bool} {l : List Bool} (h : b = true) (k : l.all id = true) : (b :: l).all id = true := by rw [List.all_cons, h, k]; rfl
theorem beq_b (b : Bool) : (!(b == b)) = false := by cases b <;> rfl
theorem beqn {n : Nat} (h : n ≠ 0) : Nat.beq n 0 = false := by cases n <;> first | rfl | exact absurd rfl h
theorem growA {K : List Kd} {A : List (List PV)} (hA : rowsOk K A = true) (hn : A.length + 1 <= 1000000) (x : List PV) (Kf : List PV -> Nat -> Option PV) :
    grow (!Nat.beq A.length 0) A.flatten A.length K.length x Kf = Kf (A ++ [x]).flatten (A.length + 1) := by
  have hl := rows_len hA
  cases A with
  | nil =>
    show Kf x 1 = _
    simp
  | cons a A =>
    have hb : (!Nat.beq (a :: A).length 0) = true := rfl
    rw [hb]
    unfold grow
    rw [asks_of (by
      simp only [beq_self_eq_true, hl, List.all_cons, List.all_nil, id, Bool.and_true, Bool.true_and, Bool.and_eq_true, decide_eq_true_eq, Bool.not_eq_true', decide_eq_false_iff_not]
      omega), <- hl, List.take_length, List.flatten_append]
    simp
theorem rowsOk_append {K : List Kd} {A B : List (List PV)} (h : rowsOk K A = true) (k : rowsOk K B = true) : rowsOk K (A ++ B) = true := by
  unfold rowsOk at h k ⊢
  rw [List.all_append, h, k]
  rfl
theorem rowsOk_map {K : List Kd} {R : List (List PV)} {g : List PV -> List PV} (hg : ∀ x ∈ R, wk K (g x) = true /\ oldL 0 (g x) = true) : rowsOk K (R.map g) = true := by
  unfold rowsOk
  rw [List.all_eq_true]
  intro y hy
  obtain ⟨x, hx, rfl⟩ := List.mem_map.1 hy
  simp only [(hg x hx).1, (hg x hx).2, Bool.and_self]
theorem accG {K : List Kd} {es n : Nat} (he : es = K.length) {A R : List (List PV)} {g : List PV -> List PV} (hA : rowsOk K A = true) (hg : ∀ x ∈ R, wk K (g x) = true /\ oldL 0 (g x) = true) (hl : R.length = n) (hn : A.length + n <= 1000000)
    {L : Nat -> Bool -> Int -> List PV -> Nat -> Option PV} {e : Bool -> Int -> List PV -> Nat -> Option PV} {row : Int -> List PV} {P : Bool -> Int -> List Bool} {Q : List Bool}
    (ht : ∀ q b i ac k, (A = [] ∨ b = true) -> L (q + 1) b i ac k = bif decide (i < (n : Int)) then asks (P b i) (grow b ac k es (row i) fun ac' k' => asks Q <| asks [oldL 0 ac'] <| L q true (IntKind.i64.wrap (i + 1)) ac' k') else e b i ac k)
    (hP : ∀ b (i : Nat), i < n -> (P b (i : Int)).all id = true) (hrow : ∀ (i : Nat) (hi : i < R.length), row (i : Int) = g R[i]) (hQ : Q.all id = true) :
    ∀ (k i q : Nat), i + k = n -> L (q + k + 1) (!Nat.beq (A.length + i) 0) (i : Int) (A ++ (R.take i).map g).flatten (A.length + i) = e (!Nat.beq (A.length + n) 0) (n : Int) (A ++ R.map g).flatten (A.length + n)
  | 0, i, q, h => by
    have hi : i = n := by omega
    subst hi
    have hb : A = [] ∨ (!Nat.beq (A.length + i) 0) = true := by
      cases A with
      | nil => exact Or.inl rfl
      | cons a A => exact Or.inr (by rw [beqn (by simp)]; rfl)
    rw [ht _ _ _ _ _ hb, cond_f (show decide ((i : Int) < (i : Int)) = false from by simp), <- hl, List.take_length]
  | k + 1, i, q, h => by
    have hi : i < R.length := by omega
    have hb : A = [] ∨ (!Nat.beq (A.length + i) 0) = true := by
      cases A with
      | nil => exact Or.inl rfl
      | cons a A => exact Or.inr (by rw [beqn (by simp)]; rfl)
    have hA' : rowsOk K (A ++ (R.take i).map g) = true := rowsOk_append hA (rowsOk_map fun x hx => hg x (List.mem_of_mem_take hx))
    have hlen : (A ++ (R.take i).map g).length = A.length + i := by rw [List.length_append, List.length_map, List.length_take, Nat.min_eq_left (by omega)]
    have hnx : A ++ (R.take i).map g ++ [g R[i]] = A ++ (R.take (i + 1)).map g := by rw [List.take_succ_eq_append_getElem hi, List.map_append, List.append_assoc]; rfl
    have hA2 : rowsOk K (A ++ (R.take (i + 1)).map g) = true := rowsOk_append hA (rowsOk_map fun x hx => hg x (List.mem_of_mem_take hx))
    have hgr := growA hA' (by rw [hlen]; omega) (g R[i])
    rw [hlen, hnx] at hgr
    rw [show q + (k + 1) + 1 = (q + k + 1) + 1 from by omega, ht _ _ _ _ _ hb, cond_t (show decide ((i : Int) < (n : Int)) = true from by simp; omega), asks_of (hP _ i (by omega)), hrow i hi, he, hgr]
    rw [asks_of hQ, asks_of (by simp only [rows_old hA2, List.all_cons, List.all_nil, id, Bool.and_self]), wrap_succ (by omega : i < 9223372036854775807)]
    have ih := accG he hA hg hl hn ht hP hrow hQ k (i + 1) q (by omega)
    rw [show (!Nat.beq (A.length + (i + 1)) 0) = true from by rw [beqn (by omega)]; rfl, show A.length + (i + 1) = A.length + i + 1 from rfl] at ih
    exact ih
theorem accG_run {K : List Kd} {es n : Nat} (he : es = K.length) {A R : List (List PV)} {g : List PV -> List PV} (hA : rowsOk K A = true) (hg : ∀ x ∈ R, wk K (g x) = true /\ oldL 0 (g x) = true) (hl : R.length = n) (hn : A.length + n <= 1000000)
    {L : Nat -> Bool -> Int -> List PV -> Nat -> Option PV} {e : Bool -> Int -> List PV -> Nat -> Option PV} {row : Int -> List PV} {P : Bool -> Int -> List Bool} {Q : List Bool}
    (ht : ∀ q b i ac k, (A = [] ∨ b = true) -> L (q + 1) b i ac k = bif decide (i < (n : Int)) then asks (P b i) (grow b ac k es (row i) fun ac' k' => asks Q <| asks [oldL 0 ac'] <| L q true (IntKind.i64.wrap (i + 1)) ac' k') else e b i ac k)
    (hP : ∀ b (i : Nat), i < n -> (P b (i : Int)).all id = true) (hrow : ∀ (i : Nat) (hi : i < R.length), row (i : Int) = g R[i]) (hQ : Q.all id = true) :
    L 1000009 (!Nat.beq A.length 0) 0 A.flatten A.length = e (!Nat.beq (A ++ R.map g).length 0) (n : Int) (A ++ R.map g).flatten (A ++ R.map g).length := by
  have := accG he hA hg hl hn ht hP hrow hQ n 0 (1000008 - n) (by omega)
  rw [show 1000008 - n + n + 1 = 1000009 from by omega] at this
  rw [show (A ++ R.map g).length = A.length + n from by rw [List.length_append, List.length_map, hl]]
  simpa using this
theorem insT_eq (cc : List PV) (kk : Nat) (at' : Int) (es : Nat) (row : List PV) (K : List PV -> Nat -> Option PV) : insT cc kk at' es row K = insT2 cc kk at' es row [] [] K := rfl
end Go.Proofs.YtaofbpldflcjmaaDoor.Am
