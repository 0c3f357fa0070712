/- Hashes: their walks and answers. -/
import Derived.Test.YtaofbpldflcjmaaDoorMZMgMa1
set_option linter.unusedVariables false
set_option linter.unusedSimpArgs false
set_option maxRecDepth 100000
set_option maxHeartbeats 4000000
namespace Go.Proofs.YtaofbpldflcjmaaDoor.Am
section
open St
def xo (a b : Int) : Int := IntKind.u64.wrap ((BitVec.ofInt 64 a ^^^ BitVec.ofInt 64 b).toNat)
def xsh (h : Int) : Int := xo h (h.fdiv (2 ^ 33))
def mixP (h : Int) : Int := xsh (IntKind.u64.wrap (xsh (IntKind.u64.wrap (xsh h * 18397679294719823053)) * 14181476777654086739))
theorem tMix (N : Nat) (h : Int) : apartS EN T0 H0 (N + 9) 5 72 [.int .u64 h] = some (.int .u64 (mixP h)) := by kernel_rfl
def stepH (h c : Int) : Int := IntKind.u64.wrap (xo h (IntKind.u64.wrap c) * 1099511628211)
noncomputable def LOn (N m : Nat) (h : Int) (c : List PV) (n : Nat) (i : Int) : Option PV := loopS EN T0 H0 N 5 71 Tryd.f71 [1, 0, 1, 0] (patOf (sparse 20 0 [(0, .int .u64 0), (1, .nils), (4, .int .u64 0), (7, .nils), (8, vI 0), (9, vI 0)])) 0 m (sparse 20 0 [(0, .int .u64 h), (1, .sl c 1 n none), (4, .int .u64 0), (7, .sl c 1 n none), (8, vI n), (9, vI i)]) []
theorem on0 (N : Nat) (h : Int) (c : List PV) (n : Nat) : apartS EN T0 H0 N 5 71 [.int .u64 h, .sl c 1 n none] = LOn N N h c n 0 := by kernel_rfl
theorem on1 (N m : Nat) (h : Int) (c : List PV) (n : Nat) (i : Int) : LOn N (m + 1) h c n i =
  (bif decide (i < (n : Int)) then (ass (decide (0 <= i) && decide (i < (n : Int))) <| ass (okAt [Kd.int .u8] c (i.toNat * 1)) <| ass (oldL 0 c) <| ass (oldL 0 c) <| LOn N m (stepH h (asI (c.getD (i.toNat * 1) .nilp))) c n (IntKind.i64.wrap (i + 1)))
   else some (.int .u64 h)) := by kernel_rfl
def onP (h : Int) (c : List PV) : Int := c.foldl (fun h x => stepH h (asI x)) h
def okB (c : List PV) (n : Nat) : Bool := c.all Sp.isU8 && (Nat.beq n c.length && decide (n <= 1000000))
theorem on_loop {N : Nat} {c : List PV} (hc : c.all Sp.isU8 = true) (hn : c.length <= 1000000) : ∀ (k i t : Nat) (h : Int), i + k = c.length -> LOn N (t + k + 1) h c c.length (i : Int) = some (.int .u64 (onP h (c.drop i)))
  | 0, i, t, h, e => by
    rw [on1, cond_f (show decide ((i : Int) < (c.length : Int)) = false from by simp; omega), List.drop_eq_nil_of_le (by omega)]
    rfl
  | k + 1, i, t, h, e => by
    have hi : i < c.length := by omega
    have ho := u8_old hc
    rw [show t + (k + 1) + 1 = (t + k + 1) + 1 from by omega, on1, cond_t (show decide ((i : Int) < (c.length : Int)) = true from by simp; omega), ass_of (inside hi), Nat.mul_one, Int.toNat_natCast, ass_of (u8_at hc hi), ass_of ho, ass_of ho, wrap_succ (by omega : i < 9223372036854775807), on_loop hc hn k (i + 1) t _ (by omega), List.drop_eq_getElem_cons hi]
    unfold onP
    rw [List.foldl_cons, getD_at hi]
def gOn (xs : List PV) : Option (Bool × PV) := match xs with
  | [.int .u64 h, .sl c e n none] => some (Nat.beq e 1 && okB c n, .int .u64 (onP h c))
  | _ => none
theorem runOn (xs : List PV) (v : PV) (hg : gOn xs = some (true, v)) : ∃ H, apartS EN T0 H 1000009 5 71 xs = some v := by
  unfold gOn at hg
  split at hg
  . rename_i h c e n
    unfold okB at hg
    simp only [Option.some.injEq, Prod.mk.injEq, Bool.and_eq_true, decide_eq_true_eq] at hg
    obtain ⟨⟨he, h1, h2, h3⟩, rfl⟩ := hg
    have h2 := Nat.eq_of_beq_eq_true h2
    subst h2
    rw [Nat.eq_of_beq_eq_true he]
    have main := on_loop (N := 1000009) h1 h3 c.length 0 (1000008 - c.length) h (by omega)
    rw [show 1000008 - c.length + c.length + 1 = 1000009 from by omega] at main
    exact ⟨H0, (on0 1000009 h c c.length).trans main⟩
  . cases hg
def gMix (xs : List PV) : Option (Bool × PV) := match xs with
  | [.int .u64 h] => some (true, .int .u64 (mixP h))
  | _ => none
theorem runMix (xs : List PV) (v : PV) (hg : gMix xs = some (true, v)) : ∃ H, apartS EN T0 H 1000009 5 72 xs = some v := by
  unfold gMix at hg
  split at hg
  . rename_i h
    cases hg
    exact ⟨H0, tMix 1000000 h⟩
  . cases hg
def belowP (h n : Int) : Int := bif decide (n < 1) then 0 else IntKind.i64.wrap (h.tmod (IntKind.u64.wrap n))
def gBel (xs : List PV) : Option (Bool × PV) := match xs with
  | [.int .u64 h, .int .i64 n] => some (decide (n < 1) || IntKind.u64.wrap n != 0, .int .i64 (belowP h n))
  | _ => none
theorem tBel (N : Nat) (h n : Int) : apartS EN T0 H0 (N + 9) 5 43 [.int .u64 h, .int .i64 n] = (bif decide (n < 1) then some (.int .i64 0) else (ass (IntKind.u64.wrap n != 0) <| some (.int .i64 (IntKind.i64.wrap (h.tmod (IntKind.u64.wrap n)))))) := by kernel_rfl
theorem runBel (xs : List PV) (v : PV) (hg : gBel xs = some (true, v)) : ∃ H, apartS EN T0 H 1000009 5 43 xs = some v := by
  unfold gBel at hg
  split at hg
  . rename_i h n
    simp only [Option.some.injEq, Prod.mk.injEq] at hg
    obtain ⟨h1, rfl⟩ := hg
    refine ⟨H0, (tBel 1000000 h n).trans ?_⟩
    unfold belowP
    cases hn : decide (n < 1) with
    | true => rfl
    | false =>
      rw [hn, Bool.false_or] at h1
      rw [cond_false, cond_false, ass_of h1]
  . cases hg
noncomputable def TH : Table := Tadd (Tadd T0 71 gOn) 72 gMix
theorem THok : TR TH := (TR0.add TR0 runOn).add TR0 runMix
end
section
open St
def u8c (n : Int) : PV := .int .u8 (IntKind.u8.wrap n)
def hofP (s : Int) (c : List PV) : Int := mixP (onP (onP (onP (onP (onP (onP (onP (onP (onP 14695981039346656037 [u8c (s.fdiv (2 ^ 56))]) [u8c (s.fdiv (2 ^ 48))]) [u8c (s.fdiv (2 ^ 40))]) [u8c (s.fdiv (2 ^ 32))]) [u8c (s.fdiv (2 ^ 24))]) [u8c (s.fdiv (2 ^ 16))]) [u8c (s.fdiv (2 ^ 8))]) [u8c (s.fdiv (2 ^ 0))]) c)
theorem tHof (N : Nat) (s : Int) (c : List PV) (n : Nat) : apartS EN TH H0 (N + 20) 5 44 [.int .u64 s, .sl c 1 n none] =
  (asks [oldL 0 c, oldL 0 c, oldL 0 c, oldL 0 c, oldL 0 c, oldL 0 c, oldL 0 c, oldL 0 c, oldL 0 c, Nat.beq 1 1 && okB c n] <| some (.int .u64 (hofP s c))) := by kernel_rfl
def gHof (xs : List PV) : Option (Bool × PV) := match xs with
  | [.int .u64 s, .sl c e n none] => some (Nat.beq e 1 && okB c n, .int .u64 (hofP s c))
  | _ => none
theorem okB_old {c : List PV} {n : Nat} (h : okB c n = true) : oldL 0 c = true := by
  unfold okB at h
  simp only [Bool.and_eq_true] at h
  exact u8_old h.1
theorem runHof (xs : List PV) (v : PV) (hg : gHof xs = some (true, v)) : ∃ H, apartS EN TH H 1000009 5 44 xs = some v := by
  unfold gHof at hg
  split at hg
  . rename_i s c e n
    simp only [Option.some.injEq, Prod.mk.injEq, Bool.and_eq_true] at hg
    obtain ⟨⟨he, h1⟩, rfl⟩ := hg
    rw [Nat.eq_of_beq_eq_true he]
    refine ⟨H0, (tHof 999989 s c n).trans ?_⟩
    rw [asks_of (by rw [okB_old h1, h1]; rfl)]
  . cases hg
theorem tBcl (N : Nat) (c : List PV) (n : Nat) : apartS EN T0 H0 (N + 20) 5 84 [.sl c 1 n none] =
  (ass (n != 0) <| ass (c.length == n * 1) <| bif decide (n = 0) then some (.sl [] 1 0 none) else
    (ass (1 == 1 && (decide (0 < 0 + n) && (decide (0 + n <= 1048576) && [].all PV.oneCell))) <|
     ass (0 + n == 0 + n && (decide (0 + (0 + n) * 1 <= ([].append c).length) && (decide (0 < 1) && (List.take ((0 + n) * 1) (List.drop 0 ([].append c))).all PV.calm))) <|
     ass (oldL 0 (List.take ((0 + n) * 1) (List.drop 0 ([].append c)))) <| some (.sl (List.take ((0 + n) * 1) (List.drop 0 ([].append c))) 1 (0 + n) none))) := by kernel_rfl
def gBcl (xs : List PV) : Option (Bool × PV) := match xs with
  | [.sl c e n none] => some (Nat.beq e 1 && (okB c n && !Nat.beq n 0), .sl c 1 n none)
  | _ => none
theorem u8_calm {c : List PV} (h : c.all Sp.isU8 = true) : c.all PV.calm = true := by
  rw [List.all_eq_true] at h ⊢
  intro x hx
  have := h x hx
  cases x <;> first | rfl | (simp [Sp.isU8] at this)
theorem runBcl (xs : List PV) (v : PV) (hg : gBcl xs = some (true, v)) : ∃ H, apartS EN T0 H 1000009 5 84 xs = some v := by
  unfold gBcl at hg
  split at hg
  . rename_i c e n
    unfold okB at hg
    simp only [Option.some.injEq, Prod.mk.injEq, Bool.and_eq_true, decide_eq_true_eq, Bool.not_eq_true'] at hg
    obtain ⟨⟨he, ⟨h1, h2, h3⟩, h4⟩, rfl⟩ := hg
    have h2 := Nat.eq_of_beq_eq_true h2
    subst h2
    have h0 : c.length ≠ 0 := Nat.ne_of_beq_eq_false h4
    rw [Nat.eq_of_beq_eq_true he]
    refine ⟨H0, (tBcl 999989 c c.length).trans ?_⟩
    have e1 : List.take ((0 + c.length) * 1) (List.drop 0 ([].append c)) = c := by simp
    rw [e1, ass_of (by simpa using h0), ass_of (by simp), show decide (c.length = 0) = false from by simpa using h0, cond_false, ass_of (by simp; omega), ass_of (by rw [u8_calm h1]; simp), ass_of (u8_old h1), Nat.zero_add]
  . cases hg
noncomputable def TBcl : Table := Tadd T0 84 gBcl
theorem TBclok : TR TBcl := TR0.add TR0 runBcl
def adBy (a : Ad) : List PV := bif a.six then byteCells a.b else (byteCells a.b).take 4
theorem tByS (N : Nat) (b : Nat -> Int) : apartS EN TBcl H0 (N + 20) 5 73 [.agg (⟨true, b⟩ : Ad).cs] = some (.sl (byteCells b) 1 16 none) := by kernel_rfl
theorem tByF (N : Nat) (b : Nat -> Int) : apartS EN TBcl H0 (N + 20) 5 73 [.agg (⟨false, b⟩ : Ad).cs] = some (.sl ((byteCells b).take 4) 1 4 none) := by kernel_rfl
def gBy (xs : List PV) : Option (Bool × PV) := match xs with
  | [x] => (asAd x).map fun a => (true, .sl (adBy a) 1 (bif a.six then 16 else 4) none)
  | _ => none
theorem runBy (xs : List PV) (v : PV) (hg : gBy xs = some (true, v)) : ∃ H, apartS EN TBcl H 1000009 5 73 xs = some v := by
  unfold gBy at hg
  split at hg
  . rename_i x
    simp only [Option.map_eq_some_iff, Prod.mk.injEq] at hg
    obtain ⟨⟨s, b⟩, h1, _, rfl⟩ := hg
    rw [asAd_ok h1]
    cases s with
    | true => exact ⟨H0, tByS 999989 b⟩
    | false => exact ⟨H0, tByF 999989 b⟩
  . cases hg
noncomputable def TBy : Table := Tadd T0 73 gBy
theorem TByok : TR TBy := TR0.add TBclok runBy
end
section
open St
def putP (p : Pt) : List PV := (bif p.ad.six then .int .u8 6 :: byteCells p.ad.b else .int .u8 4 :: (byteCells p.ad.b).take 4) ++ [u8c (p.port.fdiv (2 ^ 8)), u8c p.port]
def putN (p : Pt) : Nat := bif p.ad.six then 19 else 7
theorem tPutS (N : Nat) (b : Nat -> Int) (p : Int) : apartS EN TBy H0 (N + 20) 5 31 [.agg (⟨⟨true, b⟩, p⟩ : Pt).cs] = some (.sl (putP ⟨⟨true, b⟩, p⟩) 1 19 none) := by kernel_rfl
theorem tPutF (N : Nat) (b : Nat -> Int) (p : Int) : apartS EN TBy H0 (N + 20) 5 31 [.agg (⟨⟨false, b⟩, p⟩ : Pt).cs] = some (.sl (putP ⟨⟨false, b⟩, p⟩) 1 7 none) := by kernel_rfl
def gPut (xs : List PV) : Option (Bool × PV) := match xs with
  | [x] => (asPt x).map fun p => (true, .sl (putP p) 1 (putN p) none)
  | _ => none
theorem runPut (xs : List PV) (v : PV) (hg : gPut xs = some (true, v)) : ∃ H, apartS EN TBy H 1000009 5 31 xs = some v := by
  unfold gPut at hg
  split at hg
  . rename_i x
    simp only [Option.map_eq_some_iff, Prod.mk.injEq] at hg
    obtain ⟨⟨⟨s, b⟩, p⟩, h1, _, rfl⟩ := hg
    rw [asPt_ok h1]
    cases s with
    | true => exact ⟨H0, tPutS 999989 b p⟩
    | false => exact ⟨H0, tPutF 999989 b p⟩
  . cases hg
theorem put_okB (p : Pt) : okB (putP p) (putN p) = true := by
  obtain ⟨⟨s, b⟩, p⟩ := p
  cases s <;> rfl
noncomputable def LLe (N m : Nat) (n d : Int) : Option PV := loopS EN T0 H0 N 5 41 Tryd.f41 [1, 1, 0, 1, 0] (patOf (sparse 23 0 [(0, vI 0), (2, vI 0), (3, vI 0), (4, vI 0), (5, .bool false), (6, .bool false), (7, vI 0), (8, .bool false), (9, .bool false)])) 0 m (sparse 23 0 [(0, vI n), (2, vI 0), (3, vI d), (4, vI n), (5, .bool (decide (n < 2))), (6, .bool false), (7, vI n), (8, .bool (decide (n > 2147483648))), (9, .bool false)]) []
theorem le0 (N : Nat) (n : Int) : apartS EN T0 H0 N 5 41 [.int .i64 n] = (bif decide (n < 2) then some (vI 0) else bif decide (n > 2147483648) then some (vI 0) else LLe N N n 2) := by kernel_rfl
theorem le1 (N m : Nat) (n d : Int) : LLe N (m + 1) n d = (bif decide (IntKind.i64.wrap (d * d) <= n) then (ass (d != 0) <| bif n.tmod d == 0 then some (vI d) else LLe N m n (IntKind.i64.wrap (d + 1))) else some (vI n)) := by kernel_rfl
def leaG : Nat -> Int -> Int -> Int
  | 0, n, d => n
  | m + 1, n, d => bif decide (d * d <= n) then (bif n.tmod d == 0 then d else leaG m n (d + 1)) else n
def leastP (n : Int) : Int := bif decide (n < 2) then 0 else leaG 39 n 2
theorem wrap_small {n : Int} (h1 : -1000000000000 <= n) (h2 : n <= 1000000000000) : IntKind.i64.wrap n = n := by
  rw [wrap_in] <;> first | omega | (simp; omega)
theorem le_loop {N : Nat} {n : Int} (hn : n <= 1000) : ∀ (q d t : Nat), 2 <= d -> d + q = 40 -> LLe N (t + q + 1) n (d : Int) = some (vI (leaG (q + 1) n d))
  | 0, d, t, h2, e => by
    have hd : d = 40 := by omega
    subst hd
    rw [le1]
    unfold leaG
    have h : decide (((40 : Nat) : Int) * ((40 : Nat) : Int) <= n) = false := by simp; omega
    rw [wrap_small (by omega) (by omega), h, cond_false, cond_false]
  | q + 1, d, t, h2, e => by
    have hd : d <= 40 := by omega
    have hdd : (d : Int) * (d : Int) <= 1600 := by
      have h := Nat.mul_le_mul hd hd
      have : ((d * d : Nat) : Int) <= ((40 * 40 : Nat) : Int) := by exact_mod_cast h
      simpa using this
    have hd0 : (0 : Int) <= (d : Int) * (d : Int) := by
      have : (0 : Int) <= ((d * d : Nat) : Int) := Int.natCast_nonneg _
      simpa using this
    rw [show t + (q + 1) + 1 = (t + q + 1) + 1 from by omega, le1, wrap_small (by omega) (by omega), wrap_small (by omega) (by omega), show ((d : Int) + 1) = ((d + 1 : Nat) : Int) from by simp, le_loop hn q (d + 1) t (by omega) (by omega), ass_of (by simp; omega)]
    rw [show ((d + 1 : Nat) : Int) = (d : Int) + 1 from by simp]
    show _ = some (vI (bif decide ((d : Int) * (d : Int) <= n) then (bif n.tmod d == 0 then (d : Int) else leaG (q + 1) n ((d : Int) + 1)) else n))
    cases decide ((d : Int) * (d : Int) <= n) <;> cases n.tmod d == 0 <;> rfl
def gLea (xs : List PV) : Option (Bool × PV) := match xs with
  | [.int .i64 n] => some (decide (n <= 1000), vI (leastP n))
  | _ => none
theorem runLea (xs : List PV) (v : PV) (hg : gLea xs = some (true, v)) : ∃ H, apartS EN T0 H 1000009 5 41 xs = some v := by
  unfold gLea at hg
  split at hg
  . rename_i n
    simp only [Option.some.injEq, Prod.mk.injEq, decide_eq_true_eq] at hg
    obtain ⟨hn, rfl⟩ := hg
    refine ⟨H0, (le0 1000009 n).trans ?_⟩
    unfold leastP
    cases h2 : decide (n < 2) with
    | true => rfl
    | false =>
      have h3 : decide (n > 2147483648) = false := by simp; omega
      rw [cond_false, h3, cond_false, cond_false]
      have main := le_loop (N := 1000009) hn 38 2 999970 (by omega) (by omega)
      rw [show 999970 + 38 + 1 = 1000009 from by omega] at main
      exact main
  . cases hg
noncomputable def TLea : Table := Tadd T0 41 gLea
theorem TLeaok : TR TLea := TR0.add TR0 runLea
end
section
open St
def isP (n : Int) : Bool := decide (n > 1) && leastP n == n
def sizedP (n : Int) : Bool := decide (n <= 251) && isP n
def gIs (xs : List PV) : Option (Bool × PV) := match xs with
  | [.int .i64 n] => some (decide (n <= 1000), .bool (isP n))
  | _ => none
def gSz (xs : List PV) : Option (Bool × PV) := match xs with
  | [.int .i64 n] => some (true, .bool (sizedP n))
  | _ => none
theorem tIs (N : Nat) (n : Int) : apartS EN TLea H0 (N + 20) 5 28 [.int .i64 n] = (bif decide (n > 1) then (ass (decide (n <= 1000)) <| some (.bool (leastP n == n))) else some (.bool false)) := by kernel_rfl
theorem runIs (xs : List PV) (v : PV) (hg : gIs xs = some (true, v)) : ∃ H, apartS EN TLea H 1000009 5 28 xs = some v := by
  unfold gIs at hg
  split at hg
  . rename_i n
    simp only [Option.some.injEq, Prod.mk.injEq] at hg
    obtain ⟨hn, rfl⟩ := hg
    refine ⟨H0, (tIs 999989 n).trans ?_⟩
    unfold isP
    cases decide (n > 1) with
    | true => rw [cond_true, ass_of hn]; rfl
    | false => rfl
  . cases hg
noncomputable def TIs : Table := Tadd T0 28 gIs
theorem TIsok : TR TIs := TR0.add TLeaok runIs
theorem runSz0 {f : Nat} (ht : ∀ (N : Nat) (n : Int), apartS EN TIs H0 (N + 20) 5 f [.int .i64 n] = (bif decide (n <= 251) then (ass (decide (n <= 1000)) <| some (.bool (isP n))) else some (.bool false)))
    (xs : List PV) (v : PV) (hg : gSz xs = some (true, v)) : ∃ H, apartS EN TIs H 1000009 5 f xs = some v := by
  unfold gSz at hg
  split at hg
  . rename_i n
    simp only [Option.some.injEq, Prod.mk.injEq, true_and] at hg
    subst hg
    refine ⟨H0, (ht 999989 n).trans ?_⟩
    unfold sizedP
    cases h : decide (n <= 251) with
    | true =>
      have := of_decide_eq_true h
      rw [cond_true, ass_of (by simp; omega)]; rfl
    | false => rfl
  . cases hg
theorem tSzS (N : Nat) (n : Int) : apartS EN TIs H0 (N + 20) 5 42 [.int .i64 n] = (bif decide (n <= 251) then (ass (decide (n <= 1000)) <| some (.bool (isP n))) else some (.bool false)) := by kernel_rfl
theorem tSzM (N : Nat) (n : Int) : apartS EN TIs H0 (N + 20) 5 15 [.int .i64 n] = (bif decide (n <= 251) then (ass (decide (n <= 1000)) <| some (.bool (isP n))) else some (.bool false)) := by kernel_rfl
noncomputable def TSz : Table := Tadd T0 42 gSz
theorem TSzok : TR TSz := TR0.add TIsok (runSz0 tSzS)
def srP (a b c : Int) : Bool := sizedP a && (decide (b ≥ 0) && (decide (b < a) && (decide (c ≥ 1) && decide (c < a))))
def gSr (xs : List PV) : Option (Bool × PV) := match xs with
  | [.agg [.int .i64 a, .int .i64 b, .int .i64 c]] => some (true, .bool (srP a b c))
  | _ => none
theorem tSr (N : Nat) (a b c : Int) : apartS EN TSz H0 (N + 20) 5 48 [.agg [vI a, vI b, vI c]] =
  (bif sizedP a then (bif decide (b ≥ 0) then (bif decide (b < a) then (bif decide (c ≥ 1) then some (.bool (decide (c < a))) else some (.bool false)) else some (.bool false)) else some (.bool false)) else some (.bool false)) := by kernel_rfl
theorem runSr (xs : List PV) (v : PV) (hg : gSr xs = some (true, v)) : ∃ H, apartS EN TSz H 1000009 5 48 xs = some v := by
  unfold gSr at hg
  split at hg
  . rename_i a b c
    simp only [Option.some.injEq, Prod.mk.injEq, true_and] at hg
    subst hg
    refine ⟨H0, (tSr 999989 a b c).trans ?_⟩
    unfold srP
    cases sizedP a <;> cases decide (b ≥ 0) <;> cases decide (b < a) <;> cases decide (c ≥ 1) <;> rfl
  . cases hg
noncomputable def TSr : Table := Tadd T0 48 gSr
theorem TSrok : TR TSr := TR0.add TSzok runSr
def pl0 (a b c : Int) : Int := (IntKind.i64.wrap (b + IntKind.i64.wrap ((IntKind.i64.wrap (Int.tmod 0 a + a)).tmod a * c))).tmod a
def gPl (xs : List PV) : Option (Bool × PV) := match xs with
  | [.agg [.int .i64 a, .int .i64 b, .int .i64 c], .int .i64 0] => some (srP a b c && a != 0, vI (pl0 a b c))
  | _ => none
theorem tPl (N : Nat) (a b c : Int) : apartS EN TSr H0 (N + 20) 5 46 [.agg [vI a, vI b, vI c], vI 0] =
  (bif !srP a b c then some (vI (-1)) else asks [a != 0, a != 0, a != 0] <| some (vI (pl0 a b c))) := by kernel_rfl
theorem runPl (xs : List PV) (v : PV) (hg : gPl xs = some (true, v)) : ∃ H, apartS EN TSr H 1000009 5 46 xs = some v := by
  unfold gPl at hg
  split at hg
  . rename_i a b c
    simp only [Option.some.injEq, Prod.mk.injEq, Bool.and_eq_true] at hg
    obtain ⟨⟨h1, h2⟩, rfl⟩ := hg
    refine ⟨H0, (tPl 999989 a b c).trans ?_⟩
    rw [h1, Bool.not_true, cond_false, asks_of (by rw [h2]; rfl)]
  . cases hg
noncomputable def TPl : Table := Tadd TSr 46 gPl
theorem TPlok : TR TPl := TSrok.add TSrok runPl
def ofO (c : List PV) (n : Int) : Int := belowP (hofP 1 c) n
def ofS (c : List PV) (n : Int) : Int := IntKind.i64.wrap (belowP (hofP 2 c) (IntKind.i64.wrap (n - 1)) + 1)
def errR : PV := .iface 128 (.gptr 0)
def gSof (xs : List PV) : Option Tr := match xs with
  | [.sl c e m none, .int .i64 n] => some (.br (sizedP n) (.leaf (Nat.beq e 1 && okB c m) (.tup [.agg [vI n, vI (ofO c n), vI (ofS c n)], .nilif])) (.leaf (Nat.beq e 1) (.tup [.agg [vI 0, vI 0, vI 0], errR])))
  | _ => none
noncomputable def TSo : Table := Tadd (Tadd TSz 44 gHof) 43 gBel
theorem TSook : TR TSo := (TSzok.add THok runHof).add TR0 runBel
theorem tSof (N : Nat) (c : List PV) (m : Nat) (n : Int) : apartS EN TSo H0 (N + 20) 5 30 [.sl c 1 m none, .int .i64 n] =
  (bif !sizedP n then some (.tup [.agg [vI 0, vI 0, vI 0], errR]) else
   asks [oldL 0 c, Nat.beq 1 1 && okB c m, decide (n < 1) || IntKind.u64.wrap n != 0, oldL 0 c, Nat.beq 1 1 && okB c m, decide (IntKind.i64.wrap (n - 1) < 1) || IntKind.u64.wrap (IntKind.i64.wrap (n - 1)) != 0] <|
   some (.tup [.agg [vI n, vI (ofO c n), vI (ofS c n)], .nilif])) := by kernel_rfl
theorem sized_lt {n : Int} (h : sizedP n = true) : 2 <= n /\ n <= 251 := by
  unfold sizedP isP at h
  simp only [Bool.and_eq_true, decide_eq_true_eq] at h
  omega
theorem wrapU_small {n : Int} (h1 : 0 <= n) (h2 : n <= 1000000000000) : IntKind.u64.wrap n = n := by
  rw [IntKind.wrap_u64]; omega
theorem runSof (xs : List PV) (t : Tr) (v : PV) (hg : gSof xs = some t) (hv : t.val = some v) : ∃ H, apartS EN TSo H 1000009 5 30 xs = some v := by
  unfold gSof at hg
  split at hg
  . rename_i c e m n
    cases hg
    refine ⟨H0, ?_⟩
    cases hs : sizedP n with
    | false =>
      rw [hs] at hv
      obtain ⟨he, rfl⟩ := leaf_val (show (Tr.leaf (Nat.beq e 1) (.tup [.agg [vI 0, vI 0, vI 0], errR])).val = some v from hv)
      rw [Nat.eq_of_beq_eq_true he]
      refine (tSof 999989 c m n).trans ?_
      rw [hs]
      rfl
    | true =>
      rw [hs] at hv
      obtain ⟨hc, rfl⟩ := leaf_val (show (Tr.leaf (Nat.beq e 1 && okB c m) (.tup [.agg [vI n, vI (ofO c n), vI (ofS c n)], .nilif])).val = some v from hv)
      simp only [Bool.and_eq_true] at hc
      rw [Nat.eq_of_beq_eq_true hc.1]
      obtain ⟨l1, l2⟩ := sized_lt hs
      refine (tSof 999989 c m n).trans ?_
      rw [hs, Bool.not_true, cond_false, asks_of]
      have a1 : (decide (n < 1) || IntKind.u64.wrap n != 0) = true := by rw [wrapU_small (by omega) (by omega)]; simp; omega
      have a2 : (decide (IntKind.i64.wrap (n - 1) < 1) || IntKind.u64.wrap (IntKind.i64.wrap (n - 1)) != 0) = true := by rw [wrap_small (by omega) (by omega), wrapU_small (by omega) (by omega)]; simp; omega
      rw [okB_old hc.2, hc.2, a1, a2]
      rfl
  . cases hg
noncomputable def TSof : Table := TaddT T0 30 gSof
theorem TSofok : TR TSof := TR0.addT TSook runSof
end
end Go.Proofs.YtaofbpldflcjmaaDoor.Am
