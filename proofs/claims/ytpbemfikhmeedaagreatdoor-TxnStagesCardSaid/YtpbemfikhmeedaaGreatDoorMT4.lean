/- linkboyref25.Stage: its walk, its answer. -/
import Derived.Test.YtpbemfikhmeedaaGreatDoorMT3
set_option linter.unusedVariables false
set_option linter.unusedSimpArgs false
set_option maxRecDepth 100000
set_option maxHeartbeats 8000000
namespace Go.Proofs.YtpbemfikhmeedaaGreatDoor.Am
section
open St
noncomputable def TRs : Table := TaddT T0 14 gRd
def slR2 (r : Rw) (c : List PV) (n : Nat) (i : Int) : List (Nat × PV) := [(0, r.pv), (1, .sl c 38 n none), (2, .ptr 0 1 0), (4, .ptr 1 1 0), (5, vI 0), (6, vI 0), (11, .sl c 38 n none), (12, vI n), (13, vI i)]
noncomputable def LRg (N m : Nat) (r : Rw) (c : List PV) (n : Nat) (s : Rw) (i : Int) : Option PV := loopS EN TRs H0 N 5 10 Tryz.f10 [1, 0, 1, 0] (patOf (sparse 34 0 (slR2 nilR [] 0 0))) 2 m (sparse 34 0 (slR2 r c n i)) [bx s.pv.cells, bxN n3 3]
def askR2 (r : Rw) (c : List PV) (s : Rw) : List Bool := o3 2 r ++ ([oldL 2 c] ++ ([oldL 2 c] ++ o3 2 s))
noncomputable def stepR (N m : Nat) (r : Rw) (c : List PV) (n : Nat) (s : Rw) (u : List PV) (i : Int) : Option PV :=
  asks (o3 0 s) <| asks (oOld 0 u) <|
  bif known u then
    (bif noneR s u then (asks [s.ok && (askO u && joOk [outR s u])] <| some (.tup [nilRows, vI i, vI 11]))
     else (asks [s.ok && (askO u && joOk [outR s u])] <| asks (askR2 r c (rj [outR s u])) <| LRg N m r c n (rj [outR s u]) (IntKind.i64.wrap (i + 1))))
  else (asks [askO u] <| some (.tup [nilRows, vI i, vI 7]))
theorem rg0 (N : Nat) (r : Rw) (c : List PV) (n : Nat) : apartS EN TRs H0 N 5 10 [r.pv, .sl c 38 n none] = LRg N N r c n r 0 := by kernel_rfl
theorem rg1 (N m : Nat) (r : Rw) (c : List PV) (n : Nat) (s : Rw) (i : Int) : LRg N (m + 1) r c n s i =
  (bif decide (i < (n : Int)) then (asks [decide (0 <= i) && decide (i < (n : Int)), okAt KOp c (i.toNat * 38)] <| stepR N m r c n s (opAt c i) i)
   else (asks (o3 0 s) <| some (.tup [s.pv, vI n, vI 0]))) := by kernel_rfl
def rgR : Rw -> List (List PV) -> Nat -> Rw × Nat × Nat
  | s, [], i => (s, i, 0)
  | s, u :: L, i => bif known u then (bif noneR s u then (nilR, i, 11) else rgR (rj [outR s u]) L (i + 1)) else (nilR, i, 7)
def rgOk : Rw -> List (List PV) -> Bool
  | s, [] => s.ok
  | s, u :: L => s.ok && (askO u && bif known u then (joOk [outR s u] && bif noneR s u then true else rgOk (rj [outR s u]) L) else true)
def rgV (x : Rw × Nat × Nat) : PV := .tup [x.1.pv, vI x.2.1, vI x.2.2]
theorem rgOk_ok : ∀ {s : Rw} {L : List (List PV)}, rgOk s L = true -> s.ok = true
  | s, [], h => h
  | s, u :: L, h => by
    unfold rgOk at h
    simp only [Bool.and_eq_true] at h
    exact h.1
theorem rg_loop {N n : Nat} {r : Rw} {R : List (List PV)} (h : r.ok = true) (hR : rowsOk KOp R = true) (hl : R.length = n) (hn : n <= 1000000) : ∀ (k i t : Nat) (s : Rw), i + k = n -> rgOk s (R.drop i) = true ->
    LRg N (t + k + 1) r R.flatten n s (i : Int) = some (rgV (rgR s (R.drop i) i))
  | 0, i, t, s, e, ho => by
    rw [rg1, cond_f (show decide ((i : Int) < (n : Int)) = false from by simp; omega), asks_of (o3_ok (rgOk_ok ho) 0), List.drop_eq_nil_of_le (by omega), show i = n from by omega]
    rfl
  | k + 1, i, t, s, e, ho => by
    have hi : i < R.length := by omega
    have hp := op_at hR hi
    have hc : oldL 2 R.flatten = true := rows_oldn hR 2
    rw [List.drop_eq_getElem_cons hi] at ho ⊢
    have hs := rgOk_ok ho
    unfold rgOk at ho
    simp only [Bool.and_eq_true] at ho
    obtain ⟨_, h2, h3⟩ := ho
    rw [show t + (k + 1) + 1 = (t + k + 1) + 1 from by omega, rg1, cond_t (show decide ((i : Int) < (n : Int)) = true from by simp; omega), asks_of (cons_ok (inside (by omega : i < n)) (cons_ok (by rw [Int.toNat_natCast]; exact hp.2) rfl)), hp.1]
    unfold stepR rgR
    rw [asks_of (o3_ok hs 0), asks_of (oOld_ok h2 0)]
    cases hk : known R[i] with
    | false =>
      rw [cond_false, cond_false, asks_of (ask1 h2)]
      rfl
    | true =>
      rw [hk, cond_true] at h3
      simp only [Bool.and_eq_true] at h3
      rw [cond_true, cond_true]
      cases hn' : noneR s R[i] with
      | true =>
        rw [cond_true, cond_true, asks_of (ask1 (by rw [hs, h2, h3.1]; rfl))]
        rfl
      | false =>
        have h4 := h3.2
        rw [hn', cond_false] at h4
        have ha : (askR2 r R.flatten (rj [outR s R[i]])).all id = true := all_app' (o3_ok h 2) (all_app' (ask1 hc) (all_app' (ask1 hc) (o3_ok (rgOk_ok h4) 2)))
        rw [cond_false, cond_false, asks_of (ask1 (by rw [hs, h2, h3.1]; rfl)), asks_of ha, wrap_succ (by omega : i < 9223372036854775807)]
        exact rg_loop h hR hl hn k (i + 1) t (rj [outR s R[i]]) (by omega) h4
def gRs (xs : List PV) : Option (Bool × PV) := match xs with
  | [x, .sl c e n none] => (asRw x).map fun r => (Nat.beq e 38 && (rowsC KOp n c && rgOk r (chunks 38 n c)), rgV (rgR r (chunks 38 n c) 0))
  | _ => none
theorem runRs (xs : List PV) (v : PV) (hg : gRs xs = some (true, v)) : ∃ H, apartS EN TRs H 1000009 5 10 xs = some v := by
  unfold gRs at hg
  split at hg
  . rename_i x c e n
    simp only [Option.map_eq_some_iff, Prod.mk.injEq, Bool.and_eq_true] at hg
    obtain ⟨r, hr, ⟨he, hrc, ho⟩, rfl⟩ := hg
    rw [asRw_ok hr, Nat.eq_of_beq_eq_true he]
    obtain ⟨r1, r2, r3, r4⟩ := rowsC_ok hrc
    rw [show KOp.length = 38 from rfl] at r2 r3 r4
    have main := rg_loop (N := 1000009) (rgOk_ok ho) r2 r4 r1 n 0 (1000008 - n) r (by omega) ho
    rw [show 1000008 - n + n + 1 = 1000009 from by omega, r3] at main
    exact ⟨H0, (rg0 1000009 r c n).trans main⟩
  . cases hg
end
section
open St
theorem nilR_ok : nilR.ok = true := by rfl
theorem opOk_ask {u : List PV} (h : opOk u = true) : askO u = true := by
  unfold opOk at h
  simp only [Bool.and_eq_true] at h
  exact h.1
theorem stage_same : ∀ (L : List (List PV)) (r : Rw) (i : Nat), r.ok = true -> (∀ x ∈ r.F, r8 x) -> (∀ u ∈ L, opOk u = true /\ r8 (opF u)) -> r.nf + L.length < 1000000 -> r.ng + L.length < 1000000 -> r.ni + L.length < 1000000 ->
    stgOk r L = true /\ rgOk r L = true /\ stgR r L i = rgR r L i /\ (stgR r L i).1.ok = true /\ ((stgR r L i).2.2 = 0 ∨ (stgR r L i).2.2 = 7 ∨ (stgR r L i).2.2 = 11)
  | [], r, i, h, hb, hu, n1, n2, n3 => ⟨h, h, rfl, h, Or.inl rfl⟩
  | u :: L, r, i, h, hb, hu, n1, n2, n3 => by
    have hu0 := hu u (by simp)
    have ha := opOk_ask hu0.1
    rw [List.length_cons] at n1 n2 n3
    unfold stgOk rgOk stgR rgR
    rw [h, ha, Bool.true_and, Bool.true_and, Bool.true_and]
    cases hk : known u with
    | false => exact ⟨rfl, rfl, rfl, nilR_ok, Or.inr (Or.inl rfl)⟩
    | true =>
      have X : DoOk r u := ⟨h, hu0.1, hk, hb, hu0.2, by omega, by omega, by omega⟩
      rw [cond_true, cond_true, cond_true, cond_true, X.none, X.join, X.join1, Bool.true_and, Bool.true_and]
      cases hn : noneR r u with
      | true => exact ⟨rfl, rfl, rfl, nilR_ok, Or.inr (Or.inr rfl)⟩
      | false =>
        rw [cond_false, cond_false, cond_false, cond_false, X.same]
        obtain ⟨y1, y2, y3, y4, y5⟩ := X.next
        exact stage_same L (rj [outR r u]) (i + 1) y1 y2 (fun v hv => hu v (by simp [hv])) (by omega) (by omega) (by omega)
theorem do_same {r : Rw} {u : List PV} (h : r.ok = true) (hb : ∀ x ∈ r.F, r8 x) (ho : opOk u = true) (hp : r8 (opF u)) (n1 : r.nf < 1000000) (n2 : r.ng < 1000000) (n3 : r.ni < 1000000) (hk : known u = true) :
    noneP r u = noneR r u /\ doP r u = rj [outR r u] /\ joOk [r.rest u, moreR u] = true /\ joOk [outR r u] = true /\ (rj [outR r u]).ok = true := by
  have X : DoOk r u := ⟨h, ho, hk, hb, hp, n1, n2, n3⟩
  exact ⟨X.none, X.same, X.join, X.join1, X.next.1⟩
end
section
open St
noncomputable def TOg : Table := Tadd T0 20 gGrp
def HOfO : FuncId -> Hint := fun f t => bif Nat.beq f 8 && Nat.beq t 25 then [none, some false] else []
def curOf (b : Bool) (k : Nat) : PV := bif b then .osl 0 k 0 38 k none else .sl [] 38 0 (some 0)
def slOf (c : List PV) (n : Nat) (b : Bool) (k : Nat) (i : Int) : List (Nat × PV) := [(0, .sl c 38 n none), (2, .nils), (3, curOf b k), (6, .sl [] 38 0 (some 0)), (7, .sl c 38 n none), (8, vI n), (9, vI i)]
noncomputable def LOfO (N m : Nat) (c : List PV) (n : Nat) (b : Bool) (ac : List PV) (k : Nat) (i : Int) : Option PV := loopS EN TOg HOfO N 5 8 Tryz.f8 [1, 1, 0, 1, 0] (patOf (sparse 28 0 (slOf [] 0 false 0 0))) 0 m (sparse 28 0 (slOf c n b k i)) (accO b ac 38 k)
theorem of0 (N : Nat) (c : List PV) (n : Nat) : apartS EN TOg HOfO N 5 8 [.sl c 38 n none] = LOfO N N c n false [] 0 0 := by kernel_rfl
theorem of1 (N m : Nat) (c : List PV) (n : Nat) (b : Bool) (ac : List PV) (k : Nat) (i : Int) : LOfO N (m + 1) c n b ac k i =
  (bif decide (i < (n : Int)) then
    (asks [decide (0 <= i) && decide (i < (n : Int)), okAt KOp c (i.toNat * 38)] <| asks [oldO (1 + nb b) (opAt c i) 33, oldO (1 + nb b) (opAt c i) 34] <| asks [oldO 0 (opAt c i) 33, oldO 0 (opAt c i) 34] <|
     asks [wk KGr (opG (opAt c i)) && oldL 0 (opG (opAt c i))] <| asks [oldO (1 + nb b) (opAt c i) 37] <|
     grow b ac k 38 (opAt c i) fun a' k' => asks [oldL 0 c, oldL 0 c] <| asks [oldL 0 a'] <| LOfO N m c n true a' k' (IntKind.i64.wrap (i + 1)))
  else (asks (ifb b (sealAsk ac k 38)) <| asks (ifb b [oldL 0 ((ac.drop 0).take (k * 38))]) <| some (sealC b ac k 38))) := by cases b <;> kernel_rfl
theorem of_loop {N n : Nat} {R : List (List PV)} (hR : rowsOk KOp R = true) (hl : R.length = n) (hn : n <= 1000000) : ∀ (k i t : Nat), i + k = n ->
    LOfO N (t + k + 1) R.flatten n (!Nat.beq i 0) (R.take i).flatten i (i : Int) = some (.sl R.flatten 38 n none)
  | 0, i, t, e => by
    have hi : i = R.length := by omega
    obtain ⟨s1, s2, s3⟩ := seal_ok hR (by decide)
    rw [of1, cond_f (show decide ((i : Int) < (n : Int)) = false from by simp; omega), hi, List.take_length, show (38 : Nat) = KOp.length from rfl, asks_of s1, asks_of s2, s3, hl]
  | k + 1, i, t, e => by
    have hi : i < R.length := by omega
    have hp := op_at hR hi
    have hx := rowsOk_get hR (List.getElem_mem hi)
    have hu : askO R[i] = true := by unfold askO; rw [hx.1, hx.2]; rfl
    have hg := opG_ok hu
    have hc : oldL 0 R.flatten = true := rows_old hR
    rw [show t + (k + 1) + 1 = (t + k + 1) + 1 from by omega, of1, cond_t (show decide ((i : Int) < (n : Int)) = true from by simp; omega), asks_of (cons_ok (inside (by omega : i < n)) (cons_ok (by rw [Int.toNat_natCast]; exact hp.2) rfl)), hp.1,
      asks_of (cons_ok (ox_ok hu _ _) (cons_ok (ox_ok hu _ _) rfl)), asks_of (cons_ok (ox_ok hu _ _) (cons_ok (ox_ok hu _ _) rfl)), asks_of (ask1 (by rw [hg.1, hg.2]; rfl)), asks_of (ask1 (ox_ok hu _ _)),
      show (38 : Nat) = KOp.length from rfl, grow_ok hR hi (by omega), asks_of (cons_ok hc (cons_ok hc rfl)), asks_of (ask1 (rows_old (rowsOk_take hR (i + 1)))), wrap_succ (by omega : i < 9223372036854775807)]
    exact of_loop hR hl hn k (i + 1) t (by omega)
def gOfO (xs : List PV) : Option (Bool × PV) := match xs with
  | [.sl c e n none] => some (Nat.beq e 38 && rowsC KOp n c, .sl c 38 n none)
  | _ => none
theorem runOfO (xs : List PV) (v : PV) (hg : gOfO xs = some (true, v)) : ∃ H, apartS EN TOg H 1000009 5 8 xs = some v := by
  unfold gOfO at hg
  split at hg
  . rename_i c e n
    simp only [Option.some.injEq, Prod.mk.injEq, Bool.and_eq_true] at hg
    obtain ⟨⟨he, hrc⟩, rfl⟩ := hg
    rw [Nat.eq_of_beq_eq_true he]
    obtain ⟨r1, r2, r3, r4⟩ := rowsC_ok hrc
    rw [show KOp.length = 38 from rfl] at r2 r3 r4
    have main := of_loop (N := 1000009) r2 r4 r1 n 0 (1000008 - n) (by omega)
    rw [show 1000008 - n + n + 1 = 1000009 from by omega, r3] at main
    exact ⟨HOfO, (of0 1000009 c n).trans main⟩
  . cases hg
end
section
open St
noncomputable def TLo : Table := TaddT T0 5 gLongT
def slLo (c : List PV) (n : Nat) (k i : Int) : List (Nat × PV) := [(0, .sl c 38 n none), (1, vI k), (4, .bool false), (7, .sl c 38 n none), (8, vI n), (9, vI k), (10, .bool false), (11, .sl c 38 n none), (12, vI n), (13, vI i)]
noncomputable def LLo (N m : Nat) (c : List PV) (n : Nat) (k i : Int) : Option PV := loopS EN TLo H0 N 5 6 Tryz.f6 [1, 1, 0, 1, 0] (patOf (sparse 29 0 (slLo [] 0 0 0))) 0 m (sparse 29 0 (slLo c n k i)) []
def oneR (u : List PV) : Rw := ⟨1, opF u, 1, opG u, 1, opI u⟩
theorem lo0 (N : Nat) (c : List PV) (n : Nat) (k : Int) : apartS EN TLo H0 N 5 6 [.sl c 38 n none, .int .i64 k] = (bif decide ((n : Int) > k) then some (.bool true) else LLo N N c n k 0) := by kernel_rfl
theorem lo1 (N m : Nat) (c : List PV) (n : Nat) (k i : Int) : LLo N (m + 1) c n k i =
  (bif decide (i < (n : Int)) then
    (asks [decide (0 <= i) && decide (i < (n : Int)), okAt KOp c (i.toNat * 38)] <| asks [oldL 0 (opG (opAt c i)), oldL 0 (opI (opAt c i))] <| asks [(oneR (opAt c i)).ok0] <|
     bif (oneR (opAt c i)).longR then some (.bool true) else asks [oldL 0 c, oldL 0 c, oldL 0 c] <| LLo N m c n k (IntKind.i64.wrap (i + 1)))
  else some (.bool false)) := by kernel_rfl
theorem oneR_ok0 {u : List PV} (h : askO u = true) : (oneR u).ok0 = true := by
  have a : ∀ {K : List Kd} {x : List PV}, wk K x = true /\ oldL 0 x = true -> rowsC K 1 x = true := fun {K x} hx => by
    have := rowsC_of (K := K) (R := [x]) (by unfold rowsOk; simp [hx.1, hx.2]) (by simp)
    simpa using this
  unfold Rw.ok0 oneR
  dsimp only
  rw [a (opF_ok h), a (opG_ok h), a (opI_ok h)]
  rfl
theorem lo_loop {N n : Nat} {k0 : Int} {R : List (List PV)} (hR : rowsOk KOp R = true) (hl : R.length = n) (hn : n <= 1000000) : ∀ (k i t : Nat), i + k = n ->
    LLo N (t + k + 1) R.flatten n k0 (i : Int) = some (.bool ((R.drop i).any fun u => (oneR u).longR))
  | 0, i, t, e => by
    rw [lo1, cond_f (show decide ((i : Int) < (n : Int)) = false from by simp; omega), List.drop_eq_nil_of_le (by omega)]
    rfl
  | k + 1, i, t, e => by
    have hi : i < R.length := by omega
    have hp := op_at hR hi
    have hx := rowsOk_get hR (List.getElem_mem hi)
    have hu : askO R[i] = true := by unfold askO; rw [hx.1, hx.2]; rfl
    have hc : oldL 0 R.flatten = true := rows_old hR
    rw [show t + (k + 1) + 1 = (t + k + 1) + 1 from by omega, lo1, cond_t (show decide ((i : Int) < (n : Int)) = true from by simp; omega), asks_of (cons_ok (inside (by omega : i < n)) (cons_ok (by rw [Int.toNat_natCast]; exact hp.2) rfl)), hp.1,
      asks_of (cons_ok (opG_ok hu).2 (cons_ok (opI_ok hu).2 rfl)), asks_of (ask1 (oneR_ok0 hu)), asks_of (cons_ok hc (cons_ok hc (cons_ok hc rfl))), wrap_succ (by omega : i < 9223372036854775807), lo_loop hR hl hn k (i + 1) t (by omega), List.drop_eq_getElem_cons hi, List.any_cons]
    cases (oneR R[i]).longR <;> rfl
def gLo (xs : List PV) : Option Tr := match xs with
  | [.sl c e n none, .int .i64 k] => some (.br (decide ((n : Int) > k)) (.leaf (Nat.beq e 38) (.bool true)) (.leaf (Nat.beq e 38 && rowsC KOp n c) (.bool ((chunks 38 n c).any fun u => (oneR u).longR))))
  | _ => none
theorem runLo (xs : List PV) (t : Tr) (v : PV) (hg : gLo xs = some t) (hv : t.val = some v) : ∃ H, apartS EN TLo H 1000009 5 6 xs = some v := by
  unfold gLo at hg
  split at hg
  . rename_i c e n k
    cases hg
    refine ⟨H0, ?_⟩
    cases hk : decide ((n : Int) > k) with
    | true =>
      rw [hk] at hv
      obtain ⟨he, rfl⟩ := leaf_val (show (Tr.leaf (Nat.beq e 38) (.bool true)).val = some v from hv)
      rw [Nat.eq_of_beq_eq_true he, lo0, hk]
      rfl
    | false =>
      rw [hk] at hv
      obtain ⟨hc, rfl⟩ := leaf_val (show (Tr.leaf (Nat.beq e 38 && rowsC KOp n c) (.bool ((chunks 38 n c).any fun u => (oneR u).longR))).val = some v from hv)
      simp only [Bool.and_eq_true] at hc
      obtain ⟨r1, r2, r3, r4⟩ := rowsC_ok hc.2
      rw [show KOp.length = 38 from rfl] at r2 r3 r4
      have main := lo_loop (N := 1000009) (k0 := k) r2 r4 r1 n 0 (1000008 - n) (by omega)
      rw [show 1000008 - n + n + 1 = 1000009 from by omega, r3] at main
      rw [Nat.eq_of_beq_eq_true hc.1, lo0, hk]
      exact main
  . cases hg
end
section
open St
def keyOf2 (u : List PV) (p : Nat) : PV := .agg [.str (asS (u.getD p .nilp)), .str (asS (u.getD (p + 1) .nilp))]
def svcT (u : List PV) : PV :=
  bif opK u == 1 then keyOf2 u 20 else bif opK u == 2 then keyOf2 u 20 else bif opK u == 3 then keyOf2 u 27 else bif opK u == 4 then keyOf2 u 27 else bif opK u == 5 then keyOf2 u 35 else bif opK u == 6 then keyOf2 u 35 else .agg [.str [], .str []]
def svcO (u : List PV) : Option PV :=
  bif opK u == 1 then some (keyOf2 u 20) else bif opK u == 2 then some (keyOf2 u 20) else bif opK u == 3 then some (keyOf2 u 27) else bif opK u == 4 then some (keyOf2 u 27) else bif opK u == 5 then some (keyOf2 u 35) else bif opK u == 6 then some (keyOf2 u 35) else some (.agg [.str [], .str []])
theorem svcO_eq (u : List PV) : svcO u = some (svcT u) := by
  unfold svcO svcT
  cases opK u == 1 <;> cases opK u == 2 <;> cases opK u == 3 <;> cases opK u == 4 <;> cases opK u == 5 <;> cases opK u == 6 <;> rfl
def svR (u : List PV) : List PV := bif kF u then [.str (asS (u.getD 20 .nilp)), .str (asS (u.getD 21 .nilp))] else bif kG u then [.str (asS (u.getD 27 .nilp)), .str (asS (u.getD 28 .nilp))] else bif kI u then [.str (asS (u.getD 35 .nilp)), .str (asS (u.getD 36 .nilp))] else [.str [], .str []]
def svA (u : List PV) : List UInt8 := asS ((svR u).getD 0 .nilp)
def svB (u : List PV) : List UInt8 := asS ((svR u).getD 1 .nilp)
theorem svc_eq (u : List PV) : svcT u = .agg [.str (svA u), .str (svB u)] := by
  unfold svcT svA svB svR kF kG kI keyOf2
  cases opK u == 1 <;> cases opK u == 2 <;> cases opK u == 3 <;> cases opK u == 4 <;> cases opK u == 5 <;> cases opK u == 6 <;> rfl
theorem svP (N : Nat) (u : List PV) : apartS EN T0 H0 N 5 15 [.agg (shapeAt KOp u 0)] = svcO (shapeAt KOp u 0) := by kernel_rfl
theorem svQ (N : Nat) (u : List PV) : apartS EN T0 H0 N 5 16 [.agg (shapeAt KOp u 0)] = svcO (shapeAt KOp u 0) := by kernel_rfl
def gSv (xs : List PV) : Option (Bool × PV) := match xs with
  | [.agg u] => some (askO u, .agg [.str (svA u), .str (svB u)])
  | _ => none
theorem runSv {f : Nat} (ht : ∀ (N : Nat) (u : List PV), apartS EN T0 H0 N 5 f [.agg (shapeAt KOp u 0)] = svcO (shapeAt KOp u 0)) (xs : List PV) (v : PV) (h : gSv xs = some (true, v)) : ∃ H, apartS EN T0 H 1000009 5 f xs = some v := by
  unfold gSv at h
  split at h
  . rename_i u
    simp only [Option.some.injEq, Prod.mk.injEq] at h
    obtain ⟨hu, rfl⟩ := h
    have t := ht 1000009 u
    rw [op_of hu, svcO_eq, svc_eq] at t
    exact ⟨H0, t⟩
  . cases h
end
end Go.Proofs.YtpbemfikhmeedaaGreatDoor.Am
