/- linkboylaw25.alive; the errors' numbers. -/
import Derived.Test.YtpbemfikhmeedaaGreatDoorMT4
import Derived.Test.YtpbemfikhmeedaaGreatDoorMZSymRun
import Derived.Test.YtpbemfikhmeedaaGreatDoorMK
set_option linter.unusedVariables false
set_option linter.unusedSimpArgs false
set_option maxRecDepth 1000000
set_option maxHeartbeats 8000000
namespace Go.Proofs.YtpbemfikhmeedaaGreatDoor.Am
section
open St
theorem alive25 : apartA EN (runA EN 1000009 80) 4 [] = some (.bool true) := isTrue_eq (by kernel_rfl)
def isNumX (n : Nat) : Option PV -> Bool
  | some (.int .i64 (.ofNat k)) => Nat.beq k n
  | _ => false
theorem isNumX_eq {n : Nat} : ∀ {x : Option PV}, isNumX n x = true -> x = some (.int .i64 n)
  | some (.int .i64 (.ofNat k)), h => by
    have : k = n := Nat.eq_of_beq_eq_true h
    rw [this]; rfl
theorem num0 : apartA EN (runA EN 1000009 20) 11 [.nilif] = some (.int .i64 0) := isNumX_eq (n := 0) (by kernel_rfl)
theorem num7 : apartA EN (runA EN 1000009 20) 11 [errK] = some (.int .i64 7) := isNumX_eq (n := 7) (by kernel_rfl)
theorem num11 : apartA EN (runA EN 1000009 20) 11 [errN] = some (.int .i64 11) := isNumX_eq (n := 11) (by kernel_rfl)
def gNm (xs : List PV) : Option (Bool × PV) := match xs with
  | [.nilif] => some (true, vI 0)
  | [.iface t (.gptr g)] => some (Nat.beq t 195 && (Nat.beq g 6 || Nat.beq g 10), vI (bif Nat.beq g 6 then 7 else 11))
  | _ => none
theorem runNm (xs : List PV) (v : PV) (h : gNm xs = some (true, v)) : apartA EN (runA EN 1000009 20) 11 xs = some v := by
  unfold gNm at h
  split at h
  . cases h; exact num0
  . rename_i t g
    simp only [Option.some.injEq, Prod.mk.injEq, Bool.and_eq_true] at h
    obtain ⟨⟨h1, h2⟩, rfl⟩ := h
    have h1 := Nat.eq_of_beq_eq_true h1
    subst h1
    cases hk : Nat.beq g 6 with
    | true =>
      rw [Nat.eq_of_beq_eq_true hk]
      exact num7
    | false =>
      rw [hk, Bool.false_or] at h2
      rw [Nat.eq_of_beq_eq_true h2]
      exact num11
  . cases h
def gYesX (xs : List PV) : Option (Bool × PV) := match xs with
  | [] => some (true, .bool true)
  | _ => none
theorem TR.yesX {T : Table} (hT : TR T) : TR (Tadd T 4 gYesX) := by
  obtain ⟨K, hT⟩ := hT
  refine ⟨K + 80, Tadd_of (hT.le (runA_le' _ (by omega))) (fun xs v hg => ?_) rfl⟩
  unfold gYesX at hg
  split at hg
  . cases hg
    exact apartA_le (runA_le' _ (by omega)) alive25
  . cases hg
theorem TR.num {T : Table} (hT : TR T) : TR (Tadd T 11 gNm) := by
  obtain ⟨K, hT⟩ := hT
  exact ⟨K + 80, Tadd_of (hT.le (runA_le' _ (by omega))) (fun xs v hg => apartA_le (runA_le' _ (by omega)) (runNm xs v hg)) rfl⟩
end
section
open St
theorem e0SKy (N : Nat) (c d : List PV) (n m : Nat) : apartS EN T0 H0 N 5 17 [.sl c 2 n none, .sl d 2 m none] = (bif (n : Int) != (m : Int) then some (.bool false) else LEq 17 Tryz.f17 2 N N c d n m 0) := by kernel_rfl
theorem e1SKy (N q : Nat) (c d : List PV) (n m : Nat) (i : Int) : LEq 17 Tryz.f17 2 N (q + 1) c d n m i = rndE KKy 2 eqK2 n m c d i (LEq 17 Tryz.f17 2 N q c d n m) := by kernel_rfl
end
section
open St
noncomputable def TTo : Table := Tadd (Tadd (Tadd (Tadd T0 15 gSv) 16 gSv) 32 gSortK) 33 gSortK
theorem TTook : TR TTo := (((TR0.add TR0 (runSv svP)).add TR0 (runSv svQ)).add TCmok runSortP).add TKrok runSortK
def HTo : FuncId -> Hint := fun f t => bif (Nat.beq f 18 && Nat.beq t 19) || (Nat.beq f 19 && Nat.beq t 25) then [none, some false] else []
def curT (b : Bool) (k : Nat) : PV := bif b then .osl 0 k 0 2 k none else .nils
def curT' (b : Bool) (k : Nat) : PV := bif b then .osl 0 k 0 2 k none else .sl [] 2 0 (some 0)
def slTp (c : List PV) (n : Nat) (b : Bool) (k : Nat) (i : Int) : List (Nat × PV) := [(0, .sl c 38 n none), (2, .nils), (3, curT b k), (6, .sl c 38 n none), (7, vI n), (8, vI i)]
def slTr (c : List PV) (n : Nat) (b : Bool) (k : Nat) (i : Int) : List (Nat × PV) := [(0, .sl c 38 n none), (2, .nils), (3, curT' b k), (6, .sl [] 2 0 (some 0)), (7, .sl c 38 n none), (8, vI n), (9, vI i)]
noncomputable def LTp (N m : Nat) (c : List PV) (n : Nat) (b : Bool) (ac : List PV) (k : Nat) (i : Int) : Option PV := loopS EN TTo HTo N 5 18 Tryz.f18 [1, 1, 0, 1, 0] (patOf (sparse 23 0 (slTp [] 0 false 0 0))) 0 m (sparse 23 0 (slTp c n b k i)) (accO b ac 2 k)
noncomputable def LTr (N m : Nat) (c : List PV) (n : Nat) (b : Bool) (ac : List PV) (k : Nat) (i : Int) : Option PV := loopS EN TTo HTo N 5 19 Tryz.f19 [1, 1, 0, 1, 0] (patOf (sparse 29 0 (slTr [] 0 false 0 0))) 0 m (sparse 29 0 (slTr c n b k i)) (accO b ac 2 k)
def rowT (u : List PV) : List PV := [.str (svA u), .str (svB u)]
def allT (b : Bool) (ac : List PV) (k : Nat) : List PV := bif b then (ac.drop 0).take (k * 2) else []
def exT (b : Bool) (ac : List PV) (k : Nat) : Option PV :=
  asks (ifb b (sealAsk ac k 2)) <| asks [oldL 0 (allT b ac k)] <| asks [Nat.beq 2 2 && rowsC KKy (bif b then k else 0) (allT b ac k)] <| asks [oldL 0 (sortU (chunks 2 (bif b then k else 0) (allT b ac k))).flatten] <|
  some (.sl (sortU (chunks 2 (bif b then k else 0) (allT b ac k))).flatten 2 (sortU (chunks 2 (bif b then k else 0) (allT b ac k))).length none)
def rndT (c : List PV) (n : Nat) (b : Bool) (ac : List PV) (k : Nat) (i : Int) (g : Bool -> List PV -> Nat -> Int -> Option PV) : Option PV :=
  bif decide (i < (n : Int)) then
    (asks [decide (0 <= i) && decide (i < (n : Int)), okAt KOp c (i.toNat * 38)] <|
     bif decide (opK (opAt c i) ≥ 1) then
       (bif decide (opK (opAt c i) <= 6) then (asks (oOld 0 (opAt c i)) <| asks [askO (opAt c i)] <| grow b ac k 2 (rowT (opAt c i)) fun a' k' => asks [oldL 0 c, oldL 0 c] <| asks [oldL 0 a'] <| g true a' k' (IntKind.i64.wrap (i + 1)))
        else (asks [oldL 0 c, oldL 0 c] <| asks (ifb b [oldL 0 ac]) <| g b ac k (IntKind.i64.wrap (i + 1))))
     else (asks [oldL 0 c, oldL 0 c] <| asks (ifb b [oldL 0 ac]) <| g b ac k (IntKind.i64.wrap (i + 1))))
  else exT b ac k
theorem tp0 (N : Nat) (c : List PV) (n : Nat) : apartS EN TTo HTo N 5 18 [.sl c 38 n none] = LTp N N c n false [] 0 0 := by kernel_rfl
theorem tr0 (N : Nat) (c : List PV) (n : Nat) : apartS EN TTo HTo N 5 19 [.sl c 38 n none] = LTr N N c n false [] 0 0 := by kernel_rfl
theorem tp1 (N m : Nat) (c : List PV) (n : Nat) (b : Bool) (ac : List PV) (k : Nat) (i : Int) : LTp N (m + 1) c n b ac k i = rndT c n b ac k i (LTp N m c n) := by cases b <;> kernel_rfl
theorem tr1 (N m : Nat) (c : List PV) (n : Nat) (b : Bool) (ac : List PV) (k : Nat) (i : Int) : LTr N (m + 1) c n b ac k i = rndT c n b ac k i (LTr N m c n) := by cases b <;> kernel_rfl
end
section
open St
def keysT (R : List (List PV)) : List (List PV) := (R.filter known).map rowT
theorem rowT_ok (u : List PV) : wk KKy (rowT u) = true /\ oldL 0 (rowT u) = true := ⟨rfl, rfl⟩
theorem keysT_ok (R : List (List PV)) : rowsOk KKy (keysT R) = true := by
  unfold rowsOk keysT
  rw [List.all_eq_true]
  intro x hx
  obtain ⟨u, _, rfl⟩ := List.mem_map.1 hx
  rw [(rowT_ok u).1, (rowT_ok u).2]
  rfl
theorem keysT_yes {u : List PV} (L : List (List PV)) (h : known u = true) : keysT (u :: L) = rowT u :: keysT L := by unfold keysT; rw [List.filter_cons_of_pos (by simp [h]), List.map_cons]
theorem keysT_no {u : List PV} (L : List (List PV)) (h : known u = false) : keysT (u :: L) = keysT L := by unfold keysT; rw [List.filter_cons_of_neg (by simp [h])]
theorem t_loop {n : Nat} {R : List (List PV)} {g : Nat -> Bool -> List PV -> Nat -> Int -> Option PV} (hg : ∀ m b ac k i, g (m + 1) b ac k i = rndT R.flatten n b ac k i (g m)) (hR : rowsOk KOp R = true) (hl : R.length = n) (hn : n <= 1000000) : ∀ (k i t : Nat) (A : List (List PV)), i + k = n -> rowsOk KKy A = true -> A.length <= i ->
    g (t + k + 1) (!Nat.beq A.length 0) A.flatten A.length (i : Int) = some (.sl (sortU (A ++ keysT (R.drop i))).flatten 2 (sortU (A ++ keysT (R.drop i))).length none)
  | 0, i, t, A, e, hA, hle => by
    have hd : R.drop i = [] := List.drop_eq_nil_of_le (by omega)
    obtain ⟨s1, s2, s3⟩ := seal_ok hA (by decide)
    have e1 : (bif !Nat.beq A.length 0 then A.length else 0) = A.length := by cases A <;> rfl
    have e2 : allT (!Nat.beq A.length 0) A.flatten A.length = A.flatten := by
      unfold allT
      cases A with
      | nil => rfl
      | cons a A => exact take_all _ (rows_len hA)
    have hU := sortU_ok hA
    rw [hg]
    unfold rndT exT
    rw [cond_f (show decide ((i : Int) < (n : Int)) = false from by simp; omega), e1, e2, show (2 : Nat) = KKy.length from rfl, asks_of s1, asks_of (ask1 (rows_old hA)), chunks_of hA, asks_of (ask1 (by rw [rowsC_of hA (by omega)]; rfl)), asks_of (ask1 (rows_old hU)), hd]
    simp [keysT]
  | k + 1, i, t, A, e, hA, hle => by
    have hi : i < R.length := by omega
    have hp := op_at hR hi
    have hx := rowsOk_get hR (List.getElem_mem hi)
    have hu : askO R[i] = true := by unfold askO; rw [hx.1, hx.2]; rfl
    have hc : oldL 0 R.flatten = true := rows_old hR
    have hS : rowsOk KKy (A ++ [rowT R[i]]) = true := rows_app hA (by unfold rowsOk; simp [rowT_ok])
    have skip := t_loop hg hR hl hn k (i + 1) t A (by omega) hA (by omega)
    have take := t_loop hg hR hl hn k (i + 1) t (A ++ [rowT R[i]]) (by omega) hS (by simp; omega)
    rw [(snocN A _).1, (snocN A _).2] at take
    rw [show t + (k + 1) + 1 = (t + k + 1) + 1 from by omega, hg, List.drop_eq_getElem_cons hi]
    unfold rndT
    rw [cond_t (show decide ((i : Int) < (n : Int)) = true from by simp; omega), asks_of (cons_ok (inside (by omega : i < n)) (cons_ok (by rw [Int.toNat_natCast]; exact hp.2) rfl)), hp.1,
      asks_of (oOld_ok hu 0), asks_of (ask1 hu), show (2 : Nat) = KKy.length from rfl, growA hA (by omega), asks_of (cons_ok hc (cons_ok hc rfl)), asks_of (ask1 (rows_old hS)), asks_of (cons_ok hc (cons_ok hc rfl)), asks_of (ifk (ask1 (rows_old hA))), wrap_succ (by omega : i < 9223372036854775807), skip, take]
    have hk : known R[i] = (decide (opK R[i] ≥ 1) && decide (opK R[i] <= 6)) := rfl
    cases h1 : decide (opK R[i] ≥ 1) <;> cases h6 : decide (opK R[i] <= 6) <;> rw [h1, h6] at hk
    . rw [keysT_no _ hk]; rfl
    . rw [keysT_no _ hk]; rfl
    . rw [keysT_no _ hk]; rfl
    . rw [keysT_yes _ hk, List.append_assoc, List.singleton_append]; rfl
def gTo (xs : List PV) : Option (Bool × PV) := match xs with
  | [.sl c e n none] => some (Nat.beq e 38 && rowsC KOp n c, .sl (sortU (keysT (chunks 38 n c))).flatten 2 (sortU (keysT (chunks 38 n c))).length none)
  | _ => none
theorem runTo {f : Nat} {g : Nat -> Nat -> List PV -> Nat -> Bool -> List PV -> Nat -> Int -> Option PV} (h0 : ∀ N c n, apartS EN TTo HTo N 5 f [.sl c 38 n none] = g N N c n false [] 0 0) (h1 : ∀ N m c n b ac k i, g N (m + 1) c n b ac k i = rndT c n b ac k i (g N m c n))
    (xs : List PV) (v : PV) (hg : gTo xs = some (true, v)) : ∃ H, apartS EN TTo H 1000009 5 f xs = some v := by
  unfold gTo at hg
  split at hg
  . rename_i c e n
    simp only [Option.some.injEq, Prod.mk.injEq, Bool.and_eq_true] at hg
    obtain ⟨⟨he, hrc⟩, rfl⟩ := hg
    rw [Nat.eq_of_beq_eq_true he]
    obtain ⟨r1, r2, r3, r4⟩ := rowsC_ok hrc
    rw [show KOp.length = 38 from rfl] at r2 r3 r4
    have main := t_loop (n := n) (g := fun m => g 1000009 m (chunks 38 n c).flatten n) (fun m b ac k i => h1 1000009 m _ n b ac k i) r2 r4 r1 n 0 (1000008 - n) [] (by omega) rfl (by simp)
    rw [show 1000008 - n + n + 1 = 1000009 from by omega, r3] at main
    exact ⟨HTo, (h0 1000009 c n).trans main⟩
  . cases hg
end
section
open St
noncomputable def TX1 : Table := Tadd T0 4 gYesX
noncomputable def TX2 : Table := Tadd TX1 11 gNm
noncomputable def TX3 : Table := TaddT (TaddT TX2 5 gLongT) 6 gLo
noncomputable def TX4 : Table := Tadd (Tadd TX3 7 gOf) 8 gOfO
noncomputable def TX5 : Table := Tadd (TaddT TX4 9 gSt) 10 gRs
noncomputable def TX6 : Table := TaddT (TaddT TX5 13 gDo) 14 gRd
noncomputable def TX7 : Table := Tadd (Tadd TX6 15 gSv) 16 gSv
noncomputable def TX8 : Table := Tadd (Tadd TX7 18 gTo) 19 gTo
noncomputable def TX : Table := Tadd (Tadd TX8 17 (gEq KKy 2 eqK2)) 12 gSame
theorem TX2ok : TR TX2 := TR0.yesX.num
theorem TX4ok : TR TX4 := (((TX2ok.addT TR0 runLongT).addT (TR0.addT TR0 runLongT) runLo).add TGrpok runOf).add TGrpok runOfO
theorem TX6ok : TR TX6 := (((TX4ok.addT TStok runSt).add (TR0.addT TRdok runRd) runRs).addT TDook runDo).addT TRdok runRd
theorem TXok : TR TX := (((((TX6ok.add TR0 (runSv svP)).add TR0 (runSv svQ)).add TTook (runTo tp0 tp1)).add TTook (runTo tr0 tr1)).add TR0 (runEq rfl e0SKy e1SKy)).add TQ2ok runRS
end
end Go.Proofs.YtpbemfikhmeedaaGreatDoor.Am
