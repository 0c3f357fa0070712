/- The document's Join: the loops over fronts, groups, filters. -/
import Derived.Test.YtpbemfikhmeedaaGreatDoorMZTxRuG
import Derived.Test.YtpbemfikhmeedaaGreatDoorMZTxRuD
set_option linter.unusedVariables false
set_option linter.unusedSimpArgs false
set_option maxRecDepth 100000
set_option maxHeartbeats 8000000
namespace Go.Proofs.YtpbemfikhmeedaaGreatDoor.Am
section
open St
theorem okAt_pre : ∀ {K K' : List Kd} {c : List PV} {k : Nat}, okAt (K ++ K') c k = true -> okAt K c k = true
  | [], _, _, _, _ => rfl
  | x :: K, K', c, k, h => by
    simp only [List.cons_append, okAt, Bool.and_eq_true] at h ⊢
    exact ⟨h.1, okAt_pre h.2⟩
theorem rows_fold {K : List Kd} {lt : List PV -> List PV -> Bool} {A R : List (List PV)} (hA : rowsOk K A = true) (hR : rowsOk K R = true) : rowsOk K (foldI lt A R) = true := by
  unfold rowsOk at hA hR ⊢
  rw [List.all_eq_true] at hA hR ⊢
  intro x hx
  rcases foldI_mem lt R A x hx with h | h
  . exact hA x h
  . exact hR x h
structure CX (J : JS) (r : Rw) (F G I : List (List PV)) : Prop where
  c : oldL 0 J.c = true
  ok : r.ok = true
  f : rowsOk KFr F = true
  g : rowsOk KGr G = true
  i : rowsOk KFi I = true
  bf : J.bf = !Nat.beq F.length 0
  bg : J.bg = !Nat.beq G.length 0
  bi : J.bi = !Nat.beq I.length 0
  af : J.af = F.flatten
  ag : J.ag = G.flatten
  ai : J.ai = I.flatten
  kf : J.kf = F.length
  kg : J.kg = G.length
  ki : J.ki = I.length
  mf : F.length + r.nf <= 1000000
  mg : G.length + r.ng <= 1000000
  mi : I.length + r.ni <= 1000000
theorem CX.rc {J : JS} {r : Rw} {F G I : List (List PV)} (X : CX J r F G I) (x : Nat) : oldL x r.fc = true /\ oldL x r.gc = true /\ oldL x r.ic = true /\ oldL x J.c = true := by
  have lx := Rw.lists X.ok
  exact ⟨by rw [<- lx.fc]; exact rows_oldn lx.f x, by rw [<- lx.gc]; exact rows_oldn lx.g x, by rw [<- lx.ic]; exact rows_oldn lx.i x, oldL_le (Nat.zero_le x) _ X.c⟩
theorem CX.oldJ {J : JS} {r : Rw} {F G I : List (List PV)} (X : CX J r F G I) (x : Nat) : (oldJ J x r).all id = true := by
  obtain ⟨h1, h2, h3, h4⟩ := X.rc x
  simp only [Am.oldJ, h1, h2, h3, h4, List.all_cons, List.all_nil, id, Bool.and_self]
theorem CX.oldR {J : JS} {r : Rw} {F G I : List (List PV)} (X : CX J r F G I) (x : Nat) : (oldR x r).all id = true := by
  obtain ⟨h1, h2, h3, h4⟩ := X.rc x
  simp only [Am.oldR, h1, h2, h3, h4, List.all_cons, List.all_nil, id, Bool.and_self]
theorem CX.old3 {J : JS} {r : Rw} {F G I : List (List PV)} (X : CX J r F G I) (x : Nat) : ([oldL x r.fc, oldL x r.gc, oldL x r.ic]).all id = true := X.oldR x
theorem CX.asksO {J : JS} {r : Rw} {F G I : List (List PV)} (X : CX J r F G I) (k : Option PV) : asksO J k = k := by
  unfold Am.asksO
  rw [X.af, X.ag, X.ai, asks_of (ifb_old X.f _), asks_of (ifb_old X.g _), asks_of (ifb_old X.i _)]
theorem cur_st {lt : List PV -> List PV -> Bool} {A R : List (List PV)} {i : Nat} : (bif !Nat.beq i 0 then acA lt A R i else bif !Nat.beq A.length 0 then A.flatten else []) = (foldI lt A (R.take i)).flatten := by
  cases i with
  | zero => cases A <;> rfl
  | succ i => rfl
theorem curN_st {lt : List PV -> List PV -> Bool} {A R : List (List PV)} {i : Nat} : curN (!Nat.beq i 0) (!Nat.beq A.length 0) (acK lt A R i) A.length = (foldI lt A (R.take i)).length := by
  cases i with
  | zero => cases A <;> rfl
  | succ i => rfl
theorem ifb1 {a : List PV} (h : oldL 0 a = true) (b : Bool) : (ifb b [oldL 0 a]).all id = true := by
  rw [h]
  cases b <;> rfl
theorem acA_o {K : List Kd} {lt : List PV -> List PV -> Bool} {A R : List (List PV)} (hA : rowsOk K A = true) (hR : rowsOk K R = true) (i : Nat) : oldL 0 (acA lt A R i) = true := by
  cases i with
  | zero => rfl
  | succ i => exact rows_old (rows_fold hA (rowsOk_take hR (i + 1)))
theorem acA_old {K : List Kd} {lt : List PV -> List PV -> Bool} {A R : List (List PV)} (hA : rowsOk K A = true) (hR : rowsOk K R = true) (i : Nat) (b : Bool) : (ifb b [oldL 0 (acA lt A R i)]).all id = true := by
  have : oldL 0 (acA lt A R i) = true := by
    cases i with
    | zero => rfl
    | succ i => exact rows_old (rows_fold hA (rowsOk_take hR (i + 1)))
  rw [this]
  cases b <;> rfl
theorem lrpF {N m : Nat} {J : JS} {r : Rw} {F G I : List (List PV)} (X : CX J r F G I) (hN : 1000002 <= N)  (q : Nat) :
    LRF N m (q + r.nf + 1) J r nS  0 = LRG N m N J r ⟨!Nat.beq r.nf 0, acA (ltOf rFr) F r.F r.nf, acK (ltOf rFr) F r.F r.nf, false, [], 0, false, [], 0⟩ (r.nf : Int) 0 := by
  have lx := Rw.lists X.ok
  have hR := lx.f
  have hl := lx.nf
  have hmax := X.mf
  refine mid_loop (L := fun q i => LRF N m q J r ⟨!Nat.beq i 0, acA (ltOf rFr) F r.F i, acK (ltOf rFr) F r.F i, false, [], 0, false, [], 0⟩  (i : Int)) ?_ ?_ q
  . intro q i hi
    have hiR : i < r.F.length := by omega
    have hA : rowsOk KFr (foldI (ltOf rFr) F (r.F.take i)) = true := rows_fold X.f (rowsOk_take hR i)
    have hlen : (foldI (ltOf rFr) F (r.F.take i)).length = F.length + i := by rw [foldI_len, List.length_take, Nat.min_eq_left (by omega)]
    have hnxt : foldI (ltOf rFr) F (r.F.take (i + 1)) = ins (ltOf rFr) r.F[i] (foldI (ltOf rFr) F (r.F.take i)) := by rw [List.take_succ_eq_append_getElem hiR, foldI_snoc]
    have hrow : rowF r (i : Int) = r.F[i] := by
      unfold rowF
      rw [Int.toNat_natCast, <- lx.fc, show 26 = KFr.length from rfl]
      exact (rows_at0 hR hiR).2
    have hxl : r.F[i].length = KFr.length := wk_len (rowsOk_get hR (List.getElem_mem hiR)).1
    have hcur : J.curF ⟨!Nat.beq i 0, acA (ltOf rFr) F r.F i, acK (ltOf rFr) F r.F i, false, [], 0, false, [], 0⟩ = (foldI (ltOf rFr) F (r.F.take i)).flatten := by
      unfold JS.curF
      dsimp only
      rw [X.bf, X.af]
      exact cur_st
    have hcn : curN (!Nat.beq i 0) J.bf (acK (ltOf rFr) F r.F i) J.kf = (foldI (ltOf rFr) F (r.F.take i)).length := by
      rw [X.bf, X.kf]
      exact curN_st
    have hac := acA_old (lt := ltOf rFr) X.f hR i
    skip
    show LRF N m (q + 1) J r ⟨!Nat.beq i 0, acA (ltOf rFr) F r.F i, acK (ltOf rFr) F r.F i, false, [], 0, false, [], 0⟩  (i : Int) = LRF N m q J r ⟨!Nat.beq (i + 1) 0, acA (ltOf rFr) F r.F (i + 1), acK (ltOf rFr) F r.F (i + 1), false, [], 0, false, [], 0⟩  ((i + 1 : Nat) : Int)
    have hgo : ∀ ac k, ac = (foldI (ltOf rFr) F (r.F.take (i + 1))).flatten -> k = (foldI (ltOf rFr) F (r.F.take (i + 1))).length -> (asks (oldJ J (xF J) r) <| asksO J <| asks [oldL (xF J) r.fc, oldL (xF J) r.gc, oldL (xF J) r.ic] <| asks [oldL 0 ac] <| LRF N m q J r ⟨true, ac, k, false, [], 0, false, [], 0⟩ (IntKind.i64.wrap ((i : Int) + 1))) = LRF N m q J r ⟨!Nat.beq (i + 1) 0, acA (ltOf rFr) F r.F (i + 1), acK (ltOf rFr) F r.F (i + 1), false, [], 0, false, [], 0⟩  ((i + 1 : Nat) : Int) := by
      intro ac k h1 h2
      obtain ⟨o1, o2, o3, o4⟩ := X.rc (xF J)
      rw [h1, h2, asks_of (X.oldJ _), X.asksO, asks_of (X.old3 _), asks_of (ask1 (rows_old (rows_fold X.f (rowsOk_take hR (i + 1))))), wrap_succ (by omega : i < 9223372036854775807)]
      rfl
    rw [rF, cond_t (show decide ((i : Int) < (r.nf : Int)) = true from by simp; omega), asks_of (by
      simp only [Int.toNat_natCast]
      rw [inside hi, <- lx.fc, show 26 = KFr.length from rfl, (rows_at0 hR hiR).1]
      rfl), hcn]
    by_cases hz : (foldI (ltOf rFr) F (r.F.take i)).length = 0
    . have hi0 : i = 0 := by omega
      have hF0 : F = [] := List.eq_nil_of_length_eq_zero (by omega)
      subst hi0
      obtain ⟨s, rfl⟩ : ∃ s, N = s + 1 := ⟨N - 1, by omega⟩
      have e0 : ∀ x : List PV, (foldI (ltOf rFr) F (r.F.take (0 + 1))) = [r.F[0]] := by
        intro x
        rw [hnxt, hF0]
        rfl
      rw [hz]
      refine (rA0 _ _ _ s J r _ _ _ (by rw [X.bf, hF0]; rfl)).trans ?_
      skip
      exact hgo _ _ (by rw [hrow, e0 []]; simp) (by rw [e0 []]; rfl)
    . obtain ⟨s, hs⟩ : ∃ s, N = s + (foldI (ltOf rFr) F (r.F.take i)).length + 1 := ⟨N - 1 - (foldI (ltOf rFr) F (r.F.take i)).length, by omega⟩
      have hbc : (!Nat.beq i 0 || J.bf) = true := by
        rw [X.bf]
        cases i with
        | zero => rw [show F.length = (F.length - 1) + 1 from by omega]; rfl
        | succ i => rfl
      have hfin : ∀ t, t <= (foldI (ltOf rFr) F (r.F.take i)).length -> ∀ W0 W1 : List Bool, W0.all id = true -> W1.all id = true -> insT2 (foldI (ltOf rFr) F (r.F.take i)).flatten (foldI (ltOf rFr) F (r.F.take i)).length (t : Int) 26 r.F[i] W0 W1 (fun ac k => (asks (oldJ J (xF J) r) <| asksO J <| asks [oldL (xF J) r.fc, oldL (xF J) r.gc, oldL (xF J) r.ic] <| asks [oldL 0 ac] <| LRF N m q J r ⟨true, ac, k, false, [], 0, false, [], 0⟩ (IntKind.i64.wrap ((i : Int) + 1)))) = (fun ac k => (asks (oldJ J (xF J) r) <| asksO J <| asks [oldL (xF J) r.fc, oldL (xF J) r.gc, oldL (xF J) r.ic] <| asks [oldL 0 ac] <| LRF N m q J r ⟨true, ac, k, false, [], 0, false, [], 0⟩ (IntKind.i64.wrap ((i : Int) + 1)))) ((foldI (ltOf rFr) F (r.F.take i)).take t ++ r.F[i] :: (foldI (ltOf rFr) F (r.F.take i)).drop t).flatten ((foldI (ltOf rFr) F (r.F.take i)).length + 1) := by
        intro t ht W0 W1 w0 w1
        exact insT2_ok (K := KFr) hA hxl (by omega) ht (by omega) w0 w1 _
      have hpl := plc_le (ltOf rFr) r.F[i] (foldI (ltOf rFr) F (r.F.take i)) (foldI (ltOf rFr) F (r.F.take i)).length
      have main := at_loop (lt := ltOf rFr) (x := r.F[i]) (A := foldI (ltOf rFr) F (r.F.take i)) (L := fun s t => LRA N m q s J r ⟨!Nat.beq i 0, acA (ltOf rFr) F r.F i, acK (ltOf rFr) F r.F i, false, [], 0, false, [], 0⟩  (i : Int) (rowF r i) t) (fin := fun t => insT2 (foldI (ltOf rFr) F (r.F.take i)).flatten (foldI (ltOf rFr) F (r.F.take i)).length (t : Int) 26 r.F[i] [] [] (fun ac k => (asks (oldJ J (xF J) r) <| asksO J <| asks [oldL (xF J) r.fc, oldL (xF J) r.gc, oldL (xF J) r.ic] <| asks [oldL 0 ac] <| LRF N m q J r ⟨true, ac, k, false, [], 0, false, [], 0⟩ (IntKind.i64.wrap ((i : Int) + 1))))) (v := LRF N m q J r ⟨!Nat.beq (i + 1) 0, acA (ltOf rFr) F r.F (i + 1), acK (ltOf rFr) F r.F (i + 1), false, [], 0, false, [], 0⟩  ((i + 1 : Nat) : Int)) ?_ ?_ ?_ s
      . rw [<- hs] at main
        exact main
      . intro s t ht
        obtain ⟨o1, o2, o3, o4⟩ := X.rc (xE J ⟨!Nat.beq i 0, acA (ltOf rFr) F r.F i, acK (ltOf rFr) F r.F i, false, [], 0, false, [], 0⟩ + 1)
        have pa := part_at hA ht 0 (Nat.zero_le _)
        have pb := rows_at0 hR hiR
        simp only [List.drop_zero, Nat.add_zero] at pa
        have hcell : rFr (rowF r (i : Int)) (shapeAt KFr (foldI (ltOf rFr) F (r.F.take i)).flatten (0 + t * 26)) = rFr r.F[i] (foldI (ltOf rFr) F (r.F.take i))[t] := by
          have e1 : shapeAt KFr (foldI (ltOf rFr) F (r.F.take i)).flatten (0 + t * 26) = (foldI (ltOf rFr) F (r.F.take i))[t] := pa.2.1
          rw [hrow, e1]
        have hokc : okAt KFr (foldI (ltOf rFr) F (r.F.take i)).flatten (0 + t * 26) = true := pa.1
        show LRA N m q (s + 1) J r ⟨!Nat.beq i 0, acA (ltOf rFr) F r.F i, acK (ltOf rFr) F r.F i, false, [], 0, false, [], 0⟩  (i : Int) (rowF r i) ((t + 1 : Nat) : Int) = _
        rw [rA _ _ _ _ _ _ _ _ _ _ _ hbc, cond_t (show decide (((t + 1 : Nat) : Int) > 0) = true from by simp), wrap_pred (by omega : t < 9223372036854775807), hcn, hcur]
        simp only [Int.toNat_natCast]
        rw [asks_of (by simp only [inside ht, hokc, beq_self_eq_true, List.all_cons, List.all_nil, id, Bool.and_self])]
        simp only [hcell]
        show (bif decide (rFr r.F[i] (foldI (ltOf rFr) F (r.F.take i))[t] < 0) then _ else _) = bif ltOf rFr r.F[i] ((foldI (ltOf rFr) F (r.F.take i)).getD t []) then _ else _
        rw [getD_at ht, show ltOf rFr r.F[i] (foldI (ltOf rFr) F (r.F.take i))[t] = decide (rFr r.F[i] (foldI (ltOf rFr) F (r.F.take i))[t] < 0) from rfl]
        generalize decide (rFr r.F[i] (foldI (ltOf rFr) F (r.F.take i))[t] < 0) = b
        cases b
        . simp only [cond_false]
          rw [insT_eq, hrow]
        . simp only [cond_true]
          rw [asks_of (X.oldJ _), asks_of (ask1 o1), X.asksO, asks_of (X.old3 _), asks_of (hac _)]
      . intro s
        show LRA N m q (s + 1) J r ⟨!Nat.beq i 0, acA (ltOf rFr) F r.F i, acK (ltOf rFr) F r.F i, false, [], 0, false, [], 0⟩  (i : Int) (rowF r i) ((0 : Nat) : Int) = _
        rw [rA _ _ _ _ _ _ _ _ _ _ _ hbc, cond_f (by simp), hcn, hcur]
        rw [insT_eq, hrow]
      . rw [hfin _ hpl _ _ rfl rfl, plc_all]
        exact hgo _ _ (by rw [hnxt]) (by rw [hnxt, ins_len])
  . intro q
    show LRF N m (q + 1) J r ⟨!Nat.beq r.nf 0, acA (ltOf rFr) F r.F r.nf, acK (ltOf rFr) F r.F r.nf, false, [], 0, false, [], 0⟩  (r.nf : Int) = _
    rw [rF, cond_f (show decide ((r.nf : Int) < (r.nf : Int)) = false from by simp)]
    skip
theorem lrpG {N m : Nat} {J : JS} {r : Rw} {F G I : List (List PV)} (X : CX J r F G I) (hN : 1000002 <= N) {pf : Bool} {aF : List PV} {kF : Nat} (hF : oldL 0 aF = true) (e1 : Int) (q : Nat) :
    LRG N m (q + r.ng + 1) J r ⟨pf, aF, kF, false, [], 0, false, [], 0⟩ e1 0 = LRI N m N J r ⟨pf, aF, kF, !Nat.beq r.ng 0, acA (ltOf rGi) G r.G r.ng, acK (ltOf rGi) G r.G r.ng, false, [], 0⟩ e1 (r.ng : Int) 0 := by
  have lx := Rw.lists X.ok
  have hR := lx.g
  have hl := lx.ng
  have hmax := X.mg
  refine mid_loop (L := fun q i => LRG N m q J r ⟨pf, aF, kF, !Nat.beq i 0, acA (ltOf rGi) G r.G i, acK (ltOf rGi) G r.G i, false, [], 0⟩ e1 (i : Int)) ?_ ?_ q
  . intro q i hi
    have hiR : i < r.G.length := by omega
    have hA : rowsOk KGr (foldI (ltOf rGi) G (r.G.take i)) = true := rows_fold X.g (rowsOk_take hR i)
    have hlen : (foldI (ltOf rGi) G (r.G.take i)).length = G.length + i := by rw [foldI_len, List.length_take, Nat.min_eq_left (by omega)]
    have hnxt : foldI (ltOf rGi) G (r.G.take (i + 1)) = ins (ltOf rGi) r.G[i] (foldI (ltOf rGi) G (r.G.take i)) := by rw [List.take_succ_eq_append_getElem hiR, foldI_snoc]
    have hrow : rowGr r (i : Int) = r.G[i] := by
      unfold rowGr
      rw [Int.toNat_natCast, <- lx.gc, show 8 = KGr.length from rfl]
      exact (rows_at0 hR hiR).2
    have hxl : r.G[i].length = KGr.length := wk_len (rowsOk_get hR (List.getElem_mem hiR)).1
    have hcur : J.curG ⟨pf, aF, kF, !Nat.beq i 0, acA (ltOf rGi) G r.G i, acK (ltOf rGi) G r.G i, false, [], 0⟩ = (foldI (ltOf rGi) G (r.G.take i)).flatten := by
      unfold JS.curG
      dsimp only
      rw [X.bg, X.ag]
      exact cur_st
    have hcn : curN (!Nat.beq i 0) J.bg (acK (ltOf rGi) G r.G i) J.kg = (foldI (ltOf rGi) G (r.G.take i)).length := by
      rw [X.bg, X.kg]
      exact curN_st
    have hac := acA_old (lt := ltOf rGi) X.g hR i
    have hw : ∀ x, (wG x r.G[i]).all id = true := fun x => by
      unfold wG
      rw [row_cell hR hiR x 6, row_cell hR hiR x 7]
      rfl
    have hw0 : ∀ x, (wG x (rowGr r (i : Int))).all id = true := by rw [hrow]; exact hw
    show LRG N m (q + 1) J r ⟨pf, aF, kF, !Nat.beq i 0, acA (ltOf rGi) G r.G i, acK (ltOf rGi) G r.G i, false, [], 0⟩ e1 (i : Int) = LRG N m q J r ⟨pf, aF, kF, !Nat.beq (i + 1) 0, acA (ltOf rGi) G r.G (i + 1), acK (ltOf rGi) G r.G (i + 1), false, [], 0⟩ e1 ((i + 1 : Nat) : Int)
    have hgo : ∀ ac k, ac = (foldI (ltOf rGi) G (r.G.take (i + 1))).flatten -> k = (foldI (ltOf rGi) G (r.G.take (i + 1))).length -> (asks (oldJ J (xG J ⟨pf, aF, kF, !Nat.beq i 0, acA (ltOf rGi) G r.G i, acK (ltOf rGi) G r.G i, false, [], 0⟩) r) <| asks [oldL (xG J ⟨pf, aF, kF, !Nat.beq i 0, acA (ltOf rGi) G r.G i, acK (ltOf rGi) G r.G i, false, [], 0⟩) r.gc] <| asksO J <| asks (oldR (xG J ⟨pf, aF, kF, !Nat.beq i 0, acA (ltOf rGi) G r.G i, acK (ltOf rGi) G r.G i, false, [], 0⟩) r) <| asks (ifb pf [oldL 0 aF]) <| asks [oldL 0 ac] <| LRG N m q J r ⟨pf, aF, kF, true, ac, k, false, [], 0⟩ e1 (IntKind.i64.wrap ((i : Int) + 1))) = LRG N m q J r ⟨pf, aF, kF, !Nat.beq (i + 1) 0, acA (ltOf rGi) G r.G (i + 1), acK (ltOf rGi) G r.G (i + 1), false, [], 0⟩ e1 ((i + 1 : Nat) : Int) := by
      intro ac k h1 h2
      obtain ⟨o1, o2, o3, o4⟩ := X.rc (xG J ⟨pf, aF, kF, !Nat.beq i 0, acA (ltOf rGi) G r.G i, acK (ltOf rGi) G r.G i, false, [], 0⟩)
      rw [h1, h2, asks_of (X.oldJ _), asks_of (ask1 o2), X.asksO, asks_of (X.oldR _), asks_of (ifb1 hF _), asks_of (ask1 (rows_old (rows_fold X.g (rowsOk_take hR (i + 1))))), wrap_succ (by omega : i < 9223372036854775807)]
      rfl
    rw [rG, cond_t (show decide ((i : Int) < (r.ng : Int)) = true from by simp; omega), asks_of (by
      simp only [Int.toNat_natCast]
      rw [inside hi, <- lx.gc, show 8 = KGr.length from rfl, (rows_at0 hR hiR).1]
      rfl), hcn]
    by_cases hz : (foldI (ltOf rGi) G (r.G.take i)).length = 0
    . have hi0 : i = 0 := by omega
      have hF0 : G = [] := List.eq_nil_of_length_eq_zero (by omega)
      subst hi0
      obtain ⟨s, rfl⟩ : ∃ s, N = s + 1 := ⟨N - 1, by omega⟩
      have e0 : ∀ x : List PV, (foldI (ltOf rGi) G (r.G.take (0 + 1))) = [r.G[0]] := by
        intro x
        rw [hnxt, hF0]
        rfl
      rw [hz]
      refine (rB0 _ _ _ s J r _ _ _ _ _ _ _ (by rw [X.bg, hF0]; rfl)).trans ?_
      rw [asks_of (hw0 _)]
      exact hgo _ _ (by rw [hrow, e0 []]; simp) (by rw [e0 []]; rfl)
    . obtain ⟨s, hs⟩ : ∃ s, N = s + (foldI (ltOf rGi) G (r.G.take i)).length + 1 := ⟨N - 1 - (foldI (ltOf rGi) G (r.G.take i)).length, by omega⟩
      have hbc : (!Nat.beq i 0 || J.bg) = true := by
        rw [X.bg]
        cases i with
        | zero => rw [show G.length = (G.length - 1) + 1 from by omega]; rfl
        | succ i => rfl
      have hfin : ∀ t, t <= (foldI (ltOf rGi) G (r.G.take i)).length -> ∀ W0 W1 : List Bool, W0.all id = true -> W1.all id = true -> insT2 (foldI (ltOf rGi) G (r.G.take i)).flatten (foldI (ltOf rGi) G (r.G.take i)).length (t : Int) 8 r.G[i] W0 W1 (fun ac k => (asks (oldJ J (xG J ⟨pf, aF, kF, !Nat.beq i 0, acA (ltOf rGi) G r.G i, acK (ltOf rGi) G r.G i, false, [], 0⟩) r) <| asks [oldL (xG J ⟨pf, aF, kF, !Nat.beq i 0, acA (ltOf rGi) G r.G i, acK (ltOf rGi) G r.G i, false, [], 0⟩) r.gc] <| asksO J <| asks (oldR (xG J ⟨pf, aF, kF, !Nat.beq i 0, acA (ltOf rGi) G r.G i, acK (ltOf rGi) G r.G i, false, [], 0⟩) r) <| asks (ifb pf [oldL 0 aF]) <| asks [oldL 0 ac] <| LRG N m q J r ⟨pf, aF, kF, true, ac, k, false, [], 0⟩ e1 (IntKind.i64.wrap ((i : Int) + 1)))) = (fun ac k => (asks (oldJ J (xG J ⟨pf, aF, kF, !Nat.beq i 0, acA (ltOf rGi) G r.G i, acK (ltOf rGi) G r.G i, false, [], 0⟩) r) <| asks [oldL (xG J ⟨pf, aF, kF, !Nat.beq i 0, acA (ltOf rGi) G r.G i, acK (ltOf rGi) G r.G i, false, [], 0⟩) r.gc] <| asksO J <| asks (oldR (xG J ⟨pf, aF, kF, !Nat.beq i 0, acA (ltOf rGi) G r.G i, acK (ltOf rGi) G r.G i, false, [], 0⟩) r) <| asks (ifb pf [oldL 0 aF]) <| asks [oldL 0 ac] <| LRG N m q J r ⟨pf, aF, kF, true, ac, k, false, [], 0⟩ e1 (IntKind.i64.wrap ((i : Int) + 1)))) ((foldI (ltOf rGi) G (r.G.take i)).take t ++ r.G[i] :: (foldI (ltOf rGi) G (r.G.take i)).drop t).flatten ((foldI (ltOf rGi) G (r.G.take i)).length + 1) := by
        intro t ht W0 W1 w0 w1
        exact insT2_ok (K := KGr) hA hxl (by omega) ht (by omega) w0 w1 _
      have hpl := plc_le (ltOf rGi) r.G[i] (foldI (ltOf rGi) G (r.G.take i)) (foldI (ltOf rGi) G (r.G.take i)).length
      have main := at_loop (lt := ltOf rGi) (x := r.G[i]) (A := foldI (ltOf rGi) G (r.G.take i)) (L := fun s t => LRB N m q s J r ⟨pf, aF, kF, !Nat.beq i 0, acA (ltOf rGi) G r.G i, acK (ltOf rGi) G r.G i, false, [], 0⟩ e1 (i : Int) (rowGr r i) t) (fin := fun t => insT2 (foldI (ltOf rGi) G (r.G.take i)).flatten (foldI (ltOf rGi) G (r.G.take i)).length (t : Int) 8 r.G[i] (wG (xE J ⟨pf, aF, kF, !Nat.beq i 0, acA (ltOf rGi) G r.G i, acK (ltOf rGi) G r.G i, false, [], 0⟩ + 1) r.G[i]) (wG (xE J ⟨pf, aF, kF, !Nat.beq i 0, acA (ltOf rGi) G r.G i, acK (ltOf rGi) G r.G i, false, [], 0⟩ + 2) r.G[i]) (fun ac k => (asks (oldJ J (xG J ⟨pf, aF, kF, !Nat.beq i 0, acA (ltOf rGi) G r.G i, acK (ltOf rGi) G r.G i, false, [], 0⟩) r) <| asks [oldL (xG J ⟨pf, aF, kF, !Nat.beq i 0, acA (ltOf rGi) G r.G i, acK (ltOf rGi) G r.G i, false, [], 0⟩) r.gc] <| asksO J <| asks (oldR (xG J ⟨pf, aF, kF, !Nat.beq i 0, acA (ltOf rGi) G r.G i, acK (ltOf rGi) G r.G i, false, [], 0⟩) r) <| asks (ifb pf [oldL 0 aF]) <| asks [oldL 0 ac] <| LRG N m q J r ⟨pf, aF, kF, true, ac, k, false, [], 0⟩ e1 (IntKind.i64.wrap ((i : Int) + 1))))) (v := LRG N m q J r ⟨pf, aF, kF, !Nat.beq (i + 1) 0, acA (ltOf rGi) G r.G (i + 1), acK (ltOf rGi) G r.G (i + 1), false, [], 0⟩ e1 ((i + 1 : Nat) : Int)) ?_ ?_ ?_ s
      . rw [<- hs] at main
        exact main
      . intro s t ht
        obtain ⟨o1, o2, o3, o4⟩ := X.rc (xE J ⟨pf, aF, kF, !Nat.beq i 0, acA (ltOf rGi) G r.G i, acK (ltOf rGi) G r.G i, false, [], 0⟩ + 1)
        have pa := part_at hA ht 0 (Nat.zero_le _)
        have pb := rows_at0 hR hiR
        simp only [List.drop_zero, Nat.add_zero] at pa
        have hcell : rGi (shapeAt KGi r.gc (i * 8)) (shapeAt KGi (foldI (ltOf rGi) G (r.G.take i)).flatten (0 + t * 8 + 0)) = rGi r.G[i] (foldI (ltOf rGi) G (r.G.take i))[t] := by
          have e1 : shapeAt KGr (foldI (ltOf rGi) G (r.G.take i)).flatten (0 + t * 8) = (foldI (ltOf rGi) G (r.G.take i))[t] := pa.2.1
          have e2 : shapeAt KGr r.gc (i * 8) = r.G[i] := by rw [<- lx.gc]; exact pb.2
          have g1 : ∀ c k, giAt (shapeAt KGi c k) = giAt (shapeAt KGr c k) := fun _ _ => rfl
          rw [<- e1, <- e2]
          unfold rGi
          rw [g1, g1]
          rfl
        have hokc : okAt KGi (foldI (ltOf rGi) G (r.G.take i)).flatten (0 + t * 8 + 0) = true := okAt_pre (K' := [.int .i64, .sl 18, .sl 1]) pa.1
        show LRB N m q (s + 1) J r ⟨pf, aF, kF, !Nat.beq i 0, acA (ltOf rGi) G r.G i, acK (ltOf rGi) G r.G i, false, [], 0⟩ e1 (i : Int) (rowGr r i) ((t + 1 : Nat) : Int) = _
        rw [rB _ _ _ _ _ _ _ _ _ _ _ _ _ _ _ hbc, cond_t (show decide (((t + 1 : Nat) : Int) > 0) = true from by simp), wrap_pred (by omega : t < 9223372036854775807), hcn, hcur]
        simp only [Int.toNat_natCast]
        rw [asks_of (by simp only [inside ht, hokc, beq_self_eq_true, List.all_cons, List.all_nil, id, Bool.and_self])]
        simp only [hcell]
        show (bif decide (rGi r.G[i] (foldI (ltOf rGi) G (r.G.take i))[t] < 0) then _ else _) = bif ltOf rGi r.G[i] ((foldI (ltOf rGi) G (r.G.take i)).getD t []) then _ else _
        rw [getD_at ht, show ltOf rGi r.G[i] (foldI (ltOf rGi) G (r.G.take i))[t] = decide (rGi r.G[i] (foldI (ltOf rGi) G (r.G.take i))[t] < 0) from rfl]
        generalize decide (rGi r.G[i] (foldI (ltOf rGi) G (r.G.take i))[t] < 0) = b
        cases b
        . simp only [cond_false]
          rw [hrow]
        . simp only [cond_true]
          rw [asks_of (X.oldJ _), asks_of (ask1 o2), asks_of (ask1 o2), asks_of (hw0 _), X.asksO, asks_of (X.oldR _), asks_of (ifb1 hF _), asks_of (hac _), asks_of (hw0 _)]
      . intro s
        show LRB N m q (s + 1) J r ⟨pf, aF, kF, !Nat.beq i 0, acA (ltOf rGi) G r.G i, acK (ltOf rGi) G r.G i, false, [], 0⟩ e1 (i : Int) (rowGr r i) ((0 : Nat) : Int) = _
        rw [rB _ _ _ _ _ _ _ _ _ _ _ _ _ _ _ hbc, cond_f (by simp), hcn, hcur]
        rw [hrow]
      . rw [hfin _ hpl _ _ (hw _) (hw _), plc_all]
        exact hgo _ _ (by rw [hnxt]) (by rw [hnxt, ins_len])
  . intro q
    show LRG N m (q + 1) J r ⟨pf, aF, kF, !Nat.beq r.ng 0, acA (ltOf rGi) G r.G r.ng, acK (ltOf rGi) G r.G r.ng, false, [], 0⟩ e1 (r.ng : Int) = _
    rw [rG, cond_f (show decide ((r.ng : Int) < (r.ng : Int)) = false from by simp)]
    skip
theorem lrpI {N m : Nat} {J : JS} {r : Rw} {F G I : List (List PV)} (X : CX J r F G I) (hN : 1000002 <= N) {pf : Bool} {aF : List PV} {kF : Nat} (hF : oldL 0 aF = true) {pg : Bool} {aG : List PV} {kG : Nat} (hG : oldL 0 aG = true) (e1 e2 : Int) (q : Nat) :
    LRI N m (q + r.ni + 1) J r ⟨pf, aF, kF, pg, aG, kG, false, [], 0⟩ e1 e2 0 = LRo N m (J.next ⟨pf, aF, kF, pg, aG, kG, !Nat.beq r.ni 0, acA (ltOf rKy) I r.I r.ni, acK (ltOf rKy) I r.I r.ni⟩) := by
  have lx := Rw.lists X.ok
  have hR := lx.i
  have hl := lx.ni
  have hmax := X.mi
  refine mid_loop (L := fun q i => LRI N m q J r ⟨pf, aF, kF, pg, aG, kG, !Nat.beq i 0, acA (ltOf rKy) I r.I i, acK (ltOf rKy) I r.I i⟩ e1 e2 (i : Int)) ?_ ?_ q
  . intro q i hi
    have hiR : i < r.I.length := by omega
    have hA : rowsOk KFi (foldI (ltOf rKy) I (r.I.take i)) = true := rows_fold X.i (rowsOk_take hR i)
    have hlen : (foldI (ltOf rKy) I (r.I.take i)).length = I.length + i := by rw [foldI_len, List.length_take, Nat.min_eq_left (by omega)]
    have hnxt : foldI (ltOf rKy) I (r.I.take (i + 1)) = ins (ltOf rKy) r.I[i] (foldI (ltOf rKy) I (r.I.take i)) := by rw [List.take_succ_eq_append_getElem hiR, foldI_snoc]
    have hrow : rowI r (i : Int) = r.I[i] := by
      unfold rowI
      rw [Int.toNat_natCast, <- lx.ic, show 3 = KFi.length from rfl]
      exact (rows_at0 hR hiR).2
    have hxl : r.I[i].length = KFi.length := wk_len (rowsOk_get hR (List.getElem_mem hiR)).1
    have hcur : J.curI ⟨pf, aF, kF, pg, aG, kG, !Nat.beq i 0, acA (ltOf rKy) I r.I i, acK (ltOf rKy) I r.I i⟩ = (foldI (ltOf rKy) I (r.I.take i)).flatten := by
      unfold JS.curI
      dsimp only
      rw [X.bi, X.ai]
      exact cur_st
    have hcn : curN (!Nat.beq i 0) J.bi (acK (ltOf rKy) I r.I i) J.ki = (foldI (ltOf rKy) I (r.I.take i)).length := by
      rw [X.bi, X.ki]
      exact curN_st
    have hac := acA_old (lt := ltOf rKy) X.i hR i
    have hw : ∀ x, (wI x r.I[i]).all id = true := fun x => by
      unfold wI
      rw [row_cell hR hiR x 2]
      rfl
    have hw0 : ∀ x, (wI x (rowI r (i : Int))).all id = true := by rw [hrow]; exact hw
    show LRI N m (q + 1) J r ⟨pf, aF, kF, pg, aG, kG, !Nat.beq i 0, acA (ltOf rKy) I r.I i, acK (ltOf rKy) I r.I i⟩ e1 e2 (i : Int) = LRI N m q J r ⟨pf, aF, kF, pg, aG, kG, !Nat.beq (i + 1) 0, acA (ltOf rKy) I r.I (i + 1), acK (ltOf rKy) I r.I (i + 1)⟩ e1 e2 ((i + 1 : Nat) : Int)
    have hgo : ∀ ac k, ac = (foldI (ltOf rKy) I (r.I.take (i + 1))).flatten -> k = (foldI (ltOf rKy) I (r.I.take (i + 1))).length -> (asks (oldJ J (xI J ⟨pf, aF, kF, pg, aG, kG, !Nat.beq i 0, acA (ltOf rKy) I r.I i, acK (ltOf rKy) I r.I i⟩) r) <| asks [oldL (xI J ⟨pf, aF, kF, pg, aG, kG, !Nat.beq i 0, acA (ltOf rKy) I r.I i, acK (ltOf rKy) I r.I i⟩) r.gc] <| asks [oldL (xI J ⟨pf, aF, kF, pg, aG, kG, !Nat.beq i 0, acA (ltOf rKy) I r.I i, acK (ltOf rKy) I r.I i⟩) r.ic] <| asksO J <| asks (oldR (xI J ⟨pf, aF, kF, pg, aG, kG, !Nat.beq i 0, acA (ltOf rKy) I r.I i, acK (ltOf rKy) I r.I i⟩) r) <| asks (ifb pf [oldL 0 aF]) <| asks (ifb pg [oldL 0 aG]) <| asks [oldL 0 ac] <| LRI N m q J r ⟨pf, aF, kF, pg, aG, kG, true, ac, k⟩ e1 e2 (IntKind.i64.wrap ((i : Int) + 1))) = LRI N m q J r ⟨pf, aF, kF, pg, aG, kG, !Nat.beq (i + 1) 0, acA (ltOf rKy) I r.I (i + 1), acK (ltOf rKy) I r.I (i + 1)⟩ e1 e2 ((i + 1 : Nat) : Int) := by
      intro ac k h1 h2
      obtain ⟨o1, o2, o3, o4⟩ := X.rc (xI J ⟨pf, aF, kF, pg, aG, kG, !Nat.beq i 0, acA (ltOf rKy) I r.I i, acK (ltOf rKy) I r.I i⟩)
      rw [h1, h2, asks_of (X.oldJ _), asks_of (ask1 o2), asks_of (ask1 o3), X.asksO, asks_of (X.oldR _), asks_of (ifb1 hF _), asks_of (ifb1 hG _), asks_of (ask1 (rows_old (rows_fold X.i (rowsOk_take hR (i + 1))))), wrap_succ (by omega : i < 9223372036854775807)]
      rfl
    rw [rI, cond_t (show decide ((i : Int) < (r.ni : Int)) = true from by simp; omega), asks_of (by
      simp only [Int.toNat_natCast]
      rw [inside hi, <- lx.ic, show 3 = KFi.length from rfl, (rows_at0 hR hiR).1]
      rfl), hcn]
    by_cases hz : (foldI (ltOf rKy) I (r.I.take i)).length = 0
    . have hi0 : i = 0 := by omega
      have hF0 : I = [] := List.eq_nil_of_length_eq_zero (by omega)
      subst hi0
      obtain ⟨s, rfl⟩ : ∃ s, N = s + 1 := ⟨N - 1, by omega⟩
      have e0 : ∀ x : List PV, (foldI (ltOf rKy) I (r.I.take (0 + 1))) = [r.I[0]] := by
        intro x
        rw [hnxt, hF0]
        rfl
      rw [hz]
      refine (rC0 _ _ _ s J r _ _ _ _ _ _ _ _ _ _ _ (by rw [X.bi, hF0]; rfl)).trans ?_
      rw [asks_of (hw0 _)]
      exact hgo _ _ (by rw [hrow, e0 []]; simp) (by rw [e0 []]; rfl)
    . obtain ⟨s, hs⟩ : ∃ s, N = s + (foldI (ltOf rKy) I (r.I.take i)).length + 1 := ⟨N - 1 - (foldI (ltOf rKy) I (r.I.take i)).length, by omega⟩
      have hbc : (!Nat.beq i 0 || J.bi) = true := by
        rw [X.bi]
        cases i with
        | zero => rw [show I.length = (I.length - 1) + 1 from by omega]; rfl
        | succ i => rfl
      have hfin : ∀ t, t <= (foldI (ltOf rKy) I (r.I.take i)).length -> ∀ W0 W1 : List Bool, W0.all id = true -> W1.all id = true -> insT2 (foldI (ltOf rKy) I (r.I.take i)).flatten (foldI (ltOf rKy) I (r.I.take i)).length (t : Int) 3 r.I[i] W0 W1 (fun ac k => (asks (oldJ J (xI J ⟨pf, aF, kF, pg, aG, kG, !Nat.beq i 0, acA (ltOf rKy) I r.I i, acK (ltOf rKy) I r.I i⟩) r) <| asks [oldL (xI J ⟨pf, aF, kF, pg, aG, kG, !Nat.beq i 0, acA (ltOf rKy) I r.I i, acK (ltOf rKy) I r.I i⟩) r.gc] <| asks [oldL (xI J ⟨pf, aF, kF, pg, aG, kG, !Nat.beq i 0, acA (ltOf rKy) I r.I i, acK (ltOf rKy) I r.I i⟩) r.ic] <| asksO J <| asks (oldR (xI J ⟨pf, aF, kF, pg, aG, kG, !Nat.beq i 0, acA (ltOf rKy) I r.I i, acK (ltOf rKy) I r.I i⟩) r) <| asks (ifb pf [oldL 0 aF]) <| asks (ifb pg [oldL 0 aG]) <| asks [oldL 0 ac] <| LRI N m q J r ⟨pf, aF, kF, pg, aG, kG, true, ac, k⟩ e1 e2 (IntKind.i64.wrap ((i : Int) + 1)))) = (fun ac k => (asks (oldJ J (xI J ⟨pf, aF, kF, pg, aG, kG, !Nat.beq i 0, acA (ltOf rKy) I r.I i, acK (ltOf rKy) I r.I i⟩) r) <| asks [oldL (xI J ⟨pf, aF, kF, pg, aG, kG, !Nat.beq i 0, acA (ltOf rKy) I r.I i, acK (ltOf rKy) I r.I i⟩) r.gc] <| asks [oldL (xI J ⟨pf, aF, kF, pg, aG, kG, !Nat.beq i 0, acA (ltOf rKy) I r.I i, acK (ltOf rKy) I r.I i⟩) r.ic] <| asksO J <| asks (oldR (xI J ⟨pf, aF, kF, pg, aG, kG, !Nat.beq i 0, acA (ltOf rKy) I r.I i, acK (ltOf rKy) I r.I i⟩) r) <| asks (ifb pf [oldL 0 aF]) <| asks (ifb pg [oldL 0 aG]) <| asks [oldL 0 ac] <| LRI N m q J r ⟨pf, aF, kF, pg, aG, kG, true, ac, k⟩ e1 e2 (IntKind.i64.wrap ((i : Int) + 1)))) ((foldI (ltOf rKy) I (r.I.take i)).take t ++ r.I[i] :: (foldI (ltOf rKy) I (r.I.take i)).drop t).flatten ((foldI (ltOf rKy) I (r.I.take i)).length + 1) := by
        intro t ht W0 W1 w0 w1
        exact insT2_ok (K := KFi) hA hxl (by omega) ht (by omega) w0 w1 _
      have hpl := plc_le (ltOf rKy) r.I[i] (foldI (ltOf rKy) I (r.I.take i)) (foldI (ltOf rKy) I (r.I.take i)).length
      have main := at_loop (lt := ltOf rKy) (x := r.I[i]) (A := foldI (ltOf rKy) I (r.I.take i)) (L := fun s t => LRC N m q s J r ⟨pf, aF, kF, pg, aG, kG, !Nat.beq i 0, acA (ltOf rKy) I r.I i, acK (ltOf rKy) I r.I i⟩ e1 e2 (i : Int) (rowI r i) t) (fin := fun t => insT2 (foldI (ltOf rKy) I (r.I.take i)).flatten (foldI (ltOf rKy) I (r.I.take i)).length (t : Int) 3 r.I[i] (wI (xE J ⟨pf, aF, kF, pg, aG, kG, !Nat.beq i 0, acA (ltOf rKy) I r.I i, acK (ltOf rKy) I r.I i⟩ + 1) r.I[i]) (wI (xE J ⟨pf, aF, kF, pg, aG, kG, !Nat.beq i 0, acA (ltOf rKy) I r.I i, acK (ltOf rKy) I r.I i⟩ + 2) r.I[i]) (fun ac k => (asks (oldJ J (xI J ⟨pf, aF, kF, pg, aG, kG, !Nat.beq i 0, acA (ltOf rKy) I r.I i, acK (ltOf rKy) I r.I i⟩) r) <| asks [oldL (xI J ⟨pf, aF, kF, pg, aG, kG, !Nat.beq i 0, acA (ltOf rKy) I r.I i, acK (ltOf rKy) I r.I i⟩) r.gc] <| asks [oldL (xI J ⟨pf, aF, kF, pg, aG, kG, !Nat.beq i 0, acA (ltOf rKy) I r.I i, acK (ltOf rKy) I r.I i⟩) r.ic] <| asksO J <| asks (oldR (xI J ⟨pf, aF, kF, pg, aG, kG, !Nat.beq i 0, acA (ltOf rKy) I r.I i, acK (ltOf rKy) I r.I i⟩) r) <| asks (ifb pf [oldL 0 aF]) <| asks (ifb pg [oldL 0 aG]) <| asks [oldL 0 ac] <| LRI N m q J r ⟨pf, aF, kF, pg, aG, kG, true, ac, k⟩ e1 e2 (IntKind.i64.wrap ((i : Int) + 1))))) (v := LRI N m q J r ⟨pf, aF, kF, pg, aG, kG, !Nat.beq (i + 1) 0, acA (ltOf rKy) I r.I (i + 1), acK (ltOf rKy) I r.I (i + 1)⟩ e1 e2 ((i + 1 : Nat) : Int)) ?_ ?_ ?_ s
      . rw [<- hs] at main
        exact main
      . intro s t ht
        obtain ⟨o1, o2, o3, o4⟩ := X.rc (xE J ⟨pf, aF, kF, pg, aG, kG, !Nat.beq i 0, acA (ltOf rKy) I r.I i, acK (ltOf rKy) I r.I i⟩ + 1)
        have pa := part_at hA ht 0 (Nat.zero_le _)
        have pb := rows_at0 hR hiR
        simp only [List.drop_zero, Nat.add_zero] at pa
        have hcell : rKy (shapeAt KKy r.ic (i * 3)) (shapeAt KKy (foldI (ltOf rKy) I (r.I.take i)).flatten (0 + t * 3 + 0)) = rKy r.I[i] (foldI (ltOf rKy) I (r.I.take i))[t] := by
          have e1 : shapeAt KFi (foldI (ltOf rKy) I (r.I.take i)).flatten (0 + t * 3) = (foldI (ltOf rKy) I (r.I.take i))[t] := pa.2.1
          have e2 : shapeAt KFi r.ic (i * 3) = r.I[i] := by rw [<- lx.ic]; exact pb.2
          have g1 : ∀ c k, kyAt (shapeAt KKy c k) 0 = kyAt (shapeAt KFi c k) 0 := fun _ _ => rfl
          rw [<- e1, <- e2]
          unfold rKy
          rw [g1, g1]
          rfl
        have hokc : okAt KKy (foldI (ltOf rKy) I (r.I.take i)).flatten (0 + t * 3 + 0) = true := okAt_pre (K' := [.sl 18]) pa.1
        show LRC N m q (s + 1) J r ⟨pf, aF, kF, pg, aG, kG, !Nat.beq i 0, acA (ltOf rKy) I r.I i, acK (ltOf rKy) I r.I i⟩ e1 e2 (i : Int) (rowI r i) ((t + 1 : Nat) : Int) = _
        rw [rC _ _ _ _ _ _ _ _ _ _ _ _ _ _ _ _ _ _ _ hbc, cond_t (show decide (((t + 1 : Nat) : Int) > 0) = true from by simp), wrap_pred (by omega : t < 9223372036854775807), hcn, hcur]
        simp only [Int.toNat_natCast]
        rw [asks_of (by simp only [inside ht, hokc, beq_self_eq_true, List.all_cons, List.all_nil, id, Bool.and_self])]
        simp only [hcell]
        show (bif decide (rKy r.I[i] (foldI (ltOf rKy) I (r.I.take i))[t] < 0) then _ else _) = bif ltOf rKy r.I[i] ((foldI (ltOf rKy) I (r.I.take i)).getD t []) then _ else _
        rw [getD_at ht, show ltOf rKy r.I[i] (foldI (ltOf rKy) I (r.I.take i))[t] = decide (rKy r.I[i] (foldI (ltOf rKy) I (r.I.take i))[t] < 0) from rfl]
        generalize decide (rKy r.I[i] (foldI (ltOf rKy) I (r.I.take i))[t] < 0) = b
        cases b
        . simp only [cond_false]
          rw [hrow]
        . simp only [cond_true]
          rw [asks_of (X.oldJ _), asks_of (ask1 o2), asks_of (ask1 o3), asks_of (ask1 o3), asks_of (hw0 _), X.asksO, asks_of (X.oldR _), asks_of (ifb1 hF _), asks_of (ifb1 hG _), asks_of (hac _), asks_of (hw0 _)]
      . intro s
        show LRC N m q (s + 1) J r ⟨pf, aF, kF, pg, aG, kG, !Nat.beq i 0, acA (ltOf rKy) I r.I i, acK (ltOf rKy) I r.I i⟩ e1 e2 (i : Int) (rowI r i) ((0 : Nat) : Int) = _
        rw [rC _ _ _ _ _ _ _ _ _ _ _ _ _ _ _ _ _ _ _ hbc, cond_f (by simp), hcn, hcur]
        rw [hrow]
      . rw [hfin _ hpl _ _ (hw _) (hw _), plc_all]
        exact hgo _ _ (by rw [hnxt]) (by rw [hnxt, ins_len])
  . intro q
    show LRI N m (q + 1) J r ⟨pf, aF, kF, pg, aG, kG, !Nat.beq r.ni 0, acA (ltOf rKy) I r.I r.ni, acK (ltOf rKy) I r.I r.ni⟩ e1 e2 (r.ni : Int) = _
    rw [rI, cond_f (show decide ((r.ni : Int) < (r.ni : Int)) = false from by simp)]
    have n1 : oldL 0 (J.next ⟨pf, aF, kF, pg, aG, kG, !Nat.beq r.ni 0, acA (ltOf rKy) I r.I r.ni, acK (ltOf rKy) I r.I r.ni⟩).af = true := by
      unfold JS.next
      dsimp only
      rw [X.af]
      cases pf
      . exact rows_old X.f
      . exact hF
    have n2 : oldL 0 (J.next ⟨pf, aF, kF, pg, aG, kG, !Nat.beq r.ni 0, acA (ltOf rKy) I r.I r.ni, acK (ltOf rKy) I r.I r.ni⟩).ag = true := by
      unfold JS.next
      dsimp only
      rw [X.ag]
      cases pg
      . exact rows_old X.g
      . exact hG
    have n3 : oldL 0 (J.next ⟨pf, aF, kF, pg, aG, kG, !Nat.beq r.ni 0, acA (ltOf rKy) I r.I r.ni, acK (ltOf rKy) I r.I r.ni⟩).ai = true := by
      unfold JS.next
      dsimp only
      rw [X.ai]
      cases !Nat.beq r.ni 0
      . exact rows_old X.i
      . exact acA_o X.i hR _
    rw [asks_of (by simp only [(X.rc 2).2.2.2, List.all_cons, List.all_nil, id, Bool.and_self]), asks_of (ifb1 n1 _), asks_of (ifb1 n2 _), asks_of (ifb1 n3 _)]
end
section
open St
theorem jR_mk {F G I : List (List PV)} (f : rowsOk KFr F = true) (g : rowsOk KGr G = true) (i : rowsOk KFi I = true) :
    jR (!Nat.beq F.length 0) (!Nat.beq G.length 0) (!Nat.beq I.length 0) F.flatten F.length G.flatten G.length I.flatten I.length = Rw.mk' F G I := by
  unfold jR Rw.mk'
  have key : ∀ {K : List Kd} {R : List (List PV)}, rowsOk K R = true -> (bif (!Nat.beq R.length 0) then R.length else 0) = R.length /\ (bif (!Nat.beq R.length 0) then (R.flatten.drop 0).take (R.length * K.length) else []) = R.flatten := by
    intro K R h
    cases R with
    | nil => exact ⟨rfl, rfl⟩
    | cons a R =>
      have hb : (!Nat.beq (a :: R).length 0) = true := rfl
      rw [hb]
      exact ⟨rfl, take_all _ (rows_len h)⟩
  rw [show (26 : Nat) = KFr.length from rfl, show (8 : Nat) = KGr.length from rfl, show (3 : Nat) = KFi.length from rfl, (key f).1, (key f).2, (key g).1, (key g).2, (key i).1, (key i).2]
def jst (c : List PV) (n : Nat) (i : Int) (F G I : List (List PV)) : JS := ⟨c, n, i, !Nat.beq F.length 0, !Nat.beq G.length 0, !Nat.beq I.length 0, F.flatten, F.length, G.flatten, G.length, I.flatten, I.length⟩
theorem exitR_ok {c : List PV} {n : Nat} {i : Int} {F G I : List (List PV)} (f : rowsOk KFr F = true) (g : rowsOk KGr G = true) (ii : rowsOk KFi I = true) : exitR (jst c n i F G I) = some (Rw.mk' F G I).pv := by
  obtain ⟨s1, s2, s3⟩ := seal_ok f (by decide)
  obtain ⟨s4, s5, s6⟩ := seal_ok g (by decide)
  obtain ⟨s7, s8, s9⟩ := seal_ok ii (by decide)
  unfold exitR jst
  dsimp only
  rw [jR_mk f g ii]
  rw [show (26 : Nat) = KFr.length from rfl, show (8 : Nat) = KGr.length from rfl, show (3 : Nat) = KFi.length from rfl, asks_of s1, asks_of s4, asks_of s7, asks_of s2, asks_of s5, asks_of s8]
theorem rOj (N m : Nat) (c : List PV) (n : Nat) (i : Int) (F G I : List (List PV)) : LRo N (m + 1) (jst c n i F G I) =
  (bif decide (i < (n : Int)) then
    (asks [decide (0 <= i) && decide (i < (n : Int)), okAt KRw c (i.toNat * 3)] <| LRF N m N (jst c n i F G I) (rwOf (shapeAt KRw c (i.toNat * 3))) nS 0)
  else exitR (jst c n i F G I)) := rO N m (jst c n i F G I)
theorem nx_b {n : Nat} {lt : List PV -> List PV -> Bool} {A R : List (List PV)} (h : R.length = n) : (!Nat.beq n 0 || !Nat.beq A.length 0) = !Nat.beq (foldI lt A R).length 0 := by
  rw [foldI_len, h]
  cases n with
  | zero => rfl
  | succ n => rfl
theorem nx_a {n : Nat} {lt : List PV -> List PV -> Bool} {A R : List (List PV)} (h : R.length = n) : (bif !Nat.beq n 0 then acA lt A R n else A.flatten) = (foldI lt A R).flatten := by
  cases n with
  | zero => rw [List.eq_nil_of_length_eq_zero h]; rfl
  | succ n =>
    show (foldI lt A (R.take (n + 1))).flatten = _
    rw [<- h, List.take_length]
theorem nx_k {n : Nat} {lt : List PV -> List PV -> Bool} {A R : List (List PV)} (h : R.length = n) : (bif !Nat.beq n 0 then acK lt A R n else A.length) = (foldI lt A R).length := by
  cases n with
  | zero => rw [List.eq_nil_of_length_eq_zero h]; rfl
  | succ n =>
    show (foldI lt A (R.take (n + 1))).length = _
    rw [<- h, List.take_length]
theorem next_jst {c : List PV} {n i : Nat} {F G I : List (List PV)} {r : Rw} (lx : r.Lists r.F r.G r.I) (hi : i < 1000000) :
    (jst c n i F G I).next ⟨!Nat.beq r.nf 0, acA (ltOf rFr) F r.F r.nf, acK (ltOf rFr) F r.F r.nf, !Nat.beq r.ng 0, acA (ltOf rGi) G r.G r.ng, acK (ltOf rGi) G r.G r.ng, !Nat.beq r.ni 0, acA (ltOf rKy) I r.I r.ni, acK (ltOf rKy) I r.I r.ni⟩ =
    jst c n ((i + 1 : Nat) : Int) (foldI (ltOf rFr) F r.F) (foldI (ltOf rGi) G r.G) (foldI (ltOf rKy) I r.I) := by
  unfold JS.next jst
  dsimp only
  rw [nx_b lx.nf, nx_b lx.ng, nx_b lx.ni, nx_a lx.nf, nx_a lx.ng, nx_a lx.ni, nx_k lx.nf, nx_k lx.ng, nx_k lx.ni, wrap_succ (by omega : i < 9223372036854775807)]
theorem foldI_all (lt : List PV -> List PV -> Bool) (A R : List (List PV)) : foldI lt (insAll lt A) R = insAll lt (A ++ R) := by
  unfold foldI insAll
  rw [List.foldl_append]
def rj (L : List Rw) : Rw := Rw.mk' (insAll (ltOf rFr) (joF L)) (insAll (ltOf rGi) (joG L)) (insAll (ltOf rKy) (joI L))
noncomputable def LRs (N m : Nat) (c : List PV) (n i : Nat) (L : List Rw) : Option PV := LRo N m (jst c n i (insAll (ltOf rFr) (joF L)) (insAll (ltOf rGi) (joG L)) (insAll (ltOf rKy) (joI L)))
theorem rj_loop {N n : Nat} {R : List (List PV)} (hN : 1000002 <= N) (hR : rowsOk KRw R = true) (hl : R.length = n) (hn : n <= 1000000) (hk : joOk (R.map rwOf) = true) : ∀ (k i m : Nat), i + k = n -> LRs N (m + k + 1) R.flatten n i ((R.take i).map rwOf) = some (rj (R.map rwOf)).pv
  | 0, i, m, h => by
    unfold LRs
    have e : R.take i = R := by rw [List.take_of_length_le (by omega)]
    have J := JL.of hk
    rw [e, rOj, cond_f (show decide (((i : Nat) : Int) < (n : Int)) = false from by simp; omega)]
    exact exitR_ok (rows_ins J.f) (rows_ins J.g) (rows_ins J.i)
  | k + 1, i, m, h => by
    have hi : i < R.length := by omega
    have hr := rows_at0 hR hi
    have et : R.take (i + 1) = R.take i ++ [R[i]] := by rw [List.take_succ_eq_append_getElem hi]
    have hk1 : joOk ((R.take (i + 1)).map rwOf) = true := joOk_part (M := (R.drop (i + 1)).map rwOf) (by rw [<- List.map_append, List.take_append_drop]; exact hk)
    have hk0 : joOk ((R.take i).map rwOf) = true := joOk_part (M := (R.drop i).map rwOf) (by rw [<- List.map_append, List.take_append_drop]; exact hk)
    have J1 := JL.of hk1
    have J0 := JL.of hk0
    have hx : (rwOf R[i]).ok = true := J1.ok _ (List.mem_map.2 ⟨R[i], by rw [et]; exact List.mem_append_right _ List.mem_cons_self, rfl⟩)
    have lx := Rw.lists hx
    have aF : joF ((R.take (i + 1)).map rwOf) = joF ((R.take i).map rwOf) ++ (rwOf R[i]).F := by rw [et, List.map_append, joF_app]; simp [joF]
    have aG : joG ((R.take (i + 1)).map rwOf) = joG ((R.take i).map rwOf) ++ (rwOf R[i]).G := by rw [et, List.map_append, joG_app]; simp [joG]
    have aI : joI ((R.take (i + 1)).map rwOf) = joI ((R.take i).map rwOf) ++ (rwOf R[i]).I := by rw [et, List.map_append, joI_app]; simp [joI]
    have X : CX (jst R.flatten n i (insAll (ltOf rFr) (joF ((R.take i).map rwOf))) (insAll (ltOf rGi) (joG ((R.take i).map rwOf))) (insAll (ltOf rKy) (joI ((R.take i).map rwOf)))) (rwOf R[i]) (insAll (ltOf rFr) (joF ((R.take i).map rwOf))) (insAll (ltOf rGi) (joG ((R.take i).map rwOf))) (insAll (ltOf rKy) (joI ((R.take i).map rwOf))) := {
      c := rows_old hR, ok := hx, f := rows_ins J0.f, g := rows_ins J0.g, i := rows_ins J0.i,
      bf := rfl, bg := rfl, bi := rfl, af := rfl, ag := rfl, ai := rfl, kf := rfl, kg := rfl, ki := rfl,
      mf := by rw [insAll_len, <- lx.nf, <- List.length_append, <- aF]; exact J1.mf
      mg := by rw [insAll_len, <- lx.ng, <- List.length_append, <- aG]; exact J1.mg
      mi := by rw [insAll_len, <- lx.ni, <- List.length_append, <- aI]; exact J1.mi }
    have hfo := acA_o (lt := ltOf rFr) X.f lx.f (rwOf R[i]).nf
    have hgo := acA_o (lt := ltOf rGi) X.g lx.g (rwOf R[i]).ng
    obtain ⟨qf, hqf⟩ : ∃ q, N = q + (rwOf R[i]).nf + 1 := ⟨N - 1 - (rwOf R[i]).nf, by have := X.mf; omega⟩
    obtain ⟨qg, hqg⟩ : ∃ q, N = q + (rwOf R[i]).ng + 1 := ⟨N - 1 - (rwOf R[i]).ng, by have := X.mg; omega⟩
    obtain ⟨qi, hqi⟩ : ∃ q, N = q + (rwOf R[i]).ni + 1 := ⟨N - 1 - (rwOf R[i]).ni, by have := X.mi; omega⟩
    have w1 := lrpF (m := m + k + 1) X hN qf
    have w2 := lrpG (m := m + k + 1) X hN hfo (((rwOf R[i]).nf : Nat) : Int) (kF := acK (ltOf rFr) (insAll (ltOf rFr) (joF ((R.take i).map rwOf))) (rwOf R[i]).F (rwOf R[i]).nf) (pf := !Nat.beq (rwOf R[i]).nf 0) qg
    have w3 := lrpI (m := m + k + 1) X hN hfo hgo (((rwOf R[i]).nf : Nat) : Int) (((rwOf R[i]).ng : Nat) : Int) (kF := acK (ltOf rFr) (insAll (ltOf rFr) (joF ((R.take i).map rwOf))) (rwOf R[i]).F (rwOf R[i]).nf) (pf := !Nat.beq (rwOf R[i]).nf 0) (kG := acK (ltOf rGi) (insAll (ltOf rGi) (joG ((R.take i).map rwOf))) (rwOf R[i]).G (rwOf R[i]).ng) (pg := !Nat.beq (rwOf R[i]).ng 0) qi
    rw [<- hqf] at w1
    rw [<- hqg] at w2
    rw [<- hqi] at w3
    have ih := rj_loop hN hR hl hn hk k (i + 1) m (by omega)
    unfold LRs
    rw [show m + (k + 1) + 1 = (m + k + 1) + 1 from by omega, rOj, cond_t (show decide (((i : Nat) : Int) < (n : Int)) = true from by simp; omega)]
    rw [Int.toNat_natCast, show i * 3 = i * KRw.length from rfl, hr.2, hr.1, asks_of (by rw [inside (show i < n by omega)]; rfl), w1, w2, w3, next_jst lx (by omega), foldI_all, foldI_all, foldI_all, <- aF, <- aG, <- aI]
    exact ih
def gRefJoin (xs : List PV) : Option (Bool × PV) := match xs with
  | [.sl c e n none] => some (Nat.beq e 3 && (rowsC KRw n c && joOk ((chunks 3 n c).map rwOf)), (rj ((chunks 3 n c).map rwOf)).pv)
  | _ => none
theorem runRefJoin (xs : List PV) (v : PV) (h : gRefJoin xs = some (true, v)) : ∃ H, apartS EN TRA H 1000009 5 31 xs = some v := by
  unfold gRefJoin at h
  split at h
  . rename_i c e n
    simp only [Option.some.injEq, Prod.mk.injEq, Bool.and_eq_true] at h
    obtain ⟨⟨h1, h2, h3⟩, rfl⟩ := h
    rw [Nat.eq_of_beq_eq_true h1]
    obtain ⟨r1, r2, r3, r4⟩ := rowsC_ok h2
    refine ⟨HRj, (r00 1000009 c n).trans ?_⟩
    have := rj_loop (N := 1000009) (by omega) r2 r4 r1 h3 n 0 (1000008 - n) (by omega)
    rw [show 1000008 - n + n + 1 = 1000009 from by omega, r3] at this
    exact this
  . cases h
end
end Go.Proofs.YtpbemfikhmeedaaGreatDoor.Am
