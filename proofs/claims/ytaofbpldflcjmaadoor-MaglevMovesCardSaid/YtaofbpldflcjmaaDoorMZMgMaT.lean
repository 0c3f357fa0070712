/- MaglevMoves holds at all points that are well laid. -/
import Derived.Test.YtaofbpldflcjmaaDoorMZMgMaS
set_option linter.unusedVariables false
set_option linter.unusedSimpArgs false
set_option maxRecDepth 100000
set_option maxHeartbeats 4000000
namespace Go.Proofs.YtaofbpldflcjmaaDoor.Am
open St
theorem Kd.eqc_comm (k : Kd) (x y : PV) : k.eqc x y = k.eqc y x := by
  cases k <;> simp only [Kd.eqc] <;> first | rfl | exact Bool.eq_iff_iff.2 ⟨fun h => by simpa using (by simpa using h : _ = _).symm, fun h => by simpa using (by simpa using h : _ = _).symm⟩
mutual
theorem Et.eq_comm (x y : List PV) : ∀ (e : Et) (i : Nat), Et.eq x y e i = Et.eq y x e i
  | .c k, i => by simp only [Et.eq]; exact Kd.eqc_comm k _ _
  | .st l, i => by simp only [Et.eq]; exact Et.eqL_comm x y l i
theorem Et.eqL_comm (x y : List PV) : ∀ (l : List Et) (i : Nat), Et.eqL x y l i = Et.eqL y x l i
  | [], i => rfl
  | e :: l, i => by simp only [Et.eqL]; rw [Et.eq_comm x y e i, Et.eqL_comm x y l _]
end
theorem eqPt_comm (x y : List PV) : eqPt x y = eqPt y x := Et.eq_comm x y etPt 0
theorem mvC_comm (t u : Tb) : ∀ i, mvC t u i = mvC u t i
  | 0 => rfl
  | i + 1 => by
    unfold mvC
    have : dif t u i = dif u t i := by
      unfold dif
      rw [eqPt_comm]
      cases Sp.has t (i : Int) <;> cases Sp.has u (i : Int) <;> rfl
    rw [this, mvC_comm t u i]
def lwC (t u : Tb) : Nat -> Nat
  | 0 => 0
  | i + 1 => bif !(eqPt (Sp.atr t (i : Int)) (Sp.atr u (i : Int))) then lwC t u i + 1 else lwC t u i
theorem lwC_le (t u : Tb) : ∀ i, lwC t u i <= i
  | 0 => Nat.le_refl _
  | i + 1 => by
    have := lwC_le t u i
    unfold lwC
    cases !(eqPt (Sp.atr t (i : Int)) (Sp.atr u (i : Int))) with
    | true => rw [cond_true]; omega
    | false => rw [cond_false]; omega
theorem lw_mv {t u : Tb} : ∀ (i : Nat), (∀ x : Nat, x < i -> Sp.has t (x : Int) = true /\ Sp.has u (x : Int) = true) -> mvC t u i = lwC t u i
  | 0, _ => rfl
  | i + 1, h => by
    unfold mvC lwC
    have : dif t u i = !(eqPt (Sp.atr t (i : Int)) (Sp.atr u (i : Int))) := by
      unfold dif
      rw [(h i (by omega)).1, (h i (by omega)).2]
      rfl
    rw [this, lw_mv i fun x hx => h x (by omega)]
theorem flat_ivs : ∀ L : List Int, (L.map fun x => [vI x]).flatten = ivs L
  | [] => rfl
  | x :: L => by
    have ih := flat_ivs L
    unfold ivs at ih ⊢
    rw [List.map_cons, List.flatten_cons, ih]
    rfl
theorem ivs_rows (L : List Int) (h : L.length <= 1000000) : rowsC KIn L.length (ivs L) = true := by
  have hr : rowsOk KIn (L.map fun x => [vI x]) = true := by
    unfold rowsOk
    rw [List.all_eq_true]
    intro x hx
    obtain ⟨y, _, rfl⟩ := List.mem_map.1 hx
    rfl
  have := rowsC_of hr (by rw [List.length_map]; exact h)
  rw [List.length_map] at this
  rwa [flat_ivs] at this
theorem tab_ok {c : List PV} {n : Nat} {z : Int} (hz : sizedP z = true) (hg : goodP n c = true) (h1 : Sp.srn c n ≠ 0) (h2 : Sp.srn c n <= 24) : (tabT c n z).ok = true /\ ∀ i : Nat, i < z.toNat -> Sp.has (tabT c n z) (i : Int) = true := by
  obtain ⟨l1, l2⟩ := sized_lt hz
  obtain ⟨Z, rfl⟩ := Int.eq_ofNat_of_zero_le (show 0 <= z by omega)
  unfold goodP at hg
  simp only [Bool.and_eq_true] at hg
  obtain ⟨r1, r2, r3, r4⟩ := rowsC_ok hg.1
  have hR := sortP_ok r2
  have hlen := sortP_len (chunks KPt.length n c)
  have hrc : rowsC KPt (Sp.srn c n) (Sp.srt c n) = true := rowsC_of (K := KPt) hR (by show (sortP (chunks KPt.length n c)).length <= 1000000; omega)
  have I := fiS_inv (Z := Z) (k := Sp.srn c n) (C0 := cursF (Sp.srt c n) (Z : Int)) hz (by omega) (fun j _ => (newC_ok hz _).1) (fun j _ => (newC_ok hz _).2.1) (fun j _ => (newC_ok hz _).2.2) Z (Nat.le_refl _)
  have e : Sp.slt c n (Z : Int) = (fiS Z (Sp.srn c n) (cursF (Sp.srt c n) (Z : Int)) Z).2 := by unfold Sp.slt slotsP; rw [Int.toNat_natCast]
  generalize (fiS Z (Sp.srn c n) (cursF (Sp.srt c n) (Z : Int)) Z).2 = cs at I e
  generalize (fiS Z (Sp.srn c n) (cursF (Sp.srt c n) (Z : Int)) Z).1 = C at I
  have ecs := ivs_of I.cells
  have hlc : (cs.map asI).length = Z := by rw [List.length_map]; exact I.len
  have hf : frees (cs.map asI) = 0 := by have := I.free; omega
  have hrng : ∀ x ∈ cs.map asI, 0 <= x /\ x < (Sp.srn c n : Int) := fun x hx => by
    rcases I.rng x hx with h | h
    . exact absurd h (frees_none hf x hx)
    . exact h
  constructor
  . unfold Tb.ok tabT
    dsimp only
    rw [hrc, e, Int.toNat_natCast, ecs]
    have := ivs_rows (cs.map asI) (by omega)
    rw [hlc] at this
    rw [this]
    rfl
  . intro i hi
    rw [Int.toNat_natCast] at hi
    have hic : i < cs.length := by rw [I.len]; exact hi
    have hw : (tabT c n (Z : Int)).who (i : Int) = (cs.map asI)[i]'(by omega) := by
      unfold Tb.who tabT
      dsimp only
      rw [e, Int.toNat_natCast, Nat.mul_one, List.getElem_map, getD_at hic]
    have hx := hrng _ (List.getElem_mem (show i < (cs.map asI).length by omega))
    unfold Sp.has Tb.has
    rw [hw]
    unfold tabT
    dsimp only
    rw [hz, Int.toNat_natCast]
    simp only [Bool.true_and, beq_self_eq_true, Bool.and_eq_true, Bool.not_eq_true', decide_eq_false_iff_not]
    omega
theorem noT_ok : noT.ok = true := by rfl
theorem finE_ok {T U : Tb} (hT : T.ok = true) (hU : U.ok = true) (h : min T.sn U.sn = 0) : finE T U = some (.bool true) := by
  unfold finE
  rw [asks_of (all_app (tb_old hT 0) (all_app (tb_old hU 0) (ask1 (by rw [hT, hU]; rfl)))), h]
  rfl
theorem askW_ok {c d : List PV} {T U : Tb} (hc : oldL 0 c = true) (hd : oldL 0 d = true) (hT : T.ok = true) (hU : U.ok = true) : (askW c d T U).all id = true := by
  have a := tb_old hT 2
  have b := tb_old hU 2
  have c2 : oldL 2 c = true := oldL_le (Nat.zero_le _) _ hc
  have d2 : oldL 2 d = true := oldL_le (Nat.zero_le _) _ hd
  exact all_app (cons_ok c2 (cons_ok d2 (cons_ok c2 (cons_ok d2 rfl)))) (all_app a (all_app (ask1 c2) (all_app a (all_app a (all_app b (all_app (ask1 d2) (all_app b (all_app b (all_app a b)))))))))
theorem mm_loop {N n m Z : Nat} {c d : List PV} {T U : Tb} (hc : oldL 0 c = true) (hd : oldL 0 d = true) (hT : T.ok = true) (hU : U.ok = true) (hZ : Z <= 1000) (eT : T.sn = Z) (eU : U.sn = Z) (hh : ∀ x : Nat, x < Z -> Sp.has T (x : Int) = true /\ Sp.has U (x : Int) = true) :
    ∀ (q i r : Nat), i + q = Z -> LMm N (r + q + 1) c d n m (Z : Int) T U (lwC T U i : Int) (i : Int) = some (.bool true)
  | 0, i, r, e => by
    have hi : i = Z := by omega
    subst hi
    have e1 : min T.sn U.sn = i := by omega
    have e2 : min U.sn T.sn = i := by omega
    rw [mm1, cond_f (show decide ((i : Int) < (i : Int)) = false from by simp), asks_of (all_app (tb_old hT 0) (all_app (tb_old hU 0) (ask1 (by rw [hT, hU]; rfl)))), asks_of (all_app (tb_old hU 0) (all_app (tb_old hT 0) (ask1 (by rw [hT, hU]; rfl)))), e1, e2, mvC_comm U T, lw_mv i hh]
    simp
  | q + 1, i, r, e => by
    have hle := lwC_le T U i
    have ih := mm_loop (N := N) (n := n) (m := m) hc hd hT hU hZ eT eU hh q (i + 1) r (by omega)
    rw [show r + (q + 1) + 1 = (r + q + 1) + 1 from by omega, mm1, cond_t (show decide ((i : Int) < (Z : Int)) = true from by simp; omega), asks_of (all_app (tb_old hT 0) (ask1 hT)), asks_of (all_app (tb_old hU 0) (ask1 hU)), asks_of (askW_ok hc hd hT hU), asks_of (askW_ok hc hd hT hU), wrap_succ (by omega : i < 9223372036854775807), wrap_succ (by omega : lwC T U i < 9223372036854775807)]
    rw [lwC] at ih
    cases h3 : eqPt (Sp.atr T i) (Sp.atr U i) with
    | true => rw [h3] at ih; exact ih
    | false => rw [h3] at ih; exact ih
theorem fillT_of {c : List PV} {n : Nat} {z : Int} {K : Tb -> Bool -> Option PV} {v : Option PV} (hg : goodP n c = true) (h0 : K noT false = v) (h1 : sizedP z = true -> (tabT c n z).ok = true -> (∀ i : Nat, i < z.toNat -> Sp.has (tabT c n z) (i : Int) = true) -> K (tabT c n z) true = v) : fillT c n z K = v := by
  have ha : askFi 18 c n = true := by unfold askFi; rw [hg]; rfl
  unfold fillT
  rw [asks_of (ask1 ha), asks_of (ask1 ha)]
  cases hz : sizedP z with
  | false => exact h0
  | true =>
    cases strange c n with
    | true => exact h0
    | false =>
      cases hs : ((Sp.srn c n : Int) == 0) with
      | true => exact h0
      | false =>
        cases hf : (decide ((Sp.srn c n : Int) > 24) || decide ((Sp.srn c n : Int) > z)) with
        | true => exact h0
        | false =>
          simp only [Bool.or_eq_false_iff] at hf
          have q1 := of_decide_eq_false hf.1
          have q0 : Sp.srn c n ≠ 0 := by
            intro e0
            rw [e0] at hs
            cases hs
          obtain ⟨t1, t2⟩ := tab_ok hz hg q0 (by omega)
          exact h1 hz t1 t2
theorem holdsM {c d : List PV} {n m : Nat} {z : Int} (hc : n <= 40 -> goodP n c = true) (hd : m <= 40 -> goodP m d = true) : apartS EN TM3 H0 1000009 5 3 [.sl c 18 n none, .sl d 18 m none, .int .i64 z] = some (.bool true) := by
  rw [mm0]
  cases h1 : decide ((n : Int) > 40) with
  | true => rfl
  | false =>
    cases h2 : decide ((m : Int) > 40) with
    | true => rfl
    | false =>
      have q1 := of_decide_eq_false h1
      have q2 := of_decide_eq_false h2
      have gc := hc (by omega)
      have gd := hd (by omega)
      have old : ∀ {c : List PV} {n : Nat}, goodP n c = true -> oldL 0 c = true := fun {c n} h => by
        unfold goodP at h
        simp only [Bool.and_eq_true] at h
        obtain ⟨r1, r2, r3, r4⟩ := rowsC_ok h.1
        rw [<- r3]
        exact rows_old r2
      rw [cond_false, cond_false, asks_of (ask1 (old gc))]
      refine fillT_of gc ?_ fun hz t1 t2 => ?_
      . rw [asks_of (ask1 (old gd))]
        refine fillT_of gd (finE_ok noT_ok noT_ok rfl) fun hz u1 u2 => ?_
        exact finE_ok noT_ok u1 (Nat.zero_min _)
      . rw [asks_of (ask1 (old gd))]
        refine fillT_of gd (finE_ok t1 noT_ok (Nat.min_zero _)) fun _ u1 u2 => ?_
        obtain ⟨l1, l2⟩ := sized_lt hz
        obtain ⟨Z, rfl⟩ := Int.eq_ofNat_of_zero_le (show 0 <= z by omega)
        have main := mm_loop (N := 1000009) (n := n) (m := m) (old gc) (old gd) t1 u1 (Z := Z) (by omega) rfl rfl (fun x hx => ⟨t2 x (by rw [Int.toNat_natCast]; exact hx), u2 x (by rw [Int.toNat_natCast]; exact hx)⟩) Z 0 (1000008 - Z) (by omega)
        rw [show 1000008 - Z + Z + 1 = 1000009 from by omega] at main
        exact main
theorem lawM {c d : List PV} {n m : Nat} {z : Int} (hc : n <= 40 -> goodP n c = true) (hd : m <= 40 -> goodP m d = true) : ∃ K, apartA EN (runA EN 1000009 K) 3 [.sl c 18 n none, .sl d 18 m none, .int .i64 z] = some (.bool true) := by
  obtain ⟨K, hT⟩ := TM3ok
  exact ⟨_, apartS_ok (K := K) (d := 5) hT (by rfl) (holdsM hc hd)⟩
end Go.Proofs.YtaofbpldflcjmaaDoor.Am
