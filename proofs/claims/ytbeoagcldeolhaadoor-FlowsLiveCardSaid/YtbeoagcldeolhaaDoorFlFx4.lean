/- FlowsLive: which flows are right and live; the law at all flows. -/
import Derived.Test.YtbeoagcldeolhaaDoorFlFx3
set_option linter.unusedVariables false
set_option linter.unusedSimpArgs false
set_option maxRecDepth 100000
set_option maxHeartbeats 4000000
namespace Go.Proofs.YtbeoagcldeolhaaDoor.Am

theorem runRiC {N : Nat} (hN : 50 ≤ N) (xs : List PV) (v : PV) (h : gRi xs = some (true, v)) : ∃ H, apartS EN TA6 H N 5 7 xs = some v := by
  obtain ⟨N, rfl⟩ : ∃ k, N = k + 50 := ⟨N - 50, by omega⟩
  unfold gRi at h
  split at h
  · rename_i x
    simp only [Option.map_eq_some_iff, Prod.mk.injEq, Bool.and_eq_true, decide_eq_true_eq] at h
    obtain ⟨f, h1, ⟨l1, l2, l3⟩, rfl⟩ := h
    rw [asFl_ok h1]
    refine ⟨H0, (t7 N f).trans ?_⟩
    simp only [l1, l2, l3, decide_true, Bool.and_true, ass_true]
    unfold Sp.riS Sp.ptOk
    generalize Sp.adOk f.client.ad = a1
    generalize Sp.adOk f.front.ad = b1
    generalize Sp.adOk f.backend.ad = c1
    generalize (Sp.label f.key.space && Sp.label f.key.name) = k
    generalize Sp.label f.name = l
    have ea : ∀ n : Int, decide (n ≥ 1) = decide (1 ≤ n) := fun n => rfl
    have eb : decide (f.last ≥ 0) = decide (0 ≤ f.last) := rfl
    rw [ea, ea, ea, eb]
    generalize decide (1 ≤ f.client.port) = a2
    generalize decide (f.client.port ≤ 65535) = a3
    generalize decide (1 ≤ f.front.port) = b2
    generalize decide (f.front.port ≤ 65535) = b3
    generalize decide (1 ≤ f.backend.port) = c2
    generalize decide (f.backend.port ≤ 65535) = c3
    generalize decide (0 ≤ f.last) = t
    generalize (f.proto == 6) = p
    generalize (f.proto == 17) = q
    cases a1 with
    | false => cases p <;> cases q <;> rfl
    | true =>
      cases a2 with
      | false => cases p <;> cases q <;> rfl
      | true =>
        cases a3 with
        | false => cases p <;> cases q <;> rfl
        | true =>
          cases b1 with
          | false => cases p <;> cases q <;> rfl
          | true =>
            cases b2 with
            | false => cases p <;> cases q <;> rfl
            | true =>
              cases b3 with
              | false => cases p <;> cases q <;> rfl
              | true =>
                cases c1 with
                | false => cases p <;> cases q <;> rfl
                | true =>
                  cases c2 with
                  | false => cases p <;> cases q <;> rfl
                  | true =>
                    cases p <;> cases q <;> cases c3 <;> cases k <;> cases l <;> cases t <;> rfl
  · cases h

theorem runRiR {N : Nat} (hN : 50 ≤ N) (xs : List PV) (v : PV) (h : gRi xs = some (true, v)) : ∃ H, apartS EN TA7 H N 5 8 xs = some v := by
  obtain ⟨N, rfl⟩ : ∃ k, N = k + 50 := ⟨N - 50, by omega⟩
  unfold gRi at h
  split at h
  · rename_i x
    simp only [Option.map_eq_some_iff, Prod.mk.injEq, Bool.and_eq_true, decide_eq_true_eq] at h
    obtain ⟨f, h1, ⟨l1, l2, l3⟩, rfl⟩ := h
    rw [asFl_ok h1]
    refine ⟨H0, (t8 N f).trans ?_⟩
    simp only [l1, l2, l3, decide_true, Bool.and_true, ass_true]
    unfold Sp.riS Sp.ptOk
    generalize Sp.adOk f.client.ad = a1
    generalize Sp.adOk f.front.ad = b1
    generalize Sp.adOk f.backend.ad = c1
    generalize (Sp.label f.key.space && Sp.label f.key.name) = k
    generalize Sp.label f.name = l
    have ea : ∀ n : Int, decide (n > 0) = decide (1 ≤ n) := fun n => decide_eq_decide.2 (by omega)
    have ec : ∀ n : Int, decide (n < 65536) = decide (n ≤ 65535) := fun n => decide_eq_decide.2 (by omega)
    have eb : decide (f.last ≥ 0) = decide (0 ≤ f.last) := rfl
    rw [ea, ea, ea, ec, ec, ec, eb]
    generalize decide (1 ≤ f.client.port) = a2
    generalize decide (f.client.port ≤ 65535) = a3
    generalize decide (1 ≤ f.front.port) = b2
    generalize decide (f.front.port ≤ 65535) = b3
    generalize decide (1 ≤ f.backend.port) = c2
    generalize decide (f.backend.port ≤ 65535) = c3
    generalize decide (0 ≤ f.last) = t
    generalize (f.proto == 6) = p
    generalize (f.proto == 17) = q
    cases a1 with
    | false => cases p <;> cases q <;> rfl
    | true =>
      cases a2 with
      | false => cases p <;> cases q <;> rfl
      | true =>
        cases a3 with
        | false => cases p <;> cases q <;> rfl
        | true =>
          cases b1 with
          | false => cases p <;> cases q <;> rfl
          | true =>
            cases b2 with
            | false => cases p <;> cases q <;> rfl
            | true =>
              cases b3 with
              | false => cases p <;> cases q <;> rfl
              | true =>
                cases c1 with
                | false => cases p <;> cases q <;> rfl
                | true =>
                  cases c2 with
                  | false => cases p <;> cases q <;> rfl
                  | true =>
                    cases p <;> cases q <;> cases c3 <;> cases k <;> cases l <;> cases t <;> rfl
  · cases h

theorem in64_ok {n : Int} (h : in64 n = true) : -9223372036854775808 ≤ n ∧ n ≤ 9223372036854775807 := by
  unfold in64 at h
  simpa using h

theorem u64_sub {a b : Int} (ha : in64 a = true) (hb : in64 b = true) (h : b ≤ a) : IntKind.u64.wrap (IntKind.u64.wrap a - IntKind.u64.wrap b) = a - b := by
  have h1 := in64_ok ha
  have h2 := in64_ok hb
  have e : ∀ n : Int, IntKind.u64.wrap n = n % 18446744073709551616 := fun n => by simp [IntKind.wrap, IntKind.signed, IntKind.bits]
  rw [e, e, e]
  omega

theorem runLiC {N : Nat} (xs : List PV) (v : PV) (h : gLi xs = some (true, v)) : ∃ H, apartS EN TA8 H N 5 9 xs = some v := by
  unfold gLi at h
  split at h
  · rename_i x now
    simp only [Option.map_eq_some_iff, Prod.mk.injEq, Bool.and_eq_true] at h
    obtain ⟨f, h1, ⟨l1, l2⟩, rfl⟩ := h
    rw [asFl_ok h1]
    refine ⟨H0, (t9 N f now).trans ?_⟩
    have w1 : IntKind.u64.wrap 10 = 10 := rfl
    have w2 : IntKind.u64.wrap 120 = 120 := rfl
    have w3 : IntKind.u64.wrap 40 = 40 := rfl
    unfold Sp.liS Sp.most
    by_cases hlt : now < f.last
    · simp [hlt]
    · rw [u64_sub l2 l1 (by omega), w1, w2, w3]
      simp only [hlt, decide_false, cond_false, Bool.false_or]
      cases f.closing <;> cases f.proto == 6 <;> rfl
  · cases h

noncomputable def LLi (N m : Nat) (f : Flw) (most now now0 i : Int) (p q r : Bool) : Option PV := loopS EN TA9 H0 N 5 10 Tryd.f10 [1, 1, 1, 1, 1, 0, 1, 0] ([true, true, true, false, true, true, true, true, true, true, true, true, true, true, true, true] ++ List.replicate 11 false) 1 m ([some (PV.agg f.cs), some (PV.int .i64 now), some (PV.ptr 0 1 0), none, some (PV.bool false), some (PV.int .i64 most), some (PV.int .i64 i), some (PV.ptr 0 1 0), some (PV.int .i64 f.proto), some (PV.bool p), some (PV.ptr 0 1 60), some (PV.bool q), some (PV.int .i64 now0), some (PV.ptr 0 1 59), some (PV.int .i64 f.last), some (PV.bool r)] ++ List.replicate 11 none) [Ob.mem ⟨f.cs, 61, 1, true, false, true⟩]

theorem t10r (N : Nat) (m : Nat) (f : Flw) (most : Int) (now : Int) (now0 : Int) (i : Int) (p : Bool) (q : Bool) (r : Bool) : LLi N (m + 1) f most now now0 i p q r =
  (bif decide (i < most) then
    (bif now == f.8 then
      (some (PV.bool true))
    else
      (LLi N (m) (f) (most) (IntKind.i64.wrap (now - 1)) (now0) (IntKind.i64.wrap (i + 1)) (p) (q) (r)))
  else
    (some (PV.bool false))) := by kernel_rfl

theorem t10 (N : Nat) (f : Flw) (now : Int) : apartS EN TA9 H0 N 5 10 [PV.agg f.cs, PV.int IntKind.i64 now] =
  (bif f.proto == 6 then
    (bif f.closing then (bif decide (now < f.last) then some (PV.bool true) else LLi N N f 10 now now 0 true true false)
    else (bif decide (now < f.last) then some (PV.bool true) else LLi N N f 120 now now 0 true false false))
  else
    (bif f.closing then (bif decide (now < f.last) then some (PV.bool true) else LLi N N f 10 now now 0 false true false)
    else (bif decide (now < f.last) then some (PV.bool true) else LLi N N f 40 now now 0 false false false))) := by kernel_rfl

theorem loopLi (N : Nat) (f : Flw) (hl : in64 f.last = true) (most now0 : Int) (hmost : most ≤ 1000) (p q r : Bool) : ∀ (k : Nat) (m : Nat) (i now : Int), most - i = k → 0 ≤ i → k < m → f.last ≤ now → in64 now = true →
    LLi N m f most now now0 i p q r = some (.bool (decide (now - f.last < most - i)))
  | 0, m, i, now, hk, hi, hm, hn, h64 => by
    obtain ⟨m, rfl⟩ : ∃ q, m = q + 1 := ⟨m - 1, by omega⟩
    rw [t10r]
    have c1 : ¬ i < most := by omega
    have c2 : ¬ now - f.last < most - i := by omega
    simp only [c1, c2, decide_false, cond_false]
  | k + 1, m, i, now, hk, hi, hm, hn, h64 => by
    obtain ⟨m, rfl⟩ : ∃ q, m = q + 1 := ⟨m - 1, by omega⟩
    rw [t10r]
    have c1 : i < most := by omega
    have h1 := in64_ok hl
    have h2 := in64_ok h64
    by_cases he : now = f.last
    · have c2 : now - f.last < most - i := by omega
      subst he
      simp only [c1, c2, decide_true, cond_true, beq_self_eq_true]
    · have w1 : IntKind.i64.wrap (now - 1) = now - 1 := wrap_in (by omega) (by omega)
      have w2 : IntKind.i64.wrap (i + 1) = i + 1 := wrap_in (by omega) (by omega)
      have ih := loopLi N f hl most now0 hmost p q r k m (i + 1) (now - 1) (by omega) (by omega) (by omega) (by omega) (by unfold in64; simp; omega)
      have c2 : (now == f.last) = false := by simpa using he
      have c3 : decide (now - 1 - f.last < most - (i + 1)) = decide (now - f.last < most - i) := decide_eq_decide.2 (by omega)
      rw [w1, w2, ih, c3]
      have c2' : (now == f.8) = false := c2
      rw [c2']
      simp only [c1, decide_true, cond_true, cond_false]

theorem runLiR {N : Nat} (hN : 1001 ≤ N) (xs : List PV) (v : PV) (h : gLi xs = some (true, v)) : ∃ H, apartS EN TA9 H N 5 10 xs = some v := by
  unfold gLi at h
  split at h
  · rename_i x now
    simp only [Option.map_eq_some_iff, Prod.mk.injEq, Bool.and_eq_true] at h
    obtain ⟨f, h1, ⟨l1, l2⟩, rfl⟩ := h
    rw [asFl_ok h1]
    refine ⟨H0, (t10 N f now).trans ?_⟩
    unfold Sp.liS Sp.most
    by_cases hlt : now < f.last
    · simp [hlt]
    · have hge : f.last ≤ now := by omega
      rw [loopLi N f l1 10 now (by omega) true true false 10 N 0 now (by omega) (by omega) (by omega) hge l2, loopLi N f l1 120 now (by omega) true false false 120 N 0 now (by omega) (by omega) (by omega) hge l2,
        loopLi N f l1 10 now (by omega) false true false 10 N 0 now (by omega) (by omega) (by omega) hge l2, loopLi N f l1 40 now (by omega) false false false 40 N 0 now (by omega) (by omega) (by omega) hge l2]
      simp only [hlt, decide_false, cond_false, Bool.false_or, Int.sub_zero]
      cases f.closing <;> cases f.proto == 6 <;> rfl
  · cases h

theorem pureN {f : FuncId} (h2 : Nat.beq f 112 = false) (xs : List PV) : EN.pure f xs = none := by
  show pureT f xs = none
  unfold pureT
  rw [h2]
  rfl

def isTrue : Option PV → Bool
  | some (.bool b) => b
  | _ => false

theorem isTrue_eq : ∀ {x : Option PV}, isTrue x = true → x = some (.bool true)
  | some (.bool true), _ => rfl

theorem aliveF : apartA EN (runA EN 1000009 60) 5 [] = some (.bool true) := isTrue_eq (by kernel_rfl)

theorem TFl_ok : TOk EN TFl (runA EN 1000009 9000) := by
  have hTL := Tadd_ok2 (K := 0) (K' := 0) T0_ok T0_ok (pureN rfl) (fun xs v h => run50 (N := 1000009) (by decide) xs v h)
  have hTR := Tadd_ok2 (K' := 0) hTL T0_ok (pureN rfl) (fun xs v h => run51 (N := 1000009) (by decide) xs v h)
  have hTrim := Tadd_ok2 hTR hTR (pureN rfl) (fun xs v h => run31 (N := 1000009) (by decide) xs v h)
  have hLab := Tadd_ok2 hTrim hTrim (pureN rfl) (fun xs v h => run19 (N := 1000009) xs v h)
  have hRLab := Tadd_ok2 (K' := 0) hLab T0_ok (pureN rfl) (fun xs v h => run20 (N := 1000009) (by decide) xs v h)
  have hRLab' : TOk EN TRLab (runA EN 1000009 90) := hRLab.le (runA_le' _ (by decide))
  have hKey := Tadd_ok2 hRLab' hRLab' (pureN rfl) (fun xs v h => run21 (N := 1000009) xs v h)
  have hRKey := Tadd_ok2 hKey hRLab' (pureN rfl) (fun xs v h => run22 (N := 1000009) xs v h)
  have hRKey' : TOk EN TRKey (runA EN 1000009 400) := hRKey.le (runA_le' _ (by decide))
  have k0 := Tadd_ok hRKey' (pureN rfl) (fun xs v h => runTRB (N := 1000009) (by decide) xs v h)
  have k1 := Tadd_ok k0 (pureN rfl) (fun xs v h => runTLB (N := 1000009) (by decide) xs v h)
  have k2 := Tadd_ok k1 (pureN rfl) (fun xs v h => runNaN (N := 1000009) xs v h)
  have k3 := Tadd_ok k2 (pureN rfl) (fun xs v h => runCmp (N := 1000009) xs v h)
  have k4 := Tadd_ok k3 (pureN rfl) (fun xs v h => runOr (N := 1000009) (by decide) xs v h)
  have k5 := Tadd_ok k4 (pureN rfl) (fun xs v h => runAdC (N := 1000009) xs v h)
  have k6 := Tadd_ok k5 (pureN rfl) (fun xs v h => runAdR (N := 1000009) (by decide) xs v h)
  have k7 := Tadd_ok k6 (pureN rfl) (fun xs v h => runAR (N := 1000009) (by decide) xs v h)
  have k8 := Tadd_ok k7 (pureN rfl) (fun xs v h => runRR (N := 1000009) (by decide) xs v h)
  have k9 := Tadd_ok k8 (pureN rfl) (fun xs v h => runPtC (N := 1000009) (by decide) xs v h)
  have k10 := Tadd_ok k9 (pureN rfl) (fun xs v h => runPtR (N := 1000009) (by decide) xs v h)
  have k11 := Tadd_ok k10 (pureN rfl) (fun xs v h => runRiC (N := 1000009) (by decide) xs v h)
  have k12 := Tadd_ok k11 (pureN rfl) (fun xs v h => runRiR (N := 1000009) (by decide) xs v h)
  have k13 := Tadd_ok k12 (pureN rfl) (fun xs v h => runLiC (N := 1000009) xs v h)
  have k14 := Tadd_ok k13 (pureN rfl) (fun xs v h => runLiR (N := 1000009) (by decide) xs v h)
  have k15 := Tadd_ok k14 (pureN rfl) (fun xs v h => runFcC (N := 1000009) (by decide) xs v h)
  have k16 := Tadd_ok k15 (pureN rfl) (fun xs v h => runFcR (N := 1000009) (by decide) xs v h)
  have k16' : TOk EN TA12 (runA EN 1000009 9000) := k16.le (runA_le' _ (by decide))
  refine Tadd_run k16' fun xs v h => ?_
  unfold gYes at h
  split at h
  · cases h; exact apartA_le (runA_le' _ (by decide)) aliveF
  · cases h

theorem fc_eq (f g : Flw) (h1 : Ok8 f.client.ad.b) (h2 : Ok8 g.client.ad.b) (h3 : Ok8 f.front.ad.b) (h4 : Ok8 g.front.ad.b) : Sp.fcC f g = Sp.fcR f g := by
  unfold Sp.fcC Sp.fcR
  rw [pt_eq _ _ h1 h2, pt_eq _ _ h3 h4]
  simp only [orr, cmpI]
  have hne : (f.proto != g.proto) = !(f.proto == g.proto) := rfl
  rcases Int.lt_trichotomy f.proto g.proto with h | h | h
  · have : (f.proto == g.proto) = false := by rw [beq_eq_false_iff_ne]; omega
    simp [h, this, hne]
  · have a1 : ¬ f.proto < g.proto := by omega
    have a2 : ¬ f.proto > g.proto := by omega
    simp only [h, a1, a2, Int.lt_irrefl, gt_iff_lt, decide_false, cond_false, bne_self_eq_false]
    cases ptR f.client g.client != 0
    · simp only [cond_false]
      cases hq : ptR f.front g.front != 0
      · have : ptR f.front g.front = 0 := by simpa using hq
        rw [this]; rfl
      · rfl
    · rfl
  · have a1 : ¬ f.proto < g.proto := by omega
    have : (f.proto == g.proto) = false := by rw [beq_eq_false_iff_ne]; omega
    simp [h, a1, this, hne]

theorem law_true (f g : Flw) (now : Int) (h1 : Ok8 f.client.ad.b) (h2 : Ok8 g.client.ad.b) (h3 : Ok8 f.front.ad.b) (h4 : Ok8 g.front.ad.b) (h5 : in64 f.last = true) (h6 : in64 now = true) : lawT f g now = some (.bool true) := by
  unfold lawT
  by_cases a1 : (f.name.length : Int) > 100
  · simp [a1]
  by_cases a2 : (f.key.space.length : Int) > 100
  · simp [a1, a2]
  by_cases a3 : (f.key.name.length : Int) > 100
  · simp [a1, a2, a3]
  by_cases a4 : (g.name.length : Int) > 100
  · simp [a1, a2, a3, a4]
  by_cases a5 : (g.key.space.length : Int) > 100
  · simp [a1, a2, a3, a4, a5]
  by_cases a6 : (g.key.name.length : Int) > 100
  · simp [a1, a2, a3, a4, a5, a6]
  have l1 : f.key.space.length ≤ 1000000 := by omega
  have l2 : f.key.name.length ≤ 1000000 := by omega
  have l3 : f.name.length ≤ 1000000 := by omega
  simp only [a1, a2, a3, a4, a5, a6, l1, l2, l3, h5, h6, decide_false, decide_true, cond_false, cond_true, Bool.and_true, ass_true, beq_self_eq_true, fc_eq f g h1 h2 h3 h4]

theorem holds3 {N : Nat} (hN : 50 ≤ N) (f g : Flw) (now : Int) (h1 : Ok8 f.client.ad.b) (h2 : Ok8 g.client.ad.b) (h3 : Ok8 f.front.ad.b) (h4 : Ok8 g.front.ad.b) (h5 : in64 f.last = true) (h6 : in64 now = true) :
    apartS EN TFl H0 N 5 3 [.agg f.cs, .agg g.cs, .int .i64 now] = some (.bool true) := by
  obtain ⟨N, rfl⟩ : ∃ k, N = k + 50 := ⟨N - 50, by omega⟩
  exact (t3 N f g now).trans (law_true f g now h1 h2 h3 h4 h5 h6)

theorem flows_law (f g : Flw) (now : Int) (h1 : Ok8 f.client.ad.b) (h2 : Ok8 g.client.ad.b) (h3 : Ok8 f.front.ad.b) (h4 : Ok8 g.front.ad.b) (h5 : in64 f.last = true) (h6 : in64 now = true) :
    apartA EN (runA EN 1000009 9006) 3 [.agg f.cs, .agg g.cs, .int .i64 now] = some (.bool true) :=
  apartS_ok (K := 9000) (d := 5) TFl_ok (pureN rfl _) (holds3 (by decide) f g now h1 h2 h3 h4 h5 h6)

end Go.Proofs.YtbeoagcldeolhaaDoor.Am
