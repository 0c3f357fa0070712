/- NamesKeys: the law at every text and key; all summaries joined. -/
import Derived.Test.YtbnfofcbajaiiaaDoorNk4
import Derived.Test.YtbnfofcbajaiiaaDoorLaid
set_option linter.unusedVariables false
set_option linter.unusedSimpArgs false
set_option maxRecDepth 100000
set_option maxHeartbeats 4000000
namespace Go.Proofs.YtbnfofcbajaiiaaDoor.Am

theorem no47 {a : List UInt8} (h : Sp.label a = true) : ∀ b ∈ a, b ≠ 47 := by
  unfold Sp.label at h
  simp only [Bool.and_eq_true] at h
  intro b hb e
  subst e
  have := List.all_eq_true.1 h.2.2.2.2 47 hb
  rw [lb47] at this
  cases this

/-- The law at every text and every key. -/
theorem holds5 (N : Nat) (s a b : List UInt8) : apartS EN TAll H0 N 5 5 [.str s, .agg [.str a, .str b]] = some (.bool true) := by
  rw [t5]
  by_cases h1 : (s.length : Int) > 100
  · simp [h1]
  by_cases h2 : (a.length : Int) > 100
  · simp [h1, h2]
  by_cases h3 : (b.length : Int) > 100
  · simp [h1, h2, h3]
  have l1 : s.length ≤ 1000000 := by omega
  have l2 : a.length ≤ 1000000 := by omega
  have l3 : b.length ≤ 1000000 := by omega
  have l4 : a.length + 1 ≤ 4611686018427387904 := by omega
  have e : (a.append [47]).length = a.length + 1 := by show (a ++ [47]).length = _; simp
  have l5 : a.length + 1 + b.length ≤ 4611686018427387904 := by omega
  have rest : (bif !(Sp.label a && Sp.label b) then some (PV.bool (Sp.keyText a b == []))
      else bif Sp.isKey (Sp.keyText a b) then (ass (decide ((Sp.keyText a b).length ≤ 1000000)) <| bif Sp.keyText a b == (a.append [47]).append b then some (PV.bool (Sp.fore (Sp.keyText a b) == a && Sp.aft (Sp.keyText a b) == b)) else some (PV.bool false))
        else (ass (decide ((Sp.keyText a b).length ≤ 1000000)) <| bif Sp.keyText a b == (a.append [47]).append b then some (PV.bool false) else some (PV.bool false))) = some (PV.bool true) := by
    cases hk : Sp.label a && Sp.label b with
    | false =>
      have : Sp.keyText a b = [] := by unfold Sp.keyText; rw [hk]; rfl
      rw [this]
      rfl
    | true =>
      have hkt : Sp.keyText a b = a ++ 47 :: b := by unfold Sp.keyText; rw [hk]; simp
      simp only [Bool.and_eq_true] at hk
      obtain ⟨f1, f2⟩ := fore_app (no47 hk.1) (47 :: b)
      rw [(fore_slash b).1, List.append_nil] at f1
      rw [(fore_slash b).2] at f2
      have hik : Sp.isKey (a ++ 47 :: b) = true := by unfold Sp.isKey; rw [f1, f2, hk.1, hk.2]; rfl
      have he : ((a.append [47]).append b) = a ++ 47 :: b := by show (a ++ [47]) ++ b = _; simp
      rw [hkt, hik, he]
      simp only [Bool.not_true, cond_false, cond_true, beq_self_eq_true, f1, f2, Bool.and_true]
      exact ass_intro (by simp only [List.length_append, List.length_cons, decide_eq_true_eq]; omega) rfl
  simp only [h1, h2, h3, l1, l2, l3, l4, e, l5, decide_true, decide_false, cond_false, Bool.and_true, ass_true, beq_self_eq_true, Bool.not_true]
  cases hk : Sp.isKey s
  · simp only [cond_false]
    exact rest
  · simp only [cond_true]
    exact rest

def isTrue : Option PV → Bool
  | some (.bool b) => b
  | _ => false

theorem isTrue_eq : ∀ {x : Option PV}, isTrue x = true → x = some (.bool true)
  | some (.bool true), _ => rfl

def isNum (n : Nat) : Option PV → Bool
  | some (.int .i64 (.ofNat k)) => Nat.beq k n
  | _ => false

theorem isNum_eq {n : Nat} : ∀ {x : Option PV}, isNum n x = true → x = some (.int .i64 n)
  | some (.int .i64 (.ofNat k)), h => by
    have : k = n := Nat.eq_of_beq_eq_true h
    rw [this]; rfl

theorem num0 : apartA EN (runA EN 1000009 20) 11 [.nilif] = some (.int .i64 0) := isNum_eq (n := 0) (by kernel_rfl)

theorem nums : ((List.range 18).all fun g => isNum (g + 1) (apartA EN (runA EN 1000009 20) 11 [.iface 188 (.gptr g)])) = true := by kernel_rfl

theorem runNum (xs : List PV) (v : PV) (h : gNum xs = some (true, v)) : apartA EN (runA EN 1000009 20) 11 xs = some v := by
  unfold gNum at h
  split at h
  · cases h; exact num0
  · rename_i t g
    simp only [Option.some.injEq, Prod.mk.injEq, Bool.and_eq_true] at h
    obtain ⟨⟨h1, h2⟩, rfl⟩ := h
    have h1 := Nat.eq_of_beq_eq_true h1
    subst h1
    have hg : g < 18 := Nat.le_of_ble_eq_true h2
    have := List.all_eq_true.1 nums g (by simp [hg])
    exact isNum_eq this
  · cases h

theorem pureN {f : FuncId} (h1 : Nat.beq f 25 = false) (h2 : Nat.beq f 86 = false) (xs : List PV) : EN.pure f xs = none := by
  show pureT f xs = none
  unfold pureT
  rw [h1, h2]
  rfl

theorem aliveK : apartA EN (runA EN 1000009 40) 16 [] = some (.bool true) := isTrue_eq (by kernel_rfl)

theorem TAll_ok : TOk EN TAll (runA EN 1000009 3000) := by
  have hIx : TOk EN TIx (runA EN 1000009 0) := Tadd_of T0_ok fun xs v h => by
    unfold gIx at h
    split at h
    · cases h; rfl
    · cases h
  have hTL := Tadd_ok2 (K' := 0) hIx T0_ok (pureN rfl rfl) (fun xs v h => run50 (N := 1000009) (by decide) xs v h)
  have hTR := Tadd_ok2 (K' := 0) hTL T0_ok (pureN rfl rfl) (fun xs v h => run51 (N := 1000009) (by decide) xs v h)
  have hTrim := Tadd_ok2 hTR hTR (pureN rfl rfl) (fun xs v h => run31 (N := 1000009) (by decide) xs v h)
  have hLab := Tadd_ok2 hTrim hTrim (pureN rfl rfl) (fun xs v h => run19 (N := 1000009) xs v h)
  have hRLab := Tadd_ok2 (K' := 0) hLab T0_ok (pureN rfl rfl) (fun xs v h => run20 (N := 1000009) (by decide) xs v h)
  have hRLab' : TOk EN TRLab (runA EN 1000009 90) := hRLab.le (runA_le' _ (by decide))
  have hKey := Tadd_ok2 hRLab' hRLab' (pureN rfl rfl) (fun xs v h => run21 (N := 1000009) xs v h)
  have hRKey := Tadd_ok2 hKey hRLab' (pureN rfl rfl) (fun xs v h => run22 (N := 1000009) xs v h)
  have hRKey' : TOk EN TRKey (runA EN 1000009 400) := hRKey.le (runA_le' _ (by decide))
  have hPar := TaddT_ok2 hRKey' hRKey' (pureN rfl rfl) (fun xs t v h hv => run17 (N := 1000009) (by decide) xs t v h hv)
  have hRPar := TaddT_ok2 hPar hRKey' (pureN rfl rfl) (fun xs t v h hv => run18 (N := 1000009) (by decide) xs t v h hv)
  have hFmt := Tadd_ok2 hRPar hRKey' (pureN rfl rfl) (fun xs v h => run23 (N := 1000009) xs v h)
  have hFmt' : TOk EN TFmt (runA EN 1000009 3000) := hFmt.le (runA_le' _ (by decide))
  have hNum : TOk EN TNum (runA EN 1000009 3000) := Tadd_run hFmt' (fun xs v h => apartA_le (runA_le' _ (by decide)) (runNum xs v h))
  refine Tadd_run hNum fun xs v h => ?_
  unfold gYes at h
  split at h
  · cases h; exact apartA_le (runA_le' _ (by decide)) aliveK
  · cases h

theorem law5 (s a b : List UInt8) : apartA EN (runA EN 1000009 3006) 5 [.str s, .agg [.str a, .str b]] = some (.bool true) :=
  apartS_ok (K := 3000) (d := 5) TAll_ok (pureN rfl rfl _) (holds5 1000009 s a b)

end Go.Proofs.YtbnfofcbajaiiaaDoor.Am
