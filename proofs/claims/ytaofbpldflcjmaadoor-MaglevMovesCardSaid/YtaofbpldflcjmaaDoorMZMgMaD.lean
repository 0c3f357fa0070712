/- ports.Sort: what it answers. -/
import Derived.Test.YtaofbpldflcjmaaDoorMZMgCqP
import Derived.Test.YtaofbpldflcjmaaDoorMZMgMaC
set_option linter.unusedVariables false
set_option linter.unusedSimpArgs false
set_option maxRecDepth 100000
set_option maxHeartbeats 4000000
namespace Go.Proofs.YtaofbpldflcjmaaDoor.Am
open St CP
def srtP (c : List PV) (n : Nat) : List PV := (insAll (ltOf cPo) (chunks 18 n c)).flatten
def askSoP (c : List PV) (n : Nat) : Bool := Nat.beq 0 0 && (Nat.beq 26 26 && (Nat.beq n n && (Nat.beq n n && (Nat.beq 18 KPo.length && (Nat.beq 18 KPo.length && (!false && (rowsC KPo n c && (chunks KPo.length n c).all (goodR KPo))))))))
def unqP (c : List PV) (n : Nat) : List (List PV) := uniq eqPt (chunks 18 n c)
def sortP (R : List (List PV)) : List (List PV) := uniq eqPt (insAll (ltOf cPo) R)
theorem s5P (N : Nat) (c : List PV) (n : Nat) : apartS EN TCm H0 (N + 50) 5 14 [.sl c 18 n none] =
  asks [decide (n <= 1048576) && c.all PV.oneCell] (bif decide (n = 0) then some (.sl [] 18 0 none) else
    asks [oldL 0 c] <| asks [askSoP c n] <| asks [oldL 0 (srtP c n)] <| asks [oldL 0 (srtP c n)] <| asks [oldL 0 (srtP c n)] <| asks [n == n && (n == n && rowsC KPt n (srtP c n))] <|
    asks [oldL 0 (outC n (unqP (srtP c n) n) Zk)] <| asks (sealAskW (outC n (unqP (srtP c n) n) Zk) n (unqP (srtP c n) n).length 18) <|
    asks [oldL 0 (((outC n (unqP (srtP c n) n) Zk).drop 0).take ((unqP (srtP c n) n).length * 18))] <|
    some (.sl (((outC n (unqP (srtP c n) n) Zk).drop 0).take ((unqP (srtP c n) n).length * 18)) 18 (unqP (srtP c n) n).length none)) := by kernel_rfl
theorem uqF_in (eq : List PV -> List PV -> Bool) : ∀ (R : List (List PV)) (p x : List PV), x ∈ uqF eq p R -> x ∈ R
  | [], p, x, h => by cases h
  | y :: R, p, x, h => by
    unfold uqF at h
    cases hb : eq y p with
    | true => rw [hb, cond_true] at h; exact List.mem_cons_of_mem _ (uqF_in eq R y x h)
    | false =>
      rw [hb, cond_false] at h
      rcases List.mem_cons.1 h with h | h
      . rw [h]; exact List.mem_cons_self
      . exact List.mem_cons_of_mem _ (uqF_in eq R y x h)
theorem uqF_len (eq : List PV -> List PV -> Bool) : ∀ (R : List (List PV)) (p : List PV), (uqF eq p R).length <= R.length
  | [], p => Nat.le_refl _
  | y :: R, p => by
    unfold uqF
    cases eq y p with
    | true =>
      have h := uqF_len eq R y
      show (uqF eq y R).length <= (y :: R).length
      rw [List.length_cons]
      omega
    | false =>
      have h := uqF_len eq R y
      show (y :: uqF eq y R).length <= (y :: R).length
      rw [List.length_cons, List.length_cons]
      omega
theorem uniq_in {eq : List PV -> List PV -> Bool} {R : List (List PV)} {x : List PV} (h : x ∈ uniq eq R) : x ∈ R := by
  cases R with
  | nil => cases h
  | cons y R =>
    unfold uniq at h
    rcases List.mem_cons.1 h with h | h
    . rw [h]; exact List.mem_cons_self
    . exact List.mem_cons_of_mem _ (uqF_in eq R y x h)
theorem uniq_len (eq : List PV -> List PV -> Bool) (R : List (List PV)) : (uniq eq R).length <= R.length := by
  cases R with
  | nil => exact Nat.le_refl _
  | cons y R =>
    unfold uniq
    have := uqF_len eq R y
    rw [List.length_cons, List.length_cons]
    omega
theorem sortP_mem {R : List (List PV)} {x : List PV} (h : x ∈ sortP R) : x ∈ R := (mem_insAll _ _ _).1 (uniq_in h)
theorem sortP_len (R : List (List PV)) : (sortP R).length <= R.length := by
  have := uniq_len eqPt (insAll (ltOf cPo) R)
  rw [insAll_len] at this
  exact this
theorem sortP_ok {R : List (List PV)} (h : rowsOk KPt R = true) : rowsOk KPt (sortP R) = true := by
  unfold rowsOk at h ⊢
  rw [List.all_eq_true] at h ⊢
  exact fun x hx => h x (sortP_mem hx)
def goodP (n : Nat) (c : List PV) : Bool := rowsC KPt n c && (chunks 18 n c).all (goodR KPo)
def gSortP (xs : List PV) : Option (Bool × PV) := match xs with
  | [.sl c e n none] => some (Nat.beq e 18 && goodP n c, .sl (sortP (chunks 18 n c)).flatten 18 (sortP (chunks 18 n c)).length none)
  | _ => none
theorem runSortPt (xs : List PV) (v : PV) (h : gSortP xs = some (true, v)) : ∃ H, apartS EN TCm H 1000009 5 14 xs = some v := by
  unfold gSortP at h
  split at h
  . rename_i c e n
    unfold goodP at h
    simp only [Option.some.injEq, Prod.mk.injEq, Bool.and_eq_true] at h
    obtain ⟨⟨h1, h2, h3⟩, rfl⟩ := h
    rw [Nat.eq_of_beq_eq_true h1]
    obtain ⟨r1, r2, r3, r4⟩ := rowsC_ok h2
    rw [show KPt.length = 18 from rfl] at r2 r3 r4
    refine ⟨H0, (s5P 999959 c n).trans ?_⟩
    have hs := rows_insAll (lt := ltOf cPo) r2
    have hl : (insAll (ltOf cPo) (chunks 18 n c)).length = n := by rw [insAll_len, r4]
    have hc : chunks 18 n (srtP c n) = insAll (ltOf cPo) (chunks 18 n c) := by
      have := chunks_of hs
      rw [hl] at this
      exact this
    have hu : unqP (srtP c n) n = sortP (chunks 18 n c) := by unfold unqP sortP; rw [hc]
    have hU := sortP_ok r2
    have hUl : (sortP (chunks 18 n c)).length <= n := by have := sortP_len (chunks 18 n c); omega
    obtain ⟨o1, o2, o3⟩ := out_ok (Z := Zk) (n := n) hU rfl rfl (by decide) hUl
    rw [show KPt.length = 18 from rfl] at o2 o3
    have hso : oldL 0 (srtP c n) = true := rows_old hs
    have hco : oldL 0 c = true := by rw [<- r3]; exact rows_old r2
    have hone : c.all PV.oneCell = true := by
      have := one_flat r2
      rwa [r3] at this
    have hask : askSoP c n = true := by
      unfold askSoP
      rw [show Nat.beq n n = true from Nat.beq_refl n, show rowsC KPo n c = true from h2, show (chunks KPo.length n c).all (goodR KPo) = true from h3]
      rfl
    have hrc : rowsC KPt n (srtP c n) = true := by
      have := rowsC_of hs (by omega)
      rwa [hl] at this
    rw [asks_of (ask1 (by rw [hone]; simp; omega)), hu]
    by_cases h0 : n = 0
    . rw [cond_t (by simp [h0])]
      have : sortP (chunks 18 n c) = [] := List.eq_nil_of_length_eq_zero (by omega)
      rw [this]
      rfl
    . rw [cond_f (by simp [h0]), asks_of (ask1 hco), asks_of (ask1 hask), asks_of (ask1 hso), asks_of (ask1 hso), asks_of (ask1 hso), asks_of (ask1 (by rw [hrc]; simp)), asks_of (ask1 o1), asks_of o2, o3, asks_of (ask1 (rows_old hU))]
  . cases h
noncomputable def TSp : Table := Tadd T0 14 gSortP
theorem TSpok : TR TSp := TR0.add TCmok runSortPt
end Go.Proofs.YtaofbpldflcjmaaDoor.Am
