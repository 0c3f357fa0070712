import Derived.Test.YtbhgibpdhmlamaaMrca
import Derived.Test.YtbhgibpdhmlamaaMrcb
import Derived.Test.YtbhgibpdhmlamaaMre
import Derived.Test.YtbhgibpdhmlamaaMrea
import Derived.Test.YtbhgibpdhmlamaaMrf
import Derived.Test.YtbhgibpdhmlamaaMrfa
import Derived.Test.YtbhgibpdhmlamaaMrd
import Derived.Test.YtbhgibpdhmlamaaRuEnvN
import Derived.Test.YtbhgibpdhmlamaaSymRun
import Derived.KernelRfl
import Derived.Test.YtbhgibpdhmlamaaDat
import Derived.OpenShut
import Derived.ChangeArms
import Derived.DataReads
import Derived.Test.YtbhgibpdhmlamaaRows
import Derived.Below
import Derived.Carry
import Derived.ChangeSame
import Derived.ProofKit
import Derived.ChangeSlices
import Derived.WideShapes

/- The document's Join: the groups' and the filters' loops, all. -/
section
set_option linter.unusedVariables false
set_option linter.unusedSimpArgs false
set_option maxRecDepth 100000
set_option maxHeartbeats 8000000
namespace Go.Proofs.Ytbhgibpdhmlamaa.Am
open St

theorem rB (N m q s : Nat) (J : JS) (r : Rw) (pf : Bool) (aF : List PV) (kF : Nat) (pg : Bool) (aG : List PV) (kG : Nat) (e1 j : Int) (at' : Int) (hc : (pg || J.bg) = true) : LRB N m q (s + 1) J r ⟨pf, aF, kF, pg, aG, kG, false, [], 0⟩ e1 j (rowGr r j) at' =
  (bif decide (at' > 0) then
    (asks [decide (0 ≤ IntKind.i64.wrap (at' - 1)) && decide (IntKind.i64.wrap (at' - 1) < (curN pg J.bg kG J.kg : Int)), curN pg J.bg kG J.kg == curN pg J.bg kG J.kg, okAt KGi (J.curG ⟨pf, aF, kF, pg, aG, kG, false, [], 0⟩) (0 + (IntKind.i64.wrap (at' - 1)).toNat * 8 + 0)] <|
    bif decide (rGi (shapeAt KGi r.gc (j.toNat * 8)) (shapeAt KGi (J.curG ⟨pf, aF, kF, pg, aG, kG, false, [], 0⟩) (0 + (IntKind.i64.wrap (at' - 1)).toNat * 8 + 0)) < 0) then
      (asks (oldJ J (xE J ⟨pf, aF, kF, pg, aG, kG, false, [], 0⟩ + 1) r) <| asks [oldL (xE J ⟨pf, aF, kF, pg, aG, kG, false, [], 0⟩ + 1) r.gc] <| asks [oldL (xE J ⟨pf, aF, kF, pg, aG, kG, false, [], 0⟩ + 1) r.gc] <| asks (wG (xE J ⟨pf, aF, kF, pg, aG, kG, false, [], 0⟩ + 1) (rowGr r j)) <| asksO J <|
      asks (oldR (xE J ⟨pf, aF, kF, pg, aG, kG, false, [], 0⟩ + 1) r) <| asks (ifb pf [oldL 0 aF]) <| asks (ifb pg [oldL 0 aG]) <| asks (wG (xE J ⟨pf, aF, kF, pg, aG, kG, false, [], 0⟩ + 1) (rowGr r j)) <|
      LRB N m q s J r ⟨pf, aF, kF, pg, aG, kG, false, [], 0⟩ e1 j (rowGr r j) (IntKind.i64.wrap (at' - 1)))
    else insT2 (J.curG ⟨pf, aF, kF, pg, aG, kG, false, [], 0⟩) (curN pg J.bg kG J.kg) at' 8 (rowGr r j) (wG (xE J ⟨pf, aF, kF, pg, aG, kG, false, [], 0⟩ + 1) (rowGr r j)) (wG (xE J ⟨pf, aF, kF, pg, aG, kG, false, [], 0⟩ + 2) (rowGr r j)) fun ac k =>
      (asks (oldJ J (xG J ⟨pf, aF, kF, pg, aG, kG, false, [], 0⟩) r) <| asks [oldL (xG J ⟨pf, aF, kF, pg, aG, kG, false, [], 0⟩) r.gc] <| asksO J <| asks (oldR (xG J ⟨pf, aF, kF, pg, aG, kG, false, [], 0⟩) r) <| asks (ifb pf [oldL 0 aF]) <| asks [oldL 0 ac] <| LRG N m q J r ⟨pf, aF, kF, true, ac, k, false, [], 0⟩ e1 (IntKind.i64.wrap (j + 1))))
  else insT2 (J.curG ⟨pf, aF, kF, pg, aG, kG, false, [], 0⟩) (curN pg J.bg kG J.kg) at' 8 (rowGr r j) (wG (xE J ⟨pf, aF, kF, pg, aG, kG, false, [], 0⟩ + 1) (rowGr r j)) (wG (xE J ⟨pf, aF, kF, pg, aG, kG, false, [], 0⟩ + 2) (rowGr r j)) fun ac k =>
      (asks (oldJ J (xG J ⟨pf, aF, kF, pg, aG, kG, false, [], 0⟩) r) <| asks [oldL (xG J ⟨pf, aF, kF, pg, aG, kG, false, [], 0⟩) r.gc] <| asksO J <| asks (oldR (xG J ⟨pf, aF, kF, pg, aG, kG, false, [], 0⟩) r) <| asks (ifb pf [oldL 0 aF]) <| asks [oldL 0 ac] <| LRG N m q J r ⟨pf, aF, kF, true, ac, k, false, [], 0⟩ e1 (IntKind.i64.wrap (j + 1)))) := by
  obtain ⟨c, n, i, bf, bg, bi, af, kf, ag, kg, ai, ki⟩ := J
  cases bf <;> cases bg <;> cases bi <;> cases pf <;> cases pg
  · cases hc
  · exact rB_00001 ..
  · cases hc
  · exact rB_00011 ..
  · cases hc
  · exact rB_00101 ..
  · cases hc
  · exact rB_00111 ..
  · exact rB_01000 ..
  · exact rB_01001 ..
  · exact rB_01010 ..
  · exact rB_01011 ..
  · exact rB_01100 ..
  · exact rB_01101 ..
  · exact rB_01110 ..
  · exact rB_01111 ..
  · cases hc
  · exact rB_10001 ..
  · cases hc
  · exact rB_10011 ..
  · cases hc
  · exact rB_10101 ..
  · cases hc
  · exact rB_10111 ..
  · exact rB_11000 ..
  · exact rB_11001 ..
  · exact rB_11010 ..
  · exact rB_11011 ..
  · exact rB_11100 ..
  · exact rB_11101 ..
  · exact rB_11110 ..
  · exact rB_11111 ..

theorem rC (N m q s : Nat) (J : JS) (r : Rw) (pf : Bool) (aF : List PV) (kF : Nat) (pg : Bool) (aG : List PV) (kG : Nat) (pi : Bool) (aI : List PV) (kI : Nat) (e1 e2 j : Int) (at' : Int) (hc : (pi || J.bi) = true) : LRC N m q (s + 1) J r ⟨pf, aF, kF, pg, aG, kG, pi, aI, kI⟩ e1 e2 j (rowI r j) at' =
  (bif decide (at' > 0) then
    (asks [decide (0 ≤ IntKind.i64.wrap (at' - 1)) && decide (IntKind.i64.wrap (at' - 1) < (curN pi J.bi kI J.ki : Int)), curN pi J.bi kI J.ki == curN pi J.bi kI J.ki, okAt KKy (J.curI ⟨pf, aF, kF, pg, aG, kG, pi, aI, kI⟩) (0 + (IntKind.i64.wrap (at' - 1)).toNat * 3 + 0)] <|
    bif decide (rKy (shapeAt KKy r.ic (j.toNat * 3)) (shapeAt KKy (J.curI ⟨pf, aF, kF, pg, aG, kG, pi, aI, kI⟩) (0 + (IntKind.i64.wrap (at' - 1)).toNat * 3 + 0)) < 0) then
      (asks (oldJ J (xE J ⟨pf, aF, kF, pg, aG, kG, pi, aI, kI⟩ + 1) r) <| asks [oldL (xE J ⟨pf, aF, kF, pg, aG, kG, pi, aI, kI⟩ + 1) r.gc] <| asks [oldL (xE J ⟨pf, aF, kF, pg, aG, kG, pi, aI, kI⟩ + 1) r.ic] <| asks [oldL (xE J ⟨pf, aF, kF, pg, aG, kG, pi, aI, kI⟩ + 1) r.ic] <| asks (wI (xE J ⟨pf, aF, kF, pg, aG, kG, pi, aI, kI⟩ + 1) (rowI r j)) <| asksO J <|
      asks (oldR (xE J ⟨pf, aF, kF, pg, aG, kG, pi, aI, kI⟩ + 1) r) <| asks (ifb pf [oldL 0 aF]) <| asks (ifb pg [oldL 0 aG]) <| asks (ifb pi [oldL 0 aI]) <| asks (wI (xE J ⟨pf, aF, kF, pg, aG, kG, pi, aI, kI⟩ + 1) (rowI r j)) <|
      LRC N m q s J r ⟨pf, aF, kF, pg, aG, kG, pi, aI, kI⟩ e1 e2 j (rowI r j) (IntKind.i64.wrap (at' - 1)))
    else insT2 (J.curI ⟨pf, aF, kF, pg, aG, kG, pi, aI, kI⟩) (curN pi J.bi kI J.ki) at' 3 (rowI r j) (wI (xE J ⟨pf, aF, kF, pg, aG, kG, pi, aI, kI⟩ + 1) (rowI r j)) (wI (xE J ⟨pf, aF, kF, pg, aG, kG, pi, aI, kI⟩ + 2) (rowI r j)) fun ac k =>
      (asks (oldJ J (xI J ⟨pf, aF, kF, pg, aG, kG, pi, aI, kI⟩) r) <| asks [oldL (xI J ⟨pf, aF, kF, pg, aG, kG, pi, aI, kI⟩) r.gc] <| asks [oldL (xI J ⟨pf, aF, kF, pg, aG, kG, pi, aI, kI⟩) r.ic] <| asksO J <| asks (oldR (xI J ⟨pf, aF, kF, pg, aG, kG, pi, aI, kI⟩) r) <| asks (ifb pf [oldL 0 aF]) <| asks (ifb pg [oldL 0 aG]) <| asks [oldL 0 ac] <| LRI N m q J r ⟨pf, aF, kF, pg, aG, kG, true, ac, k⟩ e1 e2 (IntKind.i64.wrap (j + 1))))
  else insT2 (J.curI ⟨pf, aF, kF, pg, aG, kG, pi, aI, kI⟩) (curN pi J.bi kI J.ki) at' 3 (rowI r j) (wI (xE J ⟨pf, aF, kF, pg, aG, kG, pi, aI, kI⟩ + 1) (rowI r j)) (wI (xE J ⟨pf, aF, kF, pg, aG, kG, pi, aI, kI⟩ + 2) (rowI r j)) fun ac k =>
      (asks (oldJ J (xI J ⟨pf, aF, kF, pg, aG, kG, pi, aI, kI⟩) r) <| asks [oldL (xI J ⟨pf, aF, kF, pg, aG, kG, pi, aI, kI⟩) r.gc] <| asks [oldL (xI J ⟨pf, aF, kF, pg, aG, kG, pi, aI, kI⟩) r.ic] <| asksO J <| asks (oldR (xI J ⟨pf, aF, kF, pg, aG, kG, pi, aI, kI⟩) r) <| asks (ifb pf [oldL 0 aF]) <| asks (ifb pg [oldL 0 aG]) <| asks [oldL 0 ac] <| LRI N m q J r ⟨pf, aF, kF, pg, aG, kG, true, ac, k⟩ e1 e2 (IntKind.i64.wrap (j + 1)))) := by
  obtain ⟨c, n, i, bf, bg, bi, af, kf, ag, kg, ai, ki⟩ := J
  cases bf <;> cases bg <;> cases bi <;> cases pf <;> cases pg <;> cases pi
  · cases hc
  · exact rC_000001 ..
  · cases hc
  · exact rC_000011 ..
  · cases hc
  · exact rC_000101 ..
  · cases hc
  · exact rC_000111 ..
  · exact rC_001000 ..
  · exact rC_001001 ..
  · exact rC_001010 ..
  · exact rC_001011 ..
  · exact rC_001100 ..
  · exact rC_001101 ..
  · exact rC_001110 ..
  · exact rC_001111 ..
  · cases hc
  · exact rC_010001 ..
  · cases hc
  · exact rC_010011 ..
  · cases hc
  · exact rC_010101 ..
  · cases hc
  · exact rC_010111 ..
  · exact rC_011000 ..
  · exact rC_011001 ..
  · exact rC_011010 ..
  · exact rC_011011 ..
  · exact rC_011100 ..
  · exact rC_011101 ..
  · exact rC_011110 ..
  · exact rC_011111 ..
  · cases hc
  · exact rC_100001 ..
  · cases hc
  · exact rC_100011 ..
  · cases hc
  · exact rC_100101 ..
  · cases hc
  · exact rC_100111 ..
  · exact rC_101000 ..
  · exact rC_101001 ..
  · exact rC_101010 ..
  · exact rC_101011 ..
  · exact rC_101100 ..
  · exact rC_101101 ..
  · exact rC_101110 ..
  · exact rC_101111 ..
  · cases hc
  · exact rC_110001 ..
  · cases hc
  · exact rC_110011 ..
  · cases hc
  · exact rC_110101 ..
  · cases hc
  · exact rC_110111 ..
  · exact rC_111000 ..
  · exact rC_111001 ..
  · exact rC_111010 ..
  · exact rC_111011 ..
  · exact rC_111100 ..
  · exact rC_111101 ..
  · exact rC_111110 ..
  · exact rC_111111 ..


end Go.Proofs.Ytbhgibpdhmlamaa.Am
end

/- One laid in among rows: what the three appends make; a loop that lays them in. -/
section
set_option linter.unusedVariables false
set_option linter.unusedSimpArgs false
set_option maxRecDepth 100000
set_option maxHeartbeats 8000000
namespace Go.Proofs.Ytbhgibpdhmlamaa.Am
open St

theorem flat_two (A : List (List PV)) (t : Nat) : A.flatten = (A.take t).flatten ++ (A.drop t).flatten := by
  rw [← List.flatten_append, List.take_append_drop]

theorem flat_tl {K : List Kd} {A : List (List PV)} (h : rowsOk K A = true) {t : Nat} (ht : t ≤ A.length) : (A.take t).flatten.length = t * K.length := by
  rw [rows_len (rowsOk_take h t), List.length_take, Nat.min_eq_left ht]

theorem rowsOk_drop {K : List Kd} {A : List (List PV)} (h : rowsOk K A = true) (t : Nat) : rowsOk K (A.drop t) = true := by
  unfold rowsOk at h ⊢
  rw [List.all_eq_true] at h ⊢
  exact fun x hx => h x (List.mem_of_mem_drop hx)

theorem flat_dl {K : List Kd} {A : List (List PV)} (h : rowsOk K A = true) (t : Nat) : (A.drop t).flatten.length = (A.length - t) * K.length := by
  rw [rows_len (rowsOk_drop h t), List.length_drop]

theorem flat_tk {K : List Kd} {A : List (List PV)} (h : rowsOk K A = true) {t : Nat} (ht : t ≤ A.length) : (A.flatten.drop 0).take (t * K.length) = (A.take t).flatten := by
  rw [List.drop_zero, flat_two A t, ← flat_tl h ht, List.take_left]

theorem flat_dr {K : List Kd} {A : List (List PV)} (h : rowsOk K A = true) {t : Nat} (ht : t ≤ A.length) : (A.flatten.drop (0 + t * K.length)).take ((A.length - t) * K.length) = (A.drop t).flatten := by
  rw [Nat.zero_add, flat_two A t, ← flat_tl h ht, List.drop_left, ← flat_dl h t, List.take_length]

theorem mul_split {n t e : Nat} (h : t ≤ n) : t * e + (n - t) * e = n * e := by
  rw [← Nat.add_mul, Nat.add_sub_cancel' h]

theorem tailT_ok {K : List Kd} {A : List (List PV)} {x : List PV} (hA : rowsOk K A = true) (hx : x.length = K.length) (hn : A.length + 1 ≤ 1000000) {t : Nat} (ht : t ≤ A.length) (h0 : 0 < A.length) (KK : List PV → Nat → Option PV) :
    tailT A.flatten A.length (t : Int) K.length ((A.take t).flatten ++ x) (t + 1) KK = KK (A.take t ++ x :: A.drop t).flatten (A.length + 1) := by
  have lA := rows_len hA
  have lT := flat_tl hA ht
  have lD := flat_dl hA t
  have e : (A.take t ++ x :: A.drop t).flatten = (A.take t).flatten ++ x ++ (A.drop t).flatten := by simp
  have eY : ((A.take t).flatten ++ x).length = (t + 1) * K.length := by rw [List.length_append, lT, hx, Nat.add_mul, Nat.one_mul]
  have ms := mul_split (e := K.length) ht
  unfold tailT
  rw [asks_of (by
    simp only [lA, Nat.zero_add, beq_self_eq_true, Bool.true_and, List.all_cons, List.all_nil, id, Bool.and_true, Bool.and_eq_true, decide_eq_true_eq]
    omega)]
  simp only [Int.toNat_natCast, flat_dr hA ht]
  by_cases h1 : t = A.length
  · rw [cond_t (by simp [h1, h0]), e, h1, List.drop_length]
    simp
  · rw [cond_f (by simp [h1]), asks_of (by
      simp only [lA, lD, Nat.zero_add, beq_self_eq_true, Bool.true_and, List.all_cons, List.all_nil, id, Bool.and_true, Bool.and_eq_true, decide_eq_true_eq]
      omega), cond_f (by simp; omega), asks_of (by
      simp only [eY, Nat.zero_add, beq_self_eq_true, Bool.true_and, List.all_cons, List.all_nil, id, Bool.and_true, Bool.and_eq_true, decide_eq_true_eq, Bool.not_eq_true', decide_eq_false_iff_not]
      omega), e, ← eY, List.take_length]
    exact congrArg (KK _) (by omega)

theorem insT2_ok {K : List Kd} {A : List (List PV)} {x : List PV} (hA : rowsOk K A = true) (hx : x.length = K.length) (hn : A.length + 1 ≤ 1000000) {t : Nat} (ht : t ≤ A.length) (h0 : 0 < A.length) {W0 W1 : List Bool} (w0 : W0.all id = true) (w1 : W1.all id = true) (KK : List PV → Nat → Option PV) :
    insT2 A.flatten A.length (t : Int) K.length x W0 W1 KK = KK (A.take t ++ x :: A.drop t).flatten (A.length + 1) := by
  have lA := rows_len hA
  have lT := flat_tl hA ht
  have ms := mul_split (e := K.length) ht
  unfold insT2
  simp only [Int.toNat_natCast, Nat.sub_zero, flat_tk hA ht]
  rw [asks_of (by
    simp only [lA, lT, Nat.zero_add, beq_self_eq_true, Bool.true_and, List.all_cons, List.all_nil, id, Bool.and_true, Bool.and_eq_true, decide_eq_true_eq]
    refine ⟨by omega, by omega, by simp, by omega⟩)]
  by_cases h1 : t = 0
  · subst h1
    rw [cond_t (by rfl), asks_of w0]
    exact tailT_ok (t := 0) hA hx hn ht h0 KK
  · rw [cond_f (by simpa using h1), asks_of (by simp; omega), asks_of w1]
    simp only [List.nil_append, Nat.zero_add]
    rw [asks_of (by simp [lT]; omega), ← lT, List.take_length]
    exact tailT_ok hA hx hn ht h0 KK

def foldI (lt : List PV → List PV → Bool) (A R : List (List PV)) : List (List PV) := R.foldl (fun acc x => ins lt x acc) A

theorem foldI_snoc (lt : List PV → List PV → Bool) (A R : List (List PV)) (x : List PV) : foldI lt A (R ++ [x]) = ins lt x (foldI lt A R) := by simp [foldI]
theorem foldI_len (lt : List PV → List PV → Bool) (A R : List (List PV)) : (foldI lt A R).length = A.length + R.length := foldl_ins_len lt R A
theorem foldI_mem (lt : List PV → List PV → Bool) : ∀ (R A : List (List PV)) (y : List PV), y ∈ foldI lt A R → y ∈ A ∨ y ∈ R
  | [], A, y, h => Or.inl h
  | x :: R, A, y, h => by
    rcases foldI_mem lt R (ins lt x A) y h with h | h
    · rcases (mem_ins lt x y A).1 h with rfl | h
      · exact Or.inr List.mem_cons_self
      · exact Or.inl h
    · exact Or.inr (List.mem_cons_of_mem _ h)

/-- From the end backwards to its place. -/
theorem at_loop {lt : List PV → List PV → Bool} {x : List PV} {A : List (List PV)} {L : Nat → Int → Option PV} {fin : Nat → Option PV} {v : Option PV}
    (hs : ∀ s t, t < A.length → L (s + 1) ((t + 1 : Nat) : Int) = bif lt x (A.getD t []) then L s (t : Int) else fin (t + 1))
    (h0 : ∀ s, L (s + 1) 0 = fin 0) (hf : fin (plc lt x A A.length) = v) (s : Nat) : L (s + A.length + 1) (A.length : Int) = v := by
  have key : ∀ t, t ≤ A.length → L (s + t + 1) (t : Int) = fin (plc lt x A t) := by
    intro t
    induction t with
    | zero => intro _; exact h0 s
    | succ t ih =>
      intro ht
      rw [show s + (t + 1) + 1 = (s + t + 1) + 1 from by omega, hs _ t (by omega), plc]
      cases hc : lt x (A.getD t [])
      · rfl
      · exact ih (by omega)
  rw [key _ (Nat.le_refl _), hf]

theorem wrap_pred {t : Nat} (h : t < 9223372036854775807) : IntKind.i64.wrap (((t + 1 : Nat) : Int) - 1) = (t : Int) := by
  rw [show ((t + 1 : Nat) : Int) - 1 = (t : Int) from by omega]
  exact wrap_nat (by omega)

/-- The state behind some rows. -/
def acA (lt : List PV → List PV → Bool) (A R : List (List PV)) (i : Nat) : List PV := bif Nat.beq i 0 then [] else (foldI lt A (R.take i)).flatten
def acK (lt : List PV → List PV → Bool) (A R : List (List PV)) (i : Nat) : Nat := bif Nat.beq i 0 then 0 else (foldI lt A (R.take i)).length

theorem mid_loop {n : Nat} {L : Nat → Nat → Option PV} {v : Option PV} (hs : ∀ q i, i < n → L (q + 1) i = L q (i + 1)) (he : ∀ q, L (q + 1) n = v) (q : Nat) : L (q + n + 1) 0 = v := by
  have key : ∀ k i, i + k = n → L (q + k + 1) i = v := by
    intro k
    induction k with
    | zero => intro i h; rw [show i = n from by omega]; exact he _
    | succ k ih => intro i h; rw [show q + (k + 1) + 1 = (q + k + 1) + 1 from by omega, hs _ i (by omega)]; exact ih (i + 1) (by omega)
  exact key n 0 (by omega)

end Go.Proofs.Ytbhgibpdhmlamaa.Am
end

/- The document's Join: the loops over fronts, groups, filters. -/
section
set_option linter.unusedVariables false
set_option linter.unusedSimpArgs false
set_option maxRecDepth 100000
set_option maxHeartbeats 8000000
namespace Go.Proofs.Ytbhgibpdhmlamaa.Am
open St


theorem okAt_pre : ∀ {K K' : List Kd} {c : List PV} {k : Nat}, okAt (K ++ K') c k = true → okAt K c k = true
  | [], _, _, _, _ => rfl
  | x :: K, K', c, k, h => by
    simp only [List.cons_append, okAt, Bool.and_eq_true] at h ⊢
    exact ⟨h.1, okAt_pre h.2⟩

theorem rows_fold {K : List Kd} {lt : List PV → List PV → Bool} {A R : List (List PV)} (hA : rowsOk K A = true) (hR : rowsOk K R = true) : rowsOk K (foldI lt A R) = true := by
  unfold rowsOk at hA hR ⊢
  rw [List.all_eq_true] at hA hR ⊢
  intro x hx
  rcases foldI_mem lt R A x hx with h | h
  · exact hA x h
  · exact hR x h

/-- What a round stands on. -/
structure CX (J : JS) (r : Rw) (F G I : List (List PV)) : Prop where
  c : oldL 0 J.c = true
  ok : r.ok = true
  f : rowsOk KFr F = true
  g : rowsOk KGr G = true
  i : rowsOk KFi I = true
  bf : J.bf = !Nat.beq F.length 0
  bg : J.bg = !Nat.beq G.length 0
  bi : J.bi = !Nat.beq I.length 0
  af : J.af = F.flatten
  ag : J.ag = G.flatten
  ai : J.ai = I.flatten
  kf : J.kf = F.length
  kg : J.kg = G.length
  ki : J.ki = I.length
  mf : F.length + r.nf ≤ 1000000
  mg : G.length + r.ng ≤ 1000000
  mi : I.length + r.ni ≤ 1000000

theorem CX.rc {J : JS} {r : Rw} {F G I : List (List PV)} (X : CX J r F G I) (x : Nat) : oldL x r.fc = true ∧ oldL x r.gc = true ∧ oldL x r.ic = true ∧ oldL x J.c = true := by
  have lx := Rw.lists X.ok
  exact ⟨by rw [← lx.fc]; exact rows_oldn lx.f x, by rw [← lx.gc]; exact rows_oldn lx.g x, by rw [← lx.ic]; exact rows_oldn lx.i x, oldL_le (Nat.zero_le x) _ X.c⟩

theorem CX.oldJ {J : JS} {r : Rw} {F G I : List (List PV)} (X : CX J r F G I) (x : Nat) : (oldJ J x r).all id = true := by
  obtain ⟨h1, h2, h3, h4⟩ := X.rc x
  simp only [Am.oldJ, h1, h2, h3, h4, List.all_cons, List.all_nil, id, Bool.and_self]

theorem CX.oldR {J : JS} {r : Rw} {F G I : List (List PV)} (X : CX J r F G I) (x : Nat) : (oldR x r).all id = true := by
  obtain ⟨h1, h2, h3, h4⟩ := X.rc x
  simp only [Am.oldR, h1, h2, h3, h4, List.all_cons, List.all_nil, id, Bool.and_self]

theorem CX.old3 {J : JS} {r : Rw} {F G I : List (List PV)} (X : CX J r F G I) (x : Nat) : ([oldL x r.fc, oldL x r.gc, oldL x r.ic]).all id = true := X.oldR x

theorem CX.asksO {J : JS} {r : Rw} {F G I : List (List PV)} (X : CX J r F G I) (k : Option PV) : asksO J k = k := by
  unfold Am.asksO
  rw [X.af, X.ag, X.ai, asks_of (ifb_old X.f _), asks_of (ifb_old X.g _), asks_of (ifb_old X.i _)]

theorem ask1 {b : Bool} (h : b = true) : ([b] : List Bool).all id = true := by rw [h]; rfl

theorem cur_st {lt : List PV → List PV → Bool} {A R : List (List PV)} {i : Nat} : (bif !Nat.beq i 0 then acA lt A R i else bif !Nat.beq A.length 0 then A.flatten else []) = (foldI lt A (R.take i)).flatten := by
  cases i with
  | zero => cases A <;> rfl
  | succ i => rfl
theorem curN_st {lt : List PV → List PV → Bool} {A R : List (List PV)} {i : Nat} : curN (!Nat.beq i 0) (!Nat.beq A.length 0) (acK lt A R i) A.length = (foldI lt A (R.take i)).length := by
  cases i with
  | zero => cases A <;> rfl
  | succ i => rfl
theorem ifb1 {a : List PV} (h : oldL 0 a = true) (b : Bool) : (ifb b [oldL 0 a]).all id = true := by
  rw [h]
  cases b <;> rfl
theorem acA_o {K : List Kd} {lt : List PV → List PV → Bool} {A R : List (List PV)} (hA : rowsOk K A = true) (hR : rowsOk K R = true) (i : Nat) : oldL 0 (acA lt A R i) = true := by
  cases i with
  | zero => rfl
  | succ i => exact rows_old (rows_fold hA (rowsOk_take hR (i + 1)))
theorem acA_old {K : List Kd} {lt : List PV → List PV → Bool} {A R : List (List PV)} (hA : rowsOk K A = true) (hR : rowsOk K R = true) (i : Nat) (b : Bool) : (ifb b [oldL 0 (acA lt A R i)]).all id = true := by
  have : oldL 0 (acA lt A R i) = true := by
    cases i with
    | zero => rfl
    | succ i => exact rows_old (rows_fold hA (rowsOk_take hR (i + 1)))
  rw [this]
  cases b <;> rfl

/-- The loop over fronts. -/
theorem lrpF {N m : Nat} {J : JS} {r : Rw} {F G I : List (List PV)} (X : CX J r F G I) (hN : 1000002 ≤ N)  (q : Nat) :
    LRF N m (q + r.nf + 1) J r nS  0 = LRG N m N J r ⟨!Nat.beq r.nf 0, acA (ltOf rFr) F r.F r.nf, acK (ltOf rFr) F r.F r.nf, false, [], 0, false, [], 0⟩ (r.nf : Int) 0 := by
  have lx := Rw.lists X.ok
  have hR := lx.f
  have hl := lx.nf
  have hmax := X.mf
  refine mid_loop (L := fun q i => LRF N m q J r ⟨!Nat.beq i 0, acA (ltOf rFr) F r.F i, acK (ltOf rFr) F r.F i, false, [], 0, false, [], 0⟩  (i : Int)) ?_ ?_ q
  · intro q i hi
    have hiR : i < r.F.length := by omega
    have hA : rowsOk KFr (foldI (ltOf rFr) F (r.F.take i)) = true := rows_fold X.f (rowsOk_take hR i)
    have hlen : (foldI (ltOf rFr) F (r.F.take i)).length = F.length + i := by rw [foldI_len, List.length_take, Nat.min_eq_left (by omega)]
    have hnxt : foldI (ltOf rFr) F (r.F.take (i + 1)) = ins (ltOf rFr) r.F[i] (foldI (ltOf rFr) F (r.F.take i)) := by rw [List.take_succ_eq_append_getElem hiR, foldI_snoc]
    have hrow : rowF r (i : Int) = r.F[i] := by
      unfold rowF
      rw [Int.toNat_natCast, ← lx.fc, show 26 = KFr.length from rfl]
      exact (rows_at0 hR hiR).2
    have hxl : r.F[i].length = KFr.length := wk_len (rowsOk_get hR (List.getElem_mem hiR)).1
    have hcur : J.curF ⟨!Nat.beq i 0, acA (ltOf rFr) F r.F i, acK (ltOf rFr) F r.F i, false, [], 0, false, [], 0⟩ = (foldI (ltOf rFr) F (r.F.take i)).flatten := by
      unfold JS.curF
      dsimp only
      rw [X.bf, X.af]
      exact cur_st
    have hcn : curN (!Nat.beq i 0) J.bf (acK (ltOf rFr) F r.F i) J.kf = (foldI (ltOf rFr) F (r.F.take i)).length := by
      rw [X.bf, X.kf]
      exact curN_st
    have hac := acA_old (lt := ltOf rFr) X.f hR i
    skip
    show LRF N m (q + 1) J r ⟨!Nat.beq i 0, acA (ltOf rFr) F r.F i, acK (ltOf rFr) F r.F i, false, [], 0, false, [], 0⟩  (i : Int) = LRF N m q J r ⟨!Nat.beq (i + 1) 0, acA (ltOf rFr) F r.F (i + 1), acK (ltOf rFr) F r.F (i + 1), false, [], 0, false, [], 0⟩  ((i + 1 : Nat) : Int)
    have hgo : ∀ ac k, ac = (foldI (ltOf rFr) F (r.F.take (i + 1))).flatten → k = (foldI (ltOf rFr) F (r.F.take (i + 1))).length → (asks (oldJ J (xF J) r) <| asksO J <| asks [oldL (xF J) r.fc, oldL (xF J) r.gc, oldL (xF J) r.ic] <| asks [oldL 0 ac] <| LRF N m q J r ⟨true, ac, k, false, [], 0, false, [], 0⟩ (IntKind.i64.wrap ((i : Int) + 1))) = LRF N m q J r ⟨!Nat.beq (i + 1) 0, acA (ltOf rFr) F r.F (i + 1), acK (ltOf rFr) F r.F (i + 1), false, [], 0, false, [], 0⟩  ((i + 1 : Nat) : Int) := by
      intro ac k h1 h2
      obtain ⟨o1, o2, o3, o4⟩ := X.rc (xF J)
      rw [h1, h2, asks_of (X.oldJ _), X.asksO, asks_of (X.old3 _), asks_of (ask1 (rows_old (rows_fold X.f (rowsOk_take hR (i + 1))))), wrap_succ (by omega : i < 9223372036854775807)]
      rfl
    rw [rF, cond_t (show decide ((i : Int) < (r.nf : Int)) = true from by simp; omega), asks_of (by
      simp only [Int.toNat_natCast]
      rw [inside hi, ← lx.fc, show 26 = KFr.length from rfl, (rows_at0 hR hiR).1]
      rfl), hcn]
    by_cases hz : (foldI (ltOf rFr) F (r.F.take i)).length = 0
    · have hi0 : i = 0 := by omega
      have hF0 : F = [] := List.eq_nil_of_length_eq_zero (by omega)
      subst hi0
      obtain ⟨s, rfl⟩ : ∃ s, N = s + 1 := ⟨N - 1, by omega⟩
      have e0 : ∀ x : List PV, (foldI (ltOf rFr) F (r.F.take (0 + 1))) = [r.F[0]] := by
        intro x
        rw [hnxt, hF0]
        rfl
      rw [hz]
      refine (rA0 _ _ _ s J r _ _ _ (by rw [X.bf, hF0]; rfl)).trans ?_
      skip
      exact hgo _ _ (by rw [hrow, e0 []]; simp) (by rw [e0 []]; rfl)
    · obtain ⟨s, hs⟩ : ∃ s, N = s + (foldI (ltOf rFr) F (r.F.take i)).length + 1 := ⟨N - 1 - (foldI (ltOf rFr) F (r.F.take i)).length, by omega⟩
      have hbc : (!Nat.beq i 0 || J.bf) = true := by
        rw [X.bf]
        cases i with
        | zero => rw [show F.length = (F.length - 1) + 1 from by omega]; rfl
        | succ i => rfl
      have hfin : ∀ t, t ≤ (foldI (ltOf rFr) F (r.F.take i)).length → ∀ W0 W1 : List Bool, W0.all id = true → W1.all id = true → insT2 (foldI (ltOf rFr) F (r.F.take i)).flatten (foldI (ltOf rFr) F (r.F.take i)).length (t : Int) 26 r.F[i] W0 W1 (fun ac k => (asks (oldJ J (xF J) r) <| asksO J <| asks [oldL (xF J) r.fc, oldL (xF J) r.gc, oldL (xF J) r.ic] <| asks [oldL 0 ac] <| LRF N m q J r ⟨true, ac, k, false, [], 0, false, [], 0⟩ (IntKind.i64.wrap ((i : Int) + 1)))) = (fun ac k => (asks (oldJ J (xF J) r) <| asksO J <| asks [oldL (xF J) r.fc, oldL (xF J) r.gc, oldL (xF J) r.ic] <| asks [oldL 0 ac] <| LRF N m q J r ⟨true, ac, k, false, [], 0, false, [], 0⟩ (IntKind.i64.wrap ((i : Int) + 1)))) ((foldI (ltOf rFr) F (r.F.take i)).take t ++ r.F[i] :: (foldI (ltOf rFr) F (r.F.take i)).drop t).flatten ((foldI (ltOf rFr) F (r.F.take i)).length + 1) := by
        intro t ht W0 W1 w0 w1
        exact insT2_ok (K := KFr) hA hxl (by omega) ht (by omega) w0 w1 _
      have hpl := plc_le (ltOf rFr) r.F[i] (foldI (ltOf rFr) F (r.F.take i)) (foldI (ltOf rFr) F (r.F.take i)).length
      have main := at_loop (lt := ltOf rFr) (x := r.F[i]) (A := foldI (ltOf rFr) F (r.F.take i)) (L := fun s t => LRA N m q s J r ⟨!Nat.beq i 0, acA (ltOf rFr) F r.F i, acK (ltOf rFr) F r.F i, false, [], 0, false, [], 0⟩  (i : Int) (rowF r i) t) (fin := fun t => insT2 (foldI (ltOf rFr) F (r.F.take i)).flatten (foldI (ltOf rFr) F (r.F.take i)).length (t : Int) 26 r.F[i] [] [] (fun ac k => (asks (oldJ J (xF J) r) <| asksO J <| asks [oldL (xF J) r.fc, oldL (xF J) r.gc, oldL (xF J) r.ic] <| asks [oldL 0 ac] <| LRF N m q J r ⟨true, ac, k, false, [], 0, false, [], 0⟩ (IntKind.i64.wrap ((i : Int) + 1))))) (v := LRF N m q J r ⟨!Nat.beq (i + 1) 0, acA (ltOf rFr) F r.F (i + 1), acK (ltOf rFr) F r.F (i + 1), false, [], 0, false, [], 0⟩  ((i + 1 : Nat) : Int)) ?_ ?_ ?_ s
      · rw [← hs] at main
        exact main
      · intro s t ht
        obtain ⟨o1, o2, o3, o4⟩ := X.rc (xE J ⟨!Nat.beq i 0, acA (ltOf rFr) F r.F i, acK (ltOf rFr) F r.F i, false, [], 0, false, [], 0⟩ + 1)
        have pa := part_at hA ht 0 (Nat.zero_le _)
        have pb := rows_at0 hR hiR
        simp only [List.drop_zero, Nat.add_zero] at pa
        have hcell : rFr (rowF r (i : Int)) (shapeAt KFr (foldI (ltOf rFr) F (r.F.take i)).flatten (0 + t * 26)) = rFr r.F[i] (foldI (ltOf rFr) F (r.F.take i))[t] := by
          have e1 : shapeAt KFr (foldI (ltOf rFr) F (r.F.take i)).flatten (0 + t * 26) = (foldI (ltOf rFr) F (r.F.take i))[t] := pa.2.1
          rw [hrow, e1]
        have hokc : okAt KFr (foldI (ltOf rFr) F (r.F.take i)).flatten (0 + t * 26) = true := pa.1
        show LRA N m q (s + 1) J r ⟨!Nat.beq i 0, acA (ltOf rFr) F r.F i, acK (ltOf rFr) F r.F i, false, [], 0, false, [], 0⟩  (i : Int) (rowF r i) ((t + 1 : Nat) : Int) = _
        rw [rA _ _ _ _ _ _ _ _ _ _ _ hbc, cond_t (show decide (((t + 1 : Nat) : Int) > 0) = true from by simp), wrap_pred (by omega : t < 9223372036854775807), hcn, hcur]
        simp only [Int.toNat_natCast]
        rw [asks_of (by simp only [inside ht, hokc, beq_self_eq_true, List.all_cons, List.all_nil, id, Bool.and_self])]
        simp only [hcell]
        show (bif decide (rFr r.F[i] (foldI (ltOf rFr) F (r.F.take i))[t] < 0) then _ else _) = bif ltOf rFr r.F[i] ((foldI (ltOf rFr) F (r.F.take i)).getD t []) then _ else _
        rw [getD_at ht, show ltOf rFr r.F[i] (foldI (ltOf rFr) F (r.F.take i))[t] = decide (rFr r.F[i] (foldI (ltOf rFr) F (r.F.take i))[t] < 0) from rfl]
        generalize decide (rFr r.F[i] (foldI (ltOf rFr) F (r.F.take i))[t] < 0) = b
        cases b
        · simp only [cond_false]
          rw [insT_eq, hrow]
        · simp only [cond_true]
          rw [asks_of (X.oldJ _), asks_of (ask1 o1), X.asksO, asks_of (X.old3 _), asks_of (hac _)]
      · intro s
        show LRA N m q (s + 1) J r ⟨!Nat.beq i 0, acA (ltOf rFr) F r.F i, acK (ltOf rFr) F r.F i, false, [], 0, false, [], 0⟩  (i : Int) (rowF r i) ((0 : Nat) : Int) = _
        rw [rA _ _ _ _ _ _ _ _ _ _ _ hbc, cond_f (by simp), hcn, hcur]
        rw [insT_eq, hrow]
      · rw [hfin _ hpl _ _ rfl rfl, plc_all]
        exact hgo _ _ (by rw [hnxt]) (by rw [hnxt, ins_len])
  · intro q
    show LRF N m (q + 1) J r ⟨!Nat.beq r.nf 0, acA (ltOf rFr) F r.F r.nf, acK (ltOf rFr) F r.F r.nf, false, [], 0, false, [], 0⟩  (r.nf : Int) = _
    rw [rF, cond_f (show decide ((r.nf : Int) < (r.nf : Int)) = false from by simp)]
    skip

/-- The loop over groups. -/
theorem lrpG {N m : Nat} {J : JS} {r : Rw} {F G I : List (List PV)} (X : CX J r F G I) (hN : 1000002 ≤ N) {pf : Bool} {aF : List PV} {kF : Nat} (hF : oldL 0 aF = true) (e1 : Int) (q : Nat) :
    LRG N m (q + r.ng + 1) J r ⟨pf, aF, kF, false, [], 0, false, [], 0⟩ e1 0 = LRI N m N J r ⟨pf, aF, kF, !Nat.beq r.ng 0, acA (ltOf rGi) G r.G r.ng, acK (ltOf rGi) G r.G r.ng, false, [], 0⟩ e1 (r.ng : Int) 0 := by
  have lx := Rw.lists X.ok
  have hR := lx.g
  have hl := lx.ng
  have hmax := X.mg
  refine mid_loop (L := fun q i => LRG N m q J r ⟨pf, aF, kF, !Nat.beq i 0, acA (ltOf rGi) G r.G i, acK (ltOf rGi) G r.G i, false, [], 0⟩ e1 (i : Int)) ?_ ?_ q
  · intro q i hi
    have hiR : i < r.G.length := by omega
    have hA : rowsOk KGr (foldI (ltOf rGi) G (r.G.take i)) = true := rows_fold X.g (rowsOk_take hR i)
    have hlen : (foldI (ltOf rGi) G (r.G.take i)).length = G.length + i := by rw [foldI_len, List.length_take, Nat.min_eq_left (by omega)]
    have hnxt : foldI (ltOf rGi) G (r.G.take (i + 1)) = ins (ltOf rGi) r.G[i] (foldI (ltOf rGi) G (r.G.take i)) := by rw [List.take_succ_eq_append_getElem hiR, foldI_snoc]
    have hrow : rowGr r (i : Int) = r.G[i] := by
      unfold rowGr
      rw [Int.toNat_natCast, ← lx.gc, show 8 = KGr.length from rfl]
      exact (rows_at0 hR hiR).2
    have hxl : r.G[i].length = KGr.length := wk_len (rowsOk_get hR (List.getElem_mem hiR)).1
    have hcur : J.curG ⟨pf, aF, kF, !Nat.beq i 0, acA (ltOf rGi) G r.G i, acK (ltOf rGi) G r.G i, false, [], 0⟩ = (foldI (ltOf rGi) G (r.G.take i)).flatten := by
      unfold JS.curG
      dsimp only
      rw [X.bg, X.ag]
      exact cur_st
    have hcn : curN (!Nat.beq i 0) J.bg (acK (ltOf rGi) G r.G i) J.kg = (foldI (ltOf rGi) G (r.G.take i)).length := by
      rw [X.bg, X.kg]
      exact curN_st
    have hac := acA_old (lt := ltOf rGi) X.g hR i
    have hw : ∀ x, (wG x r.G[i]).all id = true := fun x => by
      unfold wG
      rw [row_cell hR hiR x 6, row_cell hR hiR x 7]
      rfl
    have hw0 : ∀ x, (wG x (rowGr r (i : Int))).all id = true := by rw [hrow]; exact hw
    show LRG N m (q + 1) J r ⟨pf, aF, kF, !Nat.beq i 0, acA (ltOf rGi) G r.G i, acK (ltOf rGi) G r.G i, false, [], 0⟩ e1 (i : Int) = LRG N m q J r ⟨pf, aF, kF, !Nat.beq (i + 1) 0, acA (ltOf rGi) G r.G (i + 1), acK (ltOf rGi) G r.G (i + 1), false, [], 0⟩ e1 ((i + 1 : Nat) : Int)
    have hgo : ∀ ac k, ac = (foldI (ltOf rGi) G (r.G.take (i + 1))).flatten → k = (foldI (ltOf rGi) G (r.G.take (i + 1))).length → (asks (oldJ J (xG J ⟨pf, aF, kF, !Nat.beq i 0, acA (ltOf rGi) G r.G i, acK (ltOf rGi) G r.G i, false, [], 0⟩) r) <| asks [oldL (xG J ⟨pf, aF, kF, !Nat.beq i 0, acA (ltOf rGi) G r.G i, acK (ltOf rGi) G r.G i, false, [], 0⟩) r.gc] <| asksO J <| asks (oldR (xG J ⟨pf, aF, kF, !Nat.beq i 0, acA (ltOf rGi) G r.G i, acK (ltOf rGi) G r.G i, false, [], 0⟩) r) <| asks (ifb pf [oldL 0 aF]) <| asks [oldL 0 ac] <| LRG N m q J r ⟨pf, aF, kF, true, ac, k, false, [], 0⟩ e1 (IntKind.i64.wrap ((i : Int) + 1))) = LRG N m q J r ⟨pf, aF, kF, !Nat.beq (i + 1) 0, acA (ltOf rGi) G r.G (i + 1), acK (ltOf rGi) G r.G (i + 1), false, [], 0⟩ e1 ((i + 1 : Nat) : Int) := by
      intro ac k h1 h2
      obtain ⟨o1, o2, o3, o4⟩ := X.rc (xG J ⟨pf, aF, kF, !Nat.beq i 0, acA (ltOf rGi) G r.G i, acK (ltOf rGi) G r.G i, false, [], 0⟩)
      rw [h1, h2, asks_of (X.oldJ _), asks_of (ask1 o2), X.asksO, asks_of (X.oldR _), asks_of (ifb1 hF _), asks_of (ask1 (rows_old (rows_fold X.g (rowsOk_take hR (i + 1))))), wrap_succ (by omega : i < 9223372036854775807)]
      rfl
    rw [rG, cond_t (show decide ((i : Int) < (r.ng : Int)) = true from by simp; omega), asks_of (by
      simp only [Int.toNat_natCast]
      rw [inside hi, ← lx.gc, show 8 = KGr.length from rfl, (rows_at0 hR hiR).1]
      rfl), hcn]
    by_cases hz : (foldI (ltOf rGi) G (r.G.take i)).length = 0
    · have hi0 : i = 0 := by omega
      have hF0 : G = [] := List.eq_nil_of_length_eq_zero (by omega)
      subst hi0
      obtain ⟨s, rfl⟩ : ∃ s, N = s + 1 := ⟨N - 1, by omega⟩
      have e0 : ∀ x : List PV, (foldI (ltOf rGi) G (r.G.take (0 + 1))) = [r.G[0]] := by
        intro x
        rw [hnxt, hF0]
        rfl
      rw [hz]
      refine (rB0 _ _ _ s J r _ _ _ _ _ _ _ (by rw [X.bg, hF0]; rfl)).trans ?_
      rw [asks_of (hw0 _)]
      exact hgo _ _ (by rw [hrow, e0 []]; simp) (by rw [e0 []]; rfl)
    · obtain ⟨s, hs⟩ : ∃ s, N = s + (foldI (ltOf rGi) G (r.G.take i)).length + 1 := ⟨N - 1 - (foldI (ltOf rGi) G (r.G.take i)).length, by omega⟩
      have hbc : (!Nat.beq i 0 || J.bg) = true := by
        rw [X.bg]
        cases i with
        | zero => rw [show G.length = (G.length - 1) + 1 from by omega]; rfl
        | succ i => rfl
      have hfin : ∀ t, t ≤ (foldI (ltOf rGi) G (r.G.take i)).length → ∀ W0 W1 : List Bool, W0.all id = true → W1.all id = true → insT2 (foldI (ltOf rGi) G (r.G.take i)).flatten (foldI (ltOf rGi) G (r.G.take i)).length (t : Int) 8 r.G[i] W0 W1 (fun ac k => (asks (oldJ J (xG J ⟨pf, aF, kF, !Nat.beq i 0, acA (ltOf rGi) G r.G i, acK (ltOf rGi) G r.G i, false, [], 0⟩) r) <| asks [oldL (xG J ⟨pf, aF, kF, !Nat.beq i 0, acA (ltOf rGi) G r.G i, acK (ltOf rGi) G r.G i, false, [], 0⟩) r.gc] <| asksO J <| asks (oldR (xG J ⟨pf, aF, kF, !Nat.beq i 0, acA (ltOf rGi) G r.G i, acK (ltOf rGi) G r.G i, false, [], 0⟩) r) <| asks (ifb pf [oldL 0 aF]) <| asks [oldL 0 ac] <| LRG N m q J r ⟨pf, aF, kF, true, ac, k, false, [], 0⟩ e1 (IntKind.i64.wrap ((i : Int) + 1)))) = (fun ac k => (asks (oldJ J (xG J ⟨pf, aF, kF, !Nat.beq i 0, acA (ltOf rGi) G r.G i, acK (ltOf rGi) G r.G i, false, [], 0⟩) r) <| asks [oldL (xG J ⟨pf, aF, kF, !Nat.beq i 0, acA (ltOf rGi) G r.G i, acK (ltOf rGi) G r.G i, false, [], 0⟩) r.gc] <| asksO J <| asks (oldR (xG J ⟨pf, aF, kF, !Nat.beq i 0, acA (ltOf rGi) G r.G i, acK (ltOf rGi) G r.G i, false, [], 0⟩) r) <| asks (ifb pf [oldL 0 aF]) <| asks [oldL 0 ac] <| LRG N m q J r ⟨pf, aF, kF, true, ac, k, false, [], 0⟩ e1 (IntKind.i64.wrap ((i : Int) + 1)))) ((foldI (ltOf rGi) G (r.G.take i)).take t ++ r.G[i] :: (foldI (ltOf rGi) G (r.G.take i)).drop t).flatten ((foldI (ltOf rGi) G (r.G.take i)).length + 1) := by
        intro t ht W0 W1 w0 w1
        exact insT2_ok (K := KGr) hA hxl (by omega) ht (by omega) w0 w1 _
      have hpl := plc_le (ltOf rGi) r.G[i] (foldI (ltOf rGi) G (r.G.take i)) (foldI (ltOf rGi) G (r.G.take i)).length
      have main := at_loop (lt := ltOf rGi) (x := r.G[i]) (A := foldI (ltOf rGi) G (r.G.take i)) (L := fun s t => LRB N m q s J r ⟨pf, aF, kF, !Nat.beq i 0, acA (ltOf rGi) G r.G i, acK (ltOf rGi) G r.G i, false, [], 0⟩ e1 (i : Int) (rowGr r i) t) (fin := fun t => insT2 (foldI (ltOf rGi) G (r.G.take i)).flatten (foldI (ltOf rGi) G (r.G.take i)).length (t : Int) 8 r.G[i] (wG (xE J ⟨pf, aF, kF, !Nat.beq i 0, acA (ltOf rGi) G r.G i, acK (ltOf rGi) G r.G i, false, [], 0⟩ + 1) r.G[i]) (wG (xE J ⟨pf, aF, kF, !Nat.beq i 0, acA (ltOf rGi) G r.G i, acK (ltOf rGi) G r.G i, false, [], 0⟩ + 2) r.G[i]) (fun ac k => (asks (oldJ J (xG J ⟨pf, aF, kF, !Nat.beq i 0, acA (ltOf rGi) G r.G i, acK (ltOf rGi) G r.G i, false, [], 0⟩) r) <| asks [oldL (xG J ⟨pf, aF, kF, !Nat.beq i 0, acA (ltOf rGi) G r.G i, acK (ltOf rGi) G r.G i, false, [], 0⟩) r.gc] <| asksO J <| asks (oldR (xG J ⟨pf, aF, kF, !Nat.beq i 0, acA (ltOf rGi) G r.G i, acK (ltOf rGi) G r.G i, false, [], 0⟩) r) <| asks (ifb pf [oldL 0 aF]) <| asks [oldL 0 ac] <| LRG N m q J r ⟨pf, aF, kF, true, ac, k, false, [], 0⟩ e1 (IntKind.i64.wrap ((i : Int) + 1))))) (v := LRG N m q J r ⟨pf, aF, kF, !Nat.beq (i + 1) 0, acA (ltOf rGi) G r.G (i + 1), acK (ltOf rGi) G r.G (i + 1), false, [], 0⟩ e1 ((i + 1 : Nat) : Int)) ?_ ?_ ?_ s
      · rw [← hs] at main
        exact main
      · intro s t ht
        obtain ⟨o1, o2, o3, o4⟩ := X.rc (xE J ⟨pf, aF, kF, !Nat.beq i 0, acA (ltOf rGi) G r.G i, acK (ltOf rGi) G r.G i, false, [], 0⟩ + 1)
        have pa := part_at hA ht 0 (Nat.zero_le _)
        have pb := rows_at0 hR hiR
        simp only [List.drop_zero, Nat.add_zero] at pa
        have hcell : rGi (shapeAt KGi r.gc (i * 8)) (shapeAt KGi (foldI (ltOf rGi) G (r.G.take i)).flatten (0 + t * 8 + 0)) = rGi r.G[i] (foldI (ltOf rGi) G (r.G.take i))[t] := by
          have e1 : shapeAt KGr (foldI (ltOf rGi) G (r.G.take i)).flatten (0 + t * 8) = (foldI (ltOf rGi) G (r.G.take i))[t] := pa.2.1
          have e2 : shapeAt KGr r.gc (i * 8) = r.G[i] := by rw [← lx.gc]; exact pb.2
          have g1 : ∀ c k, giAt (shapeAt KGi c k) = giAt (shapeAt KGr c k) := fun _ _ => rfl
          rw [← e1, ← e2]
          unfold rGi
          rw [g1, g1]
          rfl
        have hokc : okAt KGi (foldI (ltOf rGi) G (r.G.take i)).flatten (0 + t * 8 + 0) = true := okAt_pre (K' := [.int .i64, .sl 18, .sl 1]) pa.1
        show LRB N m q (s + 1) J r ⟨pf, aF, kF, !Nat.beq i 0, acA (ltOf rGi) G r.G i, acK (ltOf rGi) G r.G i, false, [], 0⟩ e1 (i : Int) (rowGr r i) ((t + 1 : Nat) : Int) = _
        rw [rB _ _ _ _ _ _ _ _ _ _ _ _ _ _ _ hbc, cond_t (show decide (((t + 1 : Nat) : Int) > 0) = true from by simp), wrap_pred (by omega : t < 9223372036854775807), hcn, hcur]
        simp only [Int.toNat_natCast]
        rw [asks_of (by simp only [inside ht, hokc, beq_self_eq_true, List.all_cons, List.all_nil, id, Bool.and_self])]
        simp only [hcell]
        show (bif decide (rGi r.G[i] (foldI (ltOf rGi) G (r.G.take i))[t] < 0) then _ else _) = bif ltOf rGi r.G[i] ((foldI (ltOf rGi) G (r.G.take i)).getD t []) then _ else _
        rw [getD_at ht, show ltOf rGi r.G[i] (foldI (ltOf rGi) G (r.G.take i))[t] = decide (rGi r.G[i] (foldI (ltOf rGi) G (r.G.take i))[t] < 0) from rfl]
        generalize decide (rGi r.G[i] (foldI (ltOf rGi) G (r.G.take i))[t] < 0) = b
        cases b
        · simp only [cond_false]
          rw [hrow]
        · simp only [cond_true]
          rw [asks_of (X.oldJ _), asks_of (ask1 o2), asks_of (ask1 o2), asks_of (hw0 _), X.asksO, asks_of (X.oldR _), asks_of (ifb1 hF _), asks_of (hac _), asks_of (hw0 _)]
      · intro s
        show LRB N m q (s + 1) J r ⟨pf, aF, kF, !Nat.beq i 0, acA (ltOf rGi) G r.G i, acK (ltOf rGi) G r.G i, false, [], 0⟩ e1 (i : Int) (rowGr r i) ((0 : Nat) : Int) = _
        rw [rB _ _ _ _ _ _ _ _ _ _ _ _ _ _ _ hbc, cond_f (by simp), hcn, hcur]
        rw [hrow]
      · rw [hfin _ hpl _ _ (hw _) (hw _), plc_all]
        exact hgo _ _ (by rw [hnxt]) (by rw [hnxt, ins_len])
  · intro q
    show LRG N m (q + 1) J r ⟨pf, aF, kF, !Nat.beq r.ng 0, acA (ltOf rGi) G r.G r.ng, acK (ltOf rGi) G r.G r.ng, false, [], 0⟩ e1 (r.ng : Int) = _
    rw [rG, cond_f (show decide ((r.ng : Int) < (r.ng : Int)) = false from by simp)]
    skip

/-- The loop over filters. -/
theorem lrpI {N m : Nat} {J : JS} {r : Rw} {F G I : List (List PV)} (X : CX J r F G I) (hN : 1000002 ≤ N) {pf : Bool} {aF : List PV} {kF : Nat} (hF : oldL 0 aF = true) {pg : Bool} {aG : List PV} {kG : Nat} (hG : oldL 0 aG = true) (e1 e2 : Int) (q : Nat) :
    LRI N m (q + r.ni + 1) J r ⟨pf, aF, kF, pg, aG, kG, false, [], 0⟩ e1 e2 0 = LRo N m (J.next ⟨pf, aF, kF, pg, aG, kG, !Nat.beq r.ni 0, acA (ltOf rKy) I r.I r.ni, acK (ltOf rKy) I r.I r.ni⟩) := by
  have lx := Rw.lists X.ok
  have hR := lx.i
  have hl := lx.ni
  have hmax := X.mi
  refine mid_loop (L := fun q i => LRI N m q J r ⟨pf, aF, kF, pg, aG, kG, !Nat.beq i 0, acA (ltOf rKy) I r.I i, acK (ltOf rKy) I r.I i⟩ e1 e2 (i : Int)) ?_ ?_ q
  · intro q i hi
    have hiR : i < r.I.length := by omega
    have hA : rowsOk KFi (foldI (ltOf rKy) I (r.I.take i)) = true := rows_fold X.i (rowsOk_take hR i)
    have hlen : (foldI (ltOf rKy) I (r.I.take i)).length = I.length + i := by rw [foldI_len, List.length_take, Nat.min_eq_left (by omega)]
    have hnxt : foldI (ltOf rKy) I (r.I.take (i + 1)) = ins (ltOf rKy) r.I[i] (foldI (ltOf rKy) I (r.I.take i)) := by rw [List.take_succ_eq_append_getElem hiR, foldI_snoc]
    have hrow : rowI r (i : Int) = r.I[i] := by
      unfold rowI
      rw [Int.toNat_natCast, ← lx.ic, show 3 = KFi.length from rfl]
      exact (rows_at0 hR hiR).2
    have hxl : r.I[i].length = KFi.length := wk_len (rowsOk_get hR (List.getElem_mem hiR)).1
    have hcur : J.curI ⟨pf, aF, kF, pg, aG, kG, !Nat.beq i 0, acA (ltOf rKy) I r.I i, acK (ltOf rKy) I r.I i⟩ = (foldI (ltOf rKy) I (r.I.take i)).flatten := by
      unfold JS.curI
      dsimp only
      rw [X.bi, X.ai]
      exact cur_st
    have hcn : curN (!Nat.beq i 0) J.bi (acK (ltOf rKy) I r.I i) J.ki = (foldI (ltOf rKy) I (r.I.take i)).length := by
      rw [X.bi, X.ki]
      exact curN_st
    have hac := acA_old (lt := ltOf rKy) X.i hR i
    have hw : ∀ x, (wI x r.I[i]).all id = true := fun x => by
      unfold wI
      rw [row_cell hR hiR x 2]
      rfl
    have hw0 : ∀ x, (wI x (rowI r (i : Int))).all id = true := by rw [hrow]; exact hw
    show LRI N m (q + 1) J r ⟨pf, aF, kF, pg, aG, kG, !Nat.beq i 0, acA (ltOf rKy) I r.I i, acK (ltOf rKy) I r.I i⟩ e1 e2 (i : Int) = LRI N m q J r ⟨pf, aF, kF, pg, aG, kG, !Nat.beq (i + 1) 0, acA (ltOf rKy) I r.I (i + 1), acK (ltOf rKy) I r.I (i + 1)⟩ e1 e2 ((i + 1 : Nat) : Int)
    have hgo : ∀ ac k, ac = (foldI (ltOf rKy) I (r.I.take (i + 1))).flatten → k = (foldI (ltOf rKy) I (r.I.take (i + 1))).length → (asks (oldJ J (xI J ⟨pf, aF, kF, pg, aG, kG, !Nat.beq i 0, acA (ltOf rKy) I r.I i, acK (ltOf rKy) I r.I i⟩) r) <| asks [oldL (xI J ⟨pf, aF, kF, pg, aG, kG, !Nat.beq i 0, acA (ltOf rKy) I r.I i, acK (ltOf rKy) I r.I i⟩) r.gc] <| asks [oldL (xI J ⟨pf, aF, kF, pg, aG, kG, !Nat.beq i 0, acA (ltOf rKy) I r.I i, acK (ltOf rKy) I r.I i⟩) r.ic] <| asksO J <| asks (oldR (xI J ⟨pf, aF, kF, pg, aG, kG, !Nat.beq i 0, acA (ltOf rKy) I r.I i, acK (ltOf rKy) I r.I i⟩) r) <| asks (ifb pf [oldL 0 aF]) <| asks (ifb pg [oldL 0 aG]) <| asks [oldL 0 ac] <| LRI N m q J r ⟨pf, aF, kF, pg, aG, kG, true, ac, k⟩ e1 e2 (IntKind.i64.wrap ((i : Int) + 1))) = LRI N m q J r ⟨pf, aF, kF, pg, aG, kG, !Nat.beq (i + 1) 0, acA (ltOf rKy) I r.I (i + 1), acK (ltOf rKy) I r.I (i + 1)⟩ e1 e2 ((i + 1 : Nat) : Int) := by
      intro ac k h1 h2
      obtain ⟨o1, o2, o3, o4⟩ := X.rc (xI J ⟨pf, aF, kF, pg, aG, kG, !Nat.beq i 0, acA (ltOf rKy) I r.I i, acK (ltOf rKy) I r.I i⟩)
      rw [h1, h2, asks_of (X.oldJ _), asks_of (ask1 o2), asks_of (ask1 o3), X.asksO, asks_of (X.oldR _), asks_of (ifb1 hF _), asks_of (ifb1 hG _), asks_of (ask1 (rows_old (rows_fold X.i (rowsOk_take hR (i + 1))))), wrap_succ (by omega : i < 9223372036854775807)]
      rfl
    rw [rI, cond_t (show decide ((i : Int) < (r.ni : Int)) = true from by simp; omega), asks_of (by
      simp only [Int.toNat_natCast]
      rw [inside hi, ← lx.ic, show 3 = KFi.length from rfl, (rows_at0 hR hiR).1]
      rfl), hcn]
    by_cases hz : (foldI (ltOf rKy) I (r.I.take i)).length = 0
    · have hi0 : i = 0 := by omega
      have hF0 : I = [] := List.eq_nil_of_length_eq_zero (by omega)
      subst hi0
      obtain ⟨s, rfl⟩ : ∃ s, N = s + 1 := ⟨N - 1, by omega⟩
      have e0 : ∀ x : List PV, (foldI (ltOf rKy) I (r.I.take (0 + 1))) = [r.I[0]] := by
        intro x
        rw [hnxt, hF0]
        rfl
      rw [hz]
      refine (rC0 _ _ _ s J r _ _ _ _ _ _ _ _ _ _ _ (by rw [X.bi, hF0]; rfl)).trans ?_
      rw [asks_of (hw0 _)]
      exact hgo _ _ (by rw [hrow, e0 []]; simp) (by rw [e0 []]; rfl)
    · obtain ⟨s, hs⟩ : ∃ s, N = s + (foldI (ltOf rKy) I (r.I.take i)).length + 1 := ⟨N - 1 - (foldI (ltOf rKy) I (r.I.take i)).length, by omega⟩
      have hbc : (!Nat.beq i 0 || J.bi) = true := by
        rw [X.bi]
        cases i with
        | zero => rw [show I.length = (I.length - 1) + 1 from by omega]; rfl
        | succ i => rfl
      have hfin : ∀ t, t ≤ (foldI (ltOf rKy) I (r.I.take i)).length → ∀ W0 W1 : List Bool, W0.all id = true → W1.all id = true → insT2 (foldI (ltOf rKy) I (r.I.take i)).flatten (foldI (ltOf rKy) I (r.I.take i)).length (t : Int) 3 r.I[i] W0 W1 (fun ac k => (asks (oldJ J (xI J ⟨pf, aF, kF, pg, aG, kG, !Nat.beq i 0, acA (ltOf rKy) I r.I i, acK (ltOf rKy) I r.I i⟩) r) <| asks [oldL (xI J ⟨pf, aF, kF, pg, aG, kG, !Nat.beq i 0, acA (ltOf rKy) I r.I i, acK (ltOf rKy) I r.I i⟩) r.gc] <| asks [oldL (xI J ⟨pf, aF, kF, pg, aG, kG, !Nat.beq i 0, acA (ltOf rKy) I r.I i, acK (ltOf rKy) I r.I i⟩) r.ic] <| asksO J <| asks (oldR (xI J ⟨pf, aF, kF, pg, aG, kG, !Nat.beq i 0, acA (ltOf rKy) I r.I i, acK (ltOf rKy) I r.I i⟩) r) <| asks (ifb pf [oldL 0 aF]) <| asks (ifb pg [oldL 0 aG]) <| asks [oldL 0 ac] <| LRI N m q J r ⟨pf, aF, kF, pg, aG, kG, true, ac, k⟩ e1 e2 (IntKind.i64.wrap ((i : Int) + 1)))) = (fun ac k => (asks (oldJ J (xI J ⟨pf, aF, kF, pg, aG, kG, !Nat.beq i 0, acA (ltOf rKy) I r.I i, acK (ltOf rKy) I r.I i⟩) r) <| asks [oldL (xI J ⟨pf, aF, kF, pg, aG, kG, !Nat.beq i 0, acA (ltOf rKy) I r.I i, acK (ltOf rKy) I r.I i⟩) r.gc] <| asks [oldL (xI J ⟨pf, aF, kF, pg, aG, kG, !Nat.beq i 0, acA (ltOf rKy) I r.I i, acK (ltOf rKy) I r.I i⟩) r.ic] <| asksO J <| asks (oldR (xI J ⟨pf, aF, kF, pg, aG, kG, !Nat.beq i 0, acA (ltOf rKy) I r.I i, acK (ltOf rKy) I r.I i⟩) r) <| asks (ifb pf [oldL 0 aF]) <| asks (ifb pg [oldL 0 aG]) <| asks [oldL 0 ac] <| LRI N m q J r ⟨pf, aF, kF, pg, aG, kG, true, ac, k⟩ e1 e2 (IntKind.i64.wrap ((i : Int) + 1)))) ((foldI (ltOf rKy) I (r.I.take i)).take t ++ r.I[i] :: (foldI (ltOf rKy) I (r.I.take i)).drop t).flatten ((foldI (ltOf rKy) I (r.I.take i)).length + 1) := by
        intro t ht W0 W1 w0 w1
        exact insT2_ok (K := KFi) hA hxl (by omega) ht (by omega) w0 w1 _
      have hpl := plc_le (ltOf rKy) r.I[i] (foldI (ltOf rKy) I (r.I.take i)) (foldI (ltOf rKy) I (r.I.take i)).length
      have main := at_loop (lt := ltOf rKy) (x := r.I[i]) (A := foldI (ltOf rKy) I (r.I.take i)) (L := fun s t => LRC N m q s J r ⟨pf, aF, kF, pg, aG, kG, !Nat.beq i 0, acA (ltOf rKy) I r.I i, acK (ltOf rKy) I r.I i⟩ e1 e2 (i : Int) (rowI r i) t) (fin := fun t => insT2 (foldI (ltOf rKy) I (r.I.take i)).flatten (foldI (ltOf rKy) I (r.I.take i)).length (t : Int) 3 r.I[i] (wI (xE J ⟨pf, aF, kF, pg, aG, kG, !Nat.beq i 0, acA (ltOf rKy) I r.I i, acK (ltOf rKy) I r.I i⟩ + 1) r.I[i]) (wI (xE J ⟨pf, aF, kF, pg, aG, kG, !Nat.beq i 0, acA (ltOf rKy) I r.I i, acK (ltOf rKy) I r.I i⟩ + 2) r.I[i]) (fun ac k => (asks (oldJ J (xI J ⟨pf, aF, kF, pg, aG, kG, !Nat.beq i 0, acA (ltOf rKy) I r.I i, acK (ltOf rKy) I r.I i⟩) r) <| asks [oldL (xI J ⟨pf, aF, kF, pg, aG, kG, !Nat.beq i 0, acA (ltOf rKy) I r.I i, acK (ltOf rKy) I r.I i⟩) r.gc] <| asks [oldL (xI J ⟨pf, aF, kF, pg, aG, kG, !Nat.beq i 0, acA (ltOf rKy) I r.I i, acK (ltOf rKy) I r.I i⟩) r.ic] <| asksO J <| asks (oldR (xI J ⟨pf, aF, kF, pg, aG, kG, !Nat.beq i 0, acA (ltOf rKy) I r.I i, acK (ltOf rKy) I r.I i⟩) r) <| asks (ifb pf [oldL 0 aF]) <| asks (ifb pg [oldL 0 aG]) <| asks [oldL 0 ac] <| LRI N m q J r ⟨pf, aF, kF, pg, aG, kG, true, ac, k⟩ e1 e2 (IntKind.i64.wrap ((i : Int) + 1))))) (v := LRI N m q J r ⟨pf, aF, kF, pg, aG, kG, !Nat.beq (i + 1) 0, acA (ltOf rKy) I r.I (i + 1), acK (ltOf rKy) I r.I (i + 1)⟩ e1 e2 ((i + 1 : Nat) : Int)) ?_ ?_ ?_ s
      · rw [← hs] at main
        exact main
      · intro s t ht
        obtain ⟨o1, o2, o3, o4⟩ := X.rc (xE J ⟨pf, aF, kF, pg, aG, kG, !Nat.beq i 0, acA (ltOf rKy) I r.I i, acK (ltOf rKy) I r.I i⟩ + 1)
        have pa := part_at hA ht 0 (Nat.zero_le _)
        have pb := rows_at0 hR hiR
        simp only [List.drop_zero, Nat.add_zero] at pa
        have hcell : rKy (shapeAt KKy r.ic (i * 3)) (shapeAt KKy (foldI (ltOf rKy) I (r.I.take i)).flatten (0 + t * 3 + 0)) = rKy r.I[i] (foldI (ltOf rKy) I (r.I.take i))[t] := by
          have e1 : shapeAt KFi (foldI (ltOf rKy) I (r.I.take i)).flatten (0 + t * 3) = (foldI (ltOf rKy) I (r.I.take i))[t] := pa.2.1
          have e2 : shapeAt KFi r.ic (i * 3) = r.I[i] := by rw [← lx.ic]; exact pb.2
          have g1 : ∀ c k, kyAt (shapeAt KKy c k) 0 = kyAt (shapeAt KFi c k) 0 := fun _ _ => rfl
          rw [← e1, ← e2]
          unfold rKy
          rw [g1, g1]
          rfl
        have hokc : okAt KKy (foldI (ltOf rKy) I (r.I.take i)).flatten (0 + t * 3 + 0) = true := okAt_pre (K' := [.sl 18]) pa.1
        show LRC N m q (s + 1) J r ⟨pf, aF, kF, pg, aG, kG, !Nat.beq i 0, acA (ltOf rKy) I r.I i, acK (ltOf rKy) I r.I i⟩ e1 e2 (i : Int) (rowI r i) ((t + 1 : Nat) : Int) = _
        rw [rC _ _ _ _ _ _ _ _ _ _ _ _ _ _ _ _ _ _ _ hbc, cond_t (show decide (((t + 1 : Nat) : Int) > 0) = true from by simp), wrap_pred (by omega : t < 9223372036854775807), hcn, hcur]
        simp only [Int.toNat_natCast]
        rw [asks_of (by simp only [inside ht, hokc, beq_self_eq_true, List.all_cons, List.all_nil, id, Bool.and_self])]
        simp only [hcell]
        show (bif decide (rKy r.I[i] (foldI (ltOf rKy) I (r.I.take i))[t] < 0) then _ else _) = bif ltOf rKy r.I[i] ((foldI (ltOf rKy) I (r.I.take i)).getD t []) then _ else _
        rw [getD_at ht, show ltOf rKy r.I[i] (foldI (ltOf rKy) I (r.I.take i))[t] = decide (rKy r.I[i] (foldI (ltOf rKy) I (r.I.take i))[t] < 0) from rfl]
        generalize decide (rKy r.I[i] (foldI (ltOf rKy) I (r.I.take i))[t] < 0) = b
        cases b
        · simp only [cond_false]
          rw [hrow]
        · simp only [cond_true]
          rw [asks_of (X.oldJ _), asks_of (ask1 o2), asks_of (ask1 o3), asks_of (ask1 o3), asks_of (hw0 _), X.asksO, asks_of (X.oldR _), asks_of (ifb1 hF _), asks_of (ifb1 hG _), asks_of (hac _), asks_of (hw0 _)]
      · intro s
        show LRC N m q (s + 1) J r ⟨pf, aF, kF, pg, aG, kG, !Nat.beq i 0, acA (ltOf rKy) I r.I i, acK (ltOf rKy) I r.I i⟩ e1 e2 (i : Int) (rowI r i) ((0 : Nat) : Int) = _
        rw [rC _ _ _ _ _ _ _ _ _ _ _ _ _ _ _ _ _ _ _ hbc, cond_f (by simp), hcn, hcur]
        rw [hrow]
      · rw [hfin _ hpl _ _ (hw _) (hw _), plc_all]
        exact hgo _ _ (by rw [hnxt]) (by rw [hnxt, ins_len])
  · intro q
    show LRI N m (q + 1) J r ⟨pf, aF, kF, pg, aG, kG, !Nat.beq r.ni 0, acA (ltOf rKy) I r.I r.ni, acK (ltOf rKy) I r.I r.ni⟩ e1 e2 (r.ni : Int) = _
    rw [rI, cond_f (show decide ((r.ni : Int) < (r.ni : Int)) = false from by simp)]
    have n1 : oldL 0 (J.next ⟨pf, aF, kF, pg, aG, kG, !Nat.beq r.ni 0, acA (ltOf rKy) I r.I r.ni, acK (ltOf rKy) I r.I r.ni⟩).af = true := by
      unfold JS.next
      dsimp only
      rw [X.af]
      cases pf
      · exact rows_old X.f
      · exact hF
    have n2 : oldL 0 (J.next ⟨pf, aF, kF, pg, aG, kG, !Nat.beq r.ni 0, acA (ltOf rKy) I r.I r.ni, acK (ltOf rKy) I r.I r.ni⟩).ag = true := by
      unfold JS.next
      dsimp only
      rw [X.ag]
      cases pg
      · exact rows_old X.g
      · exact hG
    have n3 : oldL 0 (J.next ⟨pf, aF, kF, pg, aG, kG, !Nat.beq r.ni 0, acA (ltOf rKy) I r.I r.ni, acK (ltOf rKy) I r.I r.ni⟩).ai = true := by
      unfold JS.next
      dsimp only
      rw [X.ai]
      cases !Nat.beq r.ni 0
      · exact rows_old X.i
      · exact acA_o X.i hR _
    rw [asks_of (by simp only [(X.rc 2).2.2.2, List.all_cons, List.all_nil, id, Bool.and_self]), asks_of (ifb1 n1 _), asks_of (ifb1 n2 _), asks_of (ifb1 n3 _)]

end Go.Proofs.Ytbhgibpdhmlamaa.Am
end

/- The document's Join: all rows, laid in one by one. -/
section
set_option linter.unusedVariables false
set_option linter.unusedSimpArgs false
set_option maxRecDepth 100000
set_option maxHeartbeats 8000000
namespace Go.Proofs.Ytbhgibpdhmlamaa.Am
open St

theorem jR_mk {F G I : List (List PV)} (f : rowsOk KFr F = true) (g : rowsOk KGr G = true) (i : rowsOk KFi I = true) :
    jR (!Nat.beq F.length 0) (!Nat.beq G.length 0) (!Nat.beq I.length 0) F.flatten F.length G.flatten G.length I.flatten I.length = Rw.mk' F G I := by
  unfold jR Rw.mk'
  have key : ∀ {K : List Kd} {R : List (List PV)}, rowsOk K R = true → (bif (!Nat.beq R.length 0) then R.length else 0) = R.length ∧ (bif (!Nat.beq R.length 0) then (R.flatten.drop 0).take (R.length * K.length) else []) = R.flatten := by
    intro K R h
    cases R with
    | nil => exact ⟨rfl, rfl⟩
    | cons a R =>
      have hb : (!Nat.beq (a :: R).length 0) = true := rfl
      rw [hb]
      exact ⟨rfl, take_all _ (rows_len h)⟩
  rw [show (26 : Nat) = KFr.length from rfl, show (8 : Nat) = KGr.length from rfl, show (3 : Nat) = KFi.length from rfl, (key f).1, (key f).2, (key g).1, (key g).2, (key i).1, (key i).2]

/-- The state behind some rows. -/
def jst (c : List PV) (n : Nat) (i : Int) (F G I : List (List PV)) : JS := ⟨c, n, i, !Nat.beq F.length 0, !Nat.beq G.length 0, !Nat.beq I.length 0, F.flatten, F.length, G.flatten, G.length, I.flatten, I.length⟩

theorem exitR_ok {c : List PV} {n : Nat} {i : Int} {F G I : List (List PV)} (f : rowsOk KFr F = true) (g : rowsOk KGr G = true) (ii : rowsOk KFi I = true) : exitR (jst c n i F G I) = some (Rw.mk' F G I).pv := by
  obtain ⟨s1, s2, s3⟩ := seal_ok f (by decide)
  obtain ⟨s4, s5, s6⟩ := seal_ok g (by decide)
  obtain ⟨s7, s8, s9⟩ := seal_ok ii (by decide)
  unfold exitR jst
  dsimp only
  rw [jR_mk f g ii]
  rw [show (26 : Nat) = KFr.length from rfl, show (8 : Nat) = KGr.length from rfl, show (3 : Nat) = KFi.length from rfl, asks_of s1, asks_of s4, asks_of s7, asks_of s2, asks_of s5, asks_of s8]

theorem rOj (N m : Nat) (c : List PV) (n : Nat) (i : Int) (F G I : List (List PV)) : LRo N (m + 1) (jst c n i F G I) =
  (bif decide (i < (n : Int)) then
    (asks [decide (0 ≤ i) && decide (i < (n : Int)), okAt KRw c (i.toNat * 3)] <| LRF N m N (jst c n i F G I) (rwOf (shapeAt KRw c (i.toNat * 3))) nS 0)
  else exitR (jst c n i F G I)) := rO N m (jst c n i F G I)

theorem nx_b {n : Nat} {lt : List PV → List PV → Bool} {A R : List (List PV)} (h : R.length = n) : (!Nat.beq n 0 || !Nat.beq A.length 0) = !Nat.beq (foldI lt A R).length 0 := by
  rw [foldI_len, h]
  cases n with
  | zero => rfl
  | succ n => rfl
theorem nx_a {n : Nat} {lt : List PV → List PV → Bool} {A R : List (List PV)} (h : R.length = n) : (bif !Nat.beq n 0 then acA lt A R n else A.flatten) = (foldI lt A R).flatten := by
  cases n with
  | zero => rw [List.eq_nil_of_length_eq_zero h]; rfl
  | succ n =>
    show (foldI lt A (R.take (n + 1))).flatten = _
    rw [← h, List.take_length]
theorem nx_k {n : Nat} {lt : List PV → List PV → Bool} {A R : List (List PV)} (h : R.length = n) : (bif !Nat.beq n 0 then acK lt A R n else A.length) = (foldI lt A R).length := by
  cases n with
  | zero => rw [List.eq_nil_of_length_eq_zero h]; rfl
  | succ n =>
    show (foldI lt A (R.take (n + 1))).length = _
    rw [← h, List.take_length]

theorem next_jst {c : List PV} {n i : Nat} {F G I : List (List PV)} {r : Rw} (lx : r.Lists r.F r.G r.I) (hi : i < 1000000) :
    (jst c n i F G I).next ⟨!Nat.beq r.nf 0, acA (ltOf rFr) F r.F r.nf, acK (ltOf rFr) F r.F r.nf, !Nat.beq r.ng 0, acA (ltOf rGi) G r.G r.ng, acK (ltOf rGi) G r.G r.ng, !Nat.beq r.ni 0, acA (ltOf rKy) I r.I r.ni, acK (ltOf rKy) I r.I r.ni⟩ =
    jst c n ((i + 1 : Nat) : Int) (foldI (ltOf rFr) F r.F) (foldI (ltOf rGi) G r.G) (foldI (ltOf rKy) I r.I) := by
  unfold JS.next jst
  dsimp only
  rw [nx_b lx.nf, nx_b lx.ng, nx_b lx.ni, nx_a lx.nf, nx_a lx.ng, nx_a lx.ni, nx_k lx.nf, nx_k lx.ng, nx_k lx.ni, wrap_succ (by omega : i < 9223372036854775807)]

theorem foldI_all (lt : List PV → List PV → Bool) (A R : List (List PV)) : foldI lt (insAll lt A) R = insAll lt (A ++ R) := by
  unfold foldI insAll
  rw [List.foldl_append]

/-- All rows laid in one by one. -/
def rj (L : List Rw) : Rw := Rw.mk' (insAll (ltOf rFr) (joF L)) (insAll (ltOf rGi) (joG L)) (insAll (ltOf rKy) (joI L))

noncomputable def LRs (N m : Nat) (c : List PV) (n i : Nat) (L : List Rw) : Option PV := LRo N m (jst c n i (insAll (ltOf rFr) (joF L)) (insAll (ltOf rGi) (joG L)) (insAll (ltOf rKy) (joI L)))

theorem rj_loop {N n : Nat} {R : List (List PV)} (hN : 1000002 ≤ N) (hR : rowsOk KRw R = true) (hl : R.length = n) (hn : n ≤ 1000000) (hk : joOk (R.map rwOf) = true) : ∀ (k i m : Nat), i + k = n → LRs N (m + k + 1) R.flatten n i ((R.take i).map rwOf) = some (rj (R.map rwOf)).pv
  | 0, i, m, h => by
    unfold LRs
    have e : R.take i = R := by rw [List.take_of_length_le (by omega)]
    have J := JL.of hk
    rw [e, rOj, cond_f (show decide (((i : Nat) : Int) < (n : Int)) = false from by simp; omega)]
    exact exitR_ok (rows_ins J.f) (rows_ins J.g) (rows_ins J.i)
  | k + 1, i, m, h => by
    have hi : i < R.length := by omega
    have hr := rows_at0 hR hi
    have et : R.take (i + 1) = R.take i ++ [R[i]] := by rw [List.take_succ_eq_append_getElem hi]
    have hk1 : joOk ((R.take (i + 1)).map rwOf) = true := joOk_part (M := (R.drop (i + 1)).map rwOf) (by rw [← List.map_append, List.take_append_drop]; exact hk)
    have hk0 : joOk ((R.take i).map rwOf) = true := joOk_part (M := (R.drop i).map rwOf) (by rw [← List.map_append, List.take_append_drop]; exact hk)
    have J1 := JL.of hk1
    have J0 := JL.of hk0
    have hx : (rwOf R[i]).ok = true := J1.ok _ (List.mem_map.2 ⟨R[i], by rw [et]; exact List.mem_append_right _ List.mem_cons_self, rfl⟩)
    have lx := Rw.lists hx
    have aF : joF ((R.take (i + 1)).map rwOf) = joF ((R.take i).map rwOf) ++ (rwOf R[i]).F := by rw [et, List.map_append, joF_app]; simp [joF]
    have aG : joG ((R.take (i + 1)).map rwOf) = joG ((R.take i).map rwOf) ++ (rwOf R[i]).G := by rw [et, List.map_append, joG_app]; simp [joG]
    have aI : joI ((R.take (i + 1)).map rwOf) = joI ((R.take i).map rwOf) ++ (rwOf R[i]).I := by rw [et, List.map_append, joI_app]; simp [joI]
    have X : CX (jst R.flatten n i (insAll (ltOf rFr) (joF ((R.take i).map rwOf))) (insAll (ltOf rGi) (joG ((R.take i).map rwOf))) (insAll (ltOf rKy) (joI ((R.take i).map rwOf)))) (rwOf R[i]) (insAll (ltOf rFr) (joF ((R.take i).map rwOf))) (insAll (ltOf rGi) (joG ((R.take i).map rwOf))) (insAll (ltOf rKy) (joI ((R.take i).map rwOf))) := {
      c := rows_old hR, ok := hx, f := rows_ins J0.f, g := rows_ins J0.g, i := rows_ins J0.i,
      bf := rfl, bg := rfl, bi := rfl, af := rfl, ag := rfl, ai := rfl, kf := rfl, kg := rfl, ki := rfl,
      mf := by rw [insAll_len, ← lx.nf, ← List.length_append, ← aF]; exact J1.mf
      mg := by rw [insAll_len, ← lx.ng, ← List.length_append, ← aG]; exact J1.mg
      mi := by rw [insAll_len, ← lx.ni, ← List.length_append, ← aI]; exact J1.mi }
    have hfo := acA_o (lt := ltOf rFr) X.f lx.f (rwOf R[i]).nf
    have hgo := acA_o (lt := ltOf rGi) X.g lx.g (rwOf R[i]).ng
    obtain ⟨qf, hqf⟩ : ∃ q, N = q + (rwOf R[i]).nf + 1 := ⟨N - 1 - (rwOf R[i]).nf, by have := X.mf; omega⟩
    obtain ⟨qg, hqg⟩ : ∃ q, N = q + (rwOf R[i]).ng + 1 := ⟨N - 1 - (rwOf R[i]).ng, by have := X.mg; omega⟩
    obtain ⟨qi, hqi⟩ : ∃ q, N = q + (rwOf R[i]).ni + 1 := ⟨N - 1 - (rwOf R[i]).ni, by have := X.mi; omega⟩
    have w1 := lrpF (m := m + k + 1) X hN qf
    have w2 := lrpG (m := m + k + 1) X hN hfo (((rwOf R[i]).nf : Nat) : Int) (kF := acK (ltOf rFr) (insAll (ltOf rFr) (joF ((R.take i).map rwOf))) (rwOf R[i]).F (rwOf R[i]).nf) (pf := !Nat.beq (rwOf R[i]).nf 0) qg
    have w3 := lrpI (m := m + k + 1) X hN hfo hgo (((rwOf R[i]).nf : Nat) : Int) (((rwOf R[i]).ng : Nat) : Int) (kF := acK (ltOf rFr) (insAll (ltOf rFr) (joF ((R.take i).map rwOf))) (rwOf R[i]).F (rwOf R[i]).nf) (pf := !Nat.beq (rwOf R[i]).nf 0) (kG := acK (ltOf rGi) (insAll (ltOf rGi) (joG ((R.take i).map rwOf))) (rwOf R[i]).G (rwOf R[i]).ng) (pg := !Nat.beq (rwOf R[i]).ng 0) qi
    rw [← hqf] at w1
    rw [← hqg] at w2
    rw [← hqi] at w3
    have ih := rj_loop hN hR hl hn hk k (i + 1) m (by omega)
    unfold LRs
    rw [show m + (k + 1) + 1 = (m + k + 1) + 1 from by omega, rOj, cond_t (show decide (((i : Nat) : Int) < (n : Int)) = true from by simp; omega)]
    rw [Int.toNat_natCast, show i * 3 = i * KRw.length from rfl, hr.2, hr.1, asks_of (by rw [inside (show i < n by omega)]; rfl), w1, w2, w3, next_jst lx (by omega), foldI_all, foldI_all, foldI_all, ← aF, ← aG, ← aI]
    exact ih

def gRefJoin (xs : List PV) : Option (Bool × PV) := match xs with
  | [.sl c e n none] => some (Nat.beq e 3 && (rowsC KRw n c && joOk ((chunks 3 n c).map rwOf)), (rj ((chunks 3 n c).map rwOf)).pv)
  | _ => none

theorem runRefJoin (xs : List PV) (v : PV) (h : gRefJoin xs = some (true, v)) : ∃ H, apartS EN TRA H 1000009 5 14 xs = some v := by
  unfold gRefJoin at h
  split at h
  · rename_i c e n
    simp only [Option.some.injEq, Prod.mk.injEq, Bool.and_eq_true] at h
    obtain ⟨⟨h1, h2, h3⟩, rfl⟩ := h
    rw [Nat.eq_of_beq_eq_true h1]
    obtain ⟨r1, r2, r3, r4⟩ := rowsC_ok h2
    refine ⟨HRj, (r00 1000009 c n).trans ?_⟩
    have := rj_loop (N := 1000009) (by omega) r2 r4 r1 h3 n 0 (1000008 - n) (by omega)
    rw [show 1000008 - n + n + 1 = 1000009 from by omega, r3] at this
    exact this
  · cases h

theorem okRefJoin : TR (Tadd T0 14 gRefJoin) := TR0.add TRAok runRefJoin

end Go.Proofs.Ytbhgibpdhmlamaa.Am
end

/- law22.alive: the chapter's example. -/
section
set_option linter.unusedVariables false
set_option maxRecDepth 1000000
namespace Go.Proofs.Ytbhgibpdhmlamaa.Am

def isTrue : Option PV → Bool
  | some (.bool true) => true
  | _ => false
theorem isTrue_eq {x : Option PV} (h : isTrue x = true) : x = some (.bool true) := by
  unfold isTrue at h
  split at h
  · rfl
  · cases h

theorem alive22 : apartA EN (runA EN 1000009 60) 5 [] = some (.bool true) := isTrue_eq (by kernel_rfl)

end Go.Proofs.Ytbhgibpdhmlamaa.Am
end

/- The law's table: long rows, with no bound; alive. -/
section
set_option linter.unusedVariables false
set_option linter.unusedSimpArgs false
set_option maxRecDepth 100000
set_option maxHeartbeats 8000000
namespace Go.Proofs.Ytbhgibpdhmlamaa.Am
open St

def gYes (xs : List PV) : Option (Bool × PV) := match xs with
  | [] => some (true, .bool true)
  | _ => none

theorem TR.yes {T : Table} (hT : TR T) : TR (Tadd T 5 gYes) := by
  obtain ⟨K, hT⟩ := hT
  refine ⟨K + 60, Tadd_of (hT.le (runA_le' _ (by omega))) (fun xs v hg => ?_) rfl⟩
  unfold gYes at hg
  split at hg
  · cases hg
    exact apartA_le (runA_le' _ (by omega)) alive22
  · cases hg

/-- Too long? The lengths first. -/
def Rw.longR (r : Rw) : Bool := r.F.any longF || (r.G.any longG || r.I.any longI)
def gLongT (xs : List PV) : Option Tr := match xs with
  | [x, .int .i64 k] => match asRw x with
    | some r => some (.br (gt r.nf k || (gt r.ng k || gt r.ni k)) (.leaf true (.bool true)) (.leaf r.ok0 (.bool r.longR)))
    | none => none
  | _ => none

theorem runLongT (xs : List PV) (t : Tr) (v : PV) (hg : gLongT xs = some t) (hv : t.val = some v) : ∃ H, apartS EN T0 H 1000009 5 6 xs = some v := by
  unfold gLongT at hg
  split at hg
  · rename_i x k
    split at hg
    · rename_i r hr
      cases hg
      simp only [Tr.val, cond_true] at hv
      cases hb : gt r.nf k || (gt r.ng k || gt r.ni k) with
      | true =>
        rw [hb] at hv
        cases hv
        rw [asRw_ok hr]
        refine ⟨H0, (tLo0 1000009 r.fc r.gc r.ic r.nf r.ng r.ni k).trans ?_⟩
        rw [bif_or, bif_or]
        exact cond_t (by simpa only [gt, Bool.or_assoc] using hb)
      | false =>
        rw [hb] at hv
        simp only [cond_false] at hv
        cases ho : r.ok0 with
        | false => rw [ho] at hv; cases hv
        | true =>
          rw [ho] at hv
          cases hv
          refine runLong _ _ ?_
          unfold gLong
          simp only [hr, Option.map_some, ho]
          unfold Rw.long
          rw [hb]
          rfl
    · cases hg
  · cases hg

def gLen (xs : List PV) : Option (Bool × PV) := match xs with
  | [x] => (asRw x).map fun r => (true, .int .i64 (IntKind.i64.wrap (IntKind.i64.wrap ((r.nf : Int) + (r.ng : Int)) + (r.ni : Int))))
  | _ => none

noncomputable def TL1 : Table := Tadd TQ2 5 gYes
noncomputable def TL2 : Table := TaddT TL1 6 gLongT
noncomputable def TL3 : Table := Tadd TL2 7 gOf
noncomputable def TL4 : Table := Tadd TL3 13 gJoin
noncomputable def TL5 : Table := Tadd TL4 14 gRefJoin
noncomputable def TL6 : Table := Tadd TL5 12 gSame
noncomputable def TL : Table := Tadd TL6 15 gSame

theorem TLok : TR TL := (((((TQ2ok.yes.addT TR0 runLongT).add TGrpok runOf).add TJook runJoin).add TRAok runRefJoin).add TQ2ok runRS).add TQ3ok runPS

end Go.Proofs.Ytbhgibpdhmlamaa.Am
end

/- The law RulesJoin: its walk. -/
section
set_option linter.unusedVariables false
set_option linter.unusedSimpArgs false
set_option maxRecDepth 100000
set_option maxHeartbeats 8000000
namespace Go.Proofs.Ytbhgibpdhmlamaa.Am
open St


def slW (r s : Rw) : List (Nat × PV) := [(0, r.pv), (1, s.pv), (2, .ptr 0 1 0), (3, .ptr 1 1 0), (4, .bool false), (5, .ptr 2 1 0), (6, .ptr 3 1 0), (15, .bool true), (16, .bool false), (17, r.pv), (18, .bool r.longR), (19, .bool false), (20, s.pv), (21, .bool s.longR), (22, .bool false), (23, r.pv), (24, r.pv), (25, s.pv), (26, s.pv), (27, .ptr 0 1 2), (28, .sl r.ic 3 r.ni none), (29, vI r.ni)]
def stW (r s : Rw) : Store := [bx r.pv.cells, bx s.pv.cells, bx r.pv.cells, bx s.pv.cells]
def patW (l : List (Nat × PV)) : List Bool := patOf (sparse 117 0 l)
noncomputable def LWf (N m : Nat) (r s : Rw) (i : Int) : Option PV := loopS EN TL H0 N 5 3 Try.f3 [1, 1, 1, 1, 0, 1, 0] (patW (slW nilR nilR ++ [(30, .nils)])) 4 m (sparse 117 0 (slW r s ++ [(30, vI i)])) (stW r s)

noncomputable def recW (N : Nat) : RecS PV := recS EN TL H0 N 5
noncomputable def cW (N : Nat) (c : Code) : Slots → Store → KC PV → Option PV := codeS EN TL (recW N) (H0 3) 0 N c
noncomputable def aW (N : Nat) (c : Code) (p : List Nat) (k : KC PV) : KC PV := afterS EN TL (recW N) (H0 3) 0 N c p k
noncomputable def contW (N : Nat) (pat : List Bool) (n0 : Nat) (body : Code) (q : Nat) (e : KC PV) : KC PV := fun o s1 σ1 => match o with
  | .norm => trimS EN 0 pat n0 s1 σ1 fun s2 σ2 => iterS EN 0 pat n0 (cW N body) q s2 σ2 e
  | .exit j => e (.exit j) s1 σ1
  | .ret => e .ret s1 σ1
  | .goto l => e (.goto l) s1 σ1
noncomputable def endW (N : Nat) (p : List Nat) : KC PV := aW N (bodyOf Try.f3) p (endK EN Try.f3 (lastK EN 3))
noncomputable def bodyWf : Code := subC (bodyOf Try.f3) [1, 1, 1, 1, 0, 1, 0, 0]
noncomputable def patWf : List Bool := patW (slW nilR nilR ++ [(30, .nils)])
def slV (r s : Rw) (i : Int) (row : List PV) : List (Nat × PV) := [(0, r.pv), (1, s.pv), (2, .ptr 0 1 0), (3, .ptr 1 1 0), (4, .bool false), (5, .ptr 2 1 0), (6, .ptr 3 1 0), (7, vI i), (8, .ptr 4 1 0), (15, .bool true), (16, .bool false), (17, r.pv), (18, .bool r.longR), (19, .bool false), (20, s.pv), (21, .bool s.longR), (22, .bool false), (23, r.pv), (24, r.pv), (25, s.pv), (26, s.pv), (27, .ptr 0 1 2), (28, .sl r.ic 3 r.ni none), (29, vI r.ni), (30, vI i), (31, .bool true), (32, vI i), (33, .eptr r.ic (i.toNat * 3)), (34, .agg row), (35, .ptr 1 1 2), (36, .sl s.ic 3 s.ni none), (37, vI s.ni)]
noncomputable def LWv (N m q : Nat) (r s : Rw) (i : Int) (row : List PV) (j : Int) : Option PV := iterS EN 0 (patW (slV nilR nilR 0 [] ++ [(38, .nils)])) 5 (cW N (subC bodyWf [1, 1, 0, 0, 1, 1, 0, 0])) q (sparse 117 0 (slV r s i row ++ [(38, vI j)])) (stW r s ++ [bx row])
  (aW N bodyWf [1, 1, 0, 0, 1, 1, 0] (contW N patWf 4 bodyWf m (endW N [1, 1, 1, 1, 0, 1, 0])))
def rowWi (r : Rw) (j : Int) : List PV := shapeAt KFi r.ic (j.toNat * 3)
def rowWg (r : Rw) (j : Int) : List PV := shapeAt KGr r.gc (j.toNat * 8)
noncomputable def LWg (N m : Nat) (r s : Rw) (e i : Int) : Option PV := loopS EN TL H0 N 5 3 Try.f3 [1, 1, 1, 1, 1, 0, 1, 0] (patW (slW nilR nilR ++ [(30, .nils), (31, .nils), (60, .nils), (61, .nils), (62, .nils), (63, .nils)])) 4 m
  (sparse 117 0 (slW r s ++ [(30, vI e), (31, .bool false), (60, .ptr 0 1 1), (61, .sl r.gc 8 r.ng none), (62, vI r.ng), (63, vI i)])) (stW r s)

noncomputable def bodyWg : Code := subC (bodyOf Try.f3) [1, 1, 1, 1, 1, 0, 1, 0, 0]
noncomputable def patWg : List Bool := patW (slW nilR nilR ++ [(30, .nils), (31, .nils), (60, .nils), (61, .nils), (62, .nils), (63, .nils)])
def slU (r s : Rw) (e i : Int) (row : List PV) : List (Nat × PV) := [(0, r.pv), (1, s.pv), (2, .ptr 0 1 0), (3, .ptr 1 1 0), (4, .bool false), (5, .ptr 2 1 0), (6, .ptr 3 1 0), (11, vI i), (12, .ptr 4 1 0), (15, .bool true), (16, .bool false), (17, r.pv), (18, .bool r.longR), (19, .bool false), (20, s.pv), (21, .bool s.longR), (22, .bool false), (23, r.pv), (24, r.pv), (25, s.pv), (26, s.pv), (27, .ptr 0 1 2), (28, .sl r.ic 3 r.ni none), (29, vI r.ni), (30, vI e), (31, .bool false), (60, .ptr 0 1 1), (61, .sl r.gc 8 r.ng none), (62, vI r.ng), (63, vI i), (64, .bool true), (65, vI i), (66, .eptr r.gc (i.toNat * 8)), (67, .agg row), (68, .ptr 1 1 1), (69, .sl s.gc 8 s.ng none), (70, vI s.ng)]
noncomputable def LWu (N m q : Nat) (r s : Rw) (e i : Int) (row : List PV) (j : Int) : Option PV := iterS EN 0 (patW (slU nilR nilR 0 0 [] ++ [(71, .nils)])) 5 (cW N (subC bodyWg [1, 1, 0, 0, 1, 1, 0, 0])) q (sparse 117 0 (slU r s e i row ++ [(71, vI j)])) (stW r s ++ [bxN row 8])
  (aW N bodyWg [1, 1, 0, 0, 1, 1, 0] (contW N patWg 4 bodyWg m (endW N [1, 1, 1, 1, 1, 0, 1, 0])))
def o3 (x : Nat) (r : Rw) : List Bool := [oldL x r.fc, oldL x r.gc, oldL x r.ic]
/-- Of the two rows' lists, as they lie. -/
def oW (x : Nat) (r s : Rw) : List Bool := o3 x r ++ (o3 x s ++ (o3 x r ++ (o3 x s ++ (o3 x r ++ (o3 x r ++ (o3 x s ++ o3 x s))))))
def oV (x : Nat) (r s : Rw) : List Bool := o3 x r ++ (o3 x s ++ (o3 x r ++ o3 x s))
def askV (r s : Rw) (i j : Int) : List Bool :=
  [decide (0 ≤ j) && decide (j < (s.ni : Int)), okAt KFi s.ic (j.toNat * 3)] ++ (wI 6 (rowWi r i) ++ (wI 6 (rowWi s j) ++ (wI 0 (rowWi r i) ++ (wI 0 (rowWi s j) ++ ([fiOk (rowWi r i) && fiOk (rowWi s j)] ++
  ([oldL 6 r.ic, decide (0 ≤ i) && decide (i < (r.ni : Int)), okAt KFi r.ic (i.toNat * 3)] ++ (wI 6 (rowWi r i) ++ ([oldL 6 s.ic, decide (0 ≤ j) && decide (j < (s.ni : Int)), okAt KFi s.ic (j.toNat * 3)] ++ (wI 6 (rowWi s j) ++ (wI 0 (rowWi r i) ++ (wI 0 (rowWi s j) ++ [fiOk (rowWi r i) && fiOk (rowWi s j)])))))))))))
def askU (r s : Rw) (i j : Int) : List Bool :=
  [decide (0 ≤ j) && decide (j < (s.ng : Int)), okAt KGr s.gc (j.toNat * 8)] ++ (wG 6 (rowWg r i) ++ (wG 6 (rowWg s j) ++ (wG 0 (rowWg r i) ++ (wG 0 (rowWg s j) ++ ([grOk (rowWg r i) && grOk (rowWg s j)] ++
  ([oldL 6 r.gc, decide (0 ≤ i) && decide (i < (r.ng : Int)), okAt KGr r.gc (i.toNat * 8)] ++ (wG 6 (rowWg r i) ++ ([oldL 6 s.gc, decide (0 ≤ j) && decide (j < (s.ng : Int)), okAt KGr s.gc (j.toNat * 8)] ++ (wG 6 (rowWg s j) ++ (wG 0 (rowWg r i) ++ (wG 0 (rowWg s j) ++ [grOk (rowWg r i) && grOk (rowWg s j)])))))))))))
/-- The two, as one list. -/
def c6 (r s : Rw) : List PV := [.sl r.fc 26 r.nf none, .sl r.gc 8 r.ng none, .sl r.ic 3 r.ni none, .sl s.fc 26 s.nf none, .sl s.gc 8 s.ng none, .sl s.ic 3 s.ni none]
def jC (n : Nat) (c : List PV) : Bool := Nat.beq 3 3 && (rowsC KRw n c && joOk ((chunks 3 n c).map rwOf))
def jA (n : Nat) (c : List PV) : Rw := (jo ((chunks 3 n c).map rwOf)).so
def jB (n : Nat) (c : List PV) : Rw := rj ((chunks 3 n c).map rwOf)
def finW (r s : Rw) : Option PV :=
  asks (o3 4 r ++ o3 4 s) <| asks [oldL 0 (c6 r s)] <| asks [jC 2 (c6 r s)] <| asks (o3 0 (jA 2 (c6 r s))) <| asks [(jA 2 (c6 r s)).ok0] <|
  asks (o3 4 r ++ o3 4 s) <| asks [oldL 0 (c6 r s)] <| asks [jC 2 (c6 r s)] <| asks (o3 0 (jA 2 (c6 r s))) <| asks (o3 0 (jB 2 (c6 r s))) <| asks [(jA 2 (c6 r s)).ok && (jB 2 (c6 r s)).ok] <|
  bif (jA 2 (c6 r s)).same (jB 2 (c6 r s)) then
    (asks (o3 4 r ++ o3 4 s) <| asks (o3 0 r ++ o3 0 s) <| asks [r.ok && s.ok] <| asks (o3 4 r ++ o3 4 s) <| asks (o3 0 r ++ o3 0 s) <| asks [r.ok && s.ok] <|
    bif r.same s == r.same s then
      (asks [jC 0 []] <| some (.bool (IntKind.i64.wrap (IntKind.i64.wrap (((jA 0 []).nf : Int) + ((jA 0 []).ng : Int)) + ((jA 0 []).ni : Int)) == 0)))
    else some (.bool false))
  else some (.bool false)

theorem tW0 (N : Nat) (r s : Rw) : apartS EN TL H0 N 5 3 [r.pv, s.pv] =
  (asks (o3 0 r) <| bif gt r.nf 40 || (gt r.ng 40 || gt r.ni 40) then some (.bool true) else
   (asks [r.ok0] <| bif r.longR then some (.bool true) else
    (asks (o3 0 s) <| bif gt s.nf 40 || (gt s.ng 40 || gt s.ni 40) then some (.bool true) else
     (asks [s.ok0] <| bif s.longR then some (.bool true) else
      (asks (o3 2 r ++ o3 0 r) <| asks [r.ok0] <| asks (o3 2 s ++ o3 0 s) <| asks [s.ok0] <| LWf N N r s 0))))) := by kernel_rfl

theorem tWf (N m : Nat) (r s : Rw) (i : Int) : LWf N (m + 1) r s i =
  (bif decide (i < (r.ni : Int)) then (asks [decide (0 ≤ i) && decide (i < (r.ni : Int)), okAt KFi r.ic (i.toNat * 3)] <| LWv N m N r s i (rowWi r i) 0)
  else LWg N N r s i 0) := by kernel_rfl

theorem tWv (N m q : Nat) (r s : Rw) (i j : Int) : LWv N m (q + 1) r s i (rowWi r i) j =
  (bif decide (j < (s.ni : Int)) then
    (asks (askV r s i j) <| bif !(sameFi (rowWi r i) (rowWi s j) == sameFi (rowWi r i) (rowWi s j)) then some (.bool false) else
      (asks (oW 5 r s ++ ([oldL 5 r.ic, oldL 5 r.ic] ++ (wI 5 (rowWi r i) ++ ([oldL 5 s.ic] ++ (oV 5 r s ++ wI 5 (rowWi r i)))))) <| LWv N m q r s i (rowWi r i) (IntKind.i64.wrap (j + 1))))
  else (asks (oW 4 r s ++ ([oldL 4 r.ic] ++ oV 4 r s)) <| LWf N m r s (IntKind.i64.wrap (i + 1)))) := by kernel_rfl

theorem tWg (N m : Nat) (r s : Rw) (e i : Int) : LWg N (m + 1) r s e i =
  (bif decide (i < (r.ng : Int)) then (asks [decide (0 ≤ i) && decide (i < (r.ng : Int)), okAt KGr r.gc (i.toNat * 8)] <| LWu N m N r s e i (rowWg r i) 0)
  else finW r s) := by kernel_rfl

theorem tWu (N m q : Nat) (r s : Rw) (e i j : Int) : LWu N m (q + 1) r s e i (rowWg r i) j =
  (bif decide (j < (s.ng : Int)) then
    (asks (askU r s i j) <| bif !(sameGr (rowWg r i) (rowWg s j) == sameGr (rowWg r i) (rowWg s j)) then some (.bool false) else
      (asks (oW 5 r s ++ ([oldL 5 r.ic, oldL 5 r.gc, oldL 5 r.gc] ++ (wG 5 (rowWg r i) ++ ([oldL 5 s.gc] ++ (oV 5 r s ++ wG 5 (rowWg r i)))))) <| LWu N m q r s e i (rowWg r i) (IntKind.i64.wrap (j + 1))))
  else (asks (oW 4 r s ++ ([oldL 4 r.ic, oldL 4 r.gc] ++ oV 4 r s)) <| LWg N m r s e (IntKind.i64.wrap (i + 1)))) := by kernel_rfl

end Go.Proofs.Ytbhgibpdhmlamaa.Am
end

/- RulesJoin holds at all rows that are well laid. -/
section
set_option linter.unusedVariables false
set_option linter.unusedSimpArgs false
set_option maxRecDepth 100000
set_option maxHeartbeats 8000000
namespace Go.Proofs.Ytbhgibpdhmlamaa.Am
open St

/-- A slice's rows. -/
def slR (K : List Kd) (y : PV) : Prop := ∃ R, rowsOk K R = true ∧ R.flatten = slCells y ∧ R.length = slLen y

theorem okSl_of {K : List Kd} {y : PV} (h : slR K y) (hn : slLen y ≤ 1000000) : okSl K y = true := by
  obtain ⟨R, h1, h2, h3⟩ := h
  unfold okSl
  rw [← h2, ← h3]
  exact rowsC_of h1 (by omega)

/-- Rows as they come in. -/
structure WR (r : Rw) (F G I : List (List PV)) : Prop where
  f : rowsOk KFr F = true
  g : rowsOk KGr G = true
  i : rowsOk KFi I = true
  fc : F.flatten = r.fc
  gc : G.flatten = r.gc
  ic : I.flatten = r.ic
  nf : F.length = r.nf
  ng : G.length = r.ng
  ni : I.length = r.ni
  b8 : ∀ x ∈ F, r8 x
  gk : ∀ x ∈ G, slR KPt (x.getD 6 .nilp) ∧ slR KIn (x.getD 7 .nilp)
  ik : ∀ x ∈ I, slR KPt (x.getD 2 .nilp)

section
variable {r s : Rw} {F G I : List (List PV)}

theorem WR.eF (W : WR r F G I) : r.F = F := by
  unfold Rw.F
  rw [← W.fc, ← W.nf]
  exact chunks_of (K := KFr) W.f
theorem WR.eG (W : WR r F G I) : r.G = G := by
  unfold Rw.G
  rw [← W.gc, ← W.ng]
  exact chunks_of (K := KGr) W.g
theorem WR.eI (W : WR r F G I) : r.I = I := by
  unfold Rw.I
  rw [← W.ic, ← W.ni]
  exact chunks_of (K := KFi) W.i

theorem WR.old (W : WR r F G I) (x : Nat) : (o3 x r).all id = true := by
  unfold o3
  rw [← W.fc, ← W.gc, ← W.ic, rows_oldn W.f, rows_oldn W.g, rows_oldn W.i]
  rfl

theorem gt_false {n : Nat} {k : Nat} (h : gt n (k : Int) = false) : n ≤ k := by
  unfold gt at h
  simp only [decide_eq_false_iff_not] at h
  omega

theorem WR.ok0 (W : WR r F G I) (h : (gt r.nf 40 || (gt r.ng 40 || gt r.ni 40)) = false) : r.ok0 = true := by
  simp only [Bool.or_eq_false_iff] at h
  obtain ⟨h1, h2, h3⟩ := h
  have n1 := gt_false (k := 40) h1
  have n2 := gt_false (k := 40) h2
  have n3 := gt_false (k := 40) h3
  have e1 := W.nf
  have e2 := W.ng
  have e3 := W.ni
  unfold Rw.ok0
  rw [← W.fc, ← W.gc, ← W.ic, ← W.nf, ← W.ng, ← W.ni, rowsC_of W.f (by omega), rowsC_of W.g (by omega), rowsC_of W.i (by omega)]
  rfl

theorem WR.ok (W : WR r F G I) (h : (gt r.nf 40 || (gt r.ng 40 || gt r.ni 40)) = false) (hl : r.longR = false) : r.ok = true := by
  simp only [Bool.or_eq_false_iff] at h
  obtain ⟨h1, h2, h3⟩ := h
  have n1 := gt_false (k := 40) h1
  have n2 := gt_false (k := 40) h2
  have n3 := gt_false (k := 40) h3
  unfold Rw.longR at hl
  rw [W.eF, W.eG, W.eI] at hl
  simp only [Bool.or_eq_false_iff, List.any_eq_false] at hl
  obtain ⟨_, l2, l3⟩ := hl
  have e1 := W.nf
  have e2 := W.ng
  have e3 := W.ni
  have hg : ∀ x ∈ G, grOk x = true := fun x hx => by
    have hb := l2 x hx
    unfold longG at hb
    simp only [Bool.not_eq_true, Bool.or_eq_false_iff] at hb
    obtain ⟨_, _, _, b1, b2⟩ := hb
    have c1 := gt_false (k := 30) b1
    have c2 := gt_false (k := 260) b2
    obtain ⟨g1, g2⟩ := W.gk x hx
    unfold grOk okTb
    rw [(rowsOk_get W.g hx).1, okSl_of g1 (by omega), okSl_of g2 (by omega)]
    rfl
  have hi : ∀ x ∈ I, fiOk x = true := fun x hx => by
    have hb := l3 x hx
    unfold longI at hb
    simp only [Bool.not_eq_true, Bool.or_eq_false_iff] at hb
    obtain ⟨_, _, b1⟩ := hb
    have c1 := gt_false (k := 20) b1
    unfold fiOk
    rw [(rowsOk_get W.i hx).1, okSl_of (W.ik x hx) (by omega)]
    rfl
  unfold Rw.ok
  rw [← W.fc, ← W.gc, ← W.ic, ← W.nf, ← W.ng, ← W.ni, rowsC_of W.f (by omega), rowsA_of W.g (by omega) hg, rowsA_of W.i (by omega) hi]
  rfl
end

theorem all_app {a b : List Bool} (ha : a.all id = true) (hb : b.all id = true) : (a ++ b).all id = true := by rw [List.all_append, ha, hb]; rfl

theorem o3_ok {r : Rw} (h : r.ok = true) (x : Nat) : (o3 x r).all id = true := by
  have lx := Rw.lists h
  unfold o3
  rw [← lx.fc, ← lx.gc, ← lx.ic, rows_oldn lx.f, rows_oldn lx.g, rows_oldn lx.i]
  rfl
theorem oW_ok {r s : Rw} (h : r.ok = true) (k : s.ok = true) (x : Nat) : (oW x r s).all id = true := by
  have a := o3_ok h x
  have b := o3_ok k x
  exact all_app a (all_app b (all_app a (all_app b (all_app a (all_app a (all_app b b))))))
theorem oV_ok {r s : Rw} (h : r.ok = true) (k : s.ok = true) (x : Nat) : (oV x r s).all id = true := by
  have a := o3_ok h x
  have b := o3_ok k x
  exact all_app a (all_app b (all_app a b))

theorem wI_ok {R : List (List PV)} (h : rowsOk KFi R = true) {i : Nat} (hi : i < R.length) (x : Nat) : (wI x R[i]).all id = true := by
  unfold wI
  rw [row_cell h hi x 2]
  rfl
theorem wG_ok {R : List (List PV)} (h : rowsOk KGr R = true) {i : Nat} (hi : i < R.length) (x : Nat) : (wG x R[i]).all id = true := by
  unfold wG
  rw [row_cell h hi x 6, row_cell h hi x 7]
  rfl

theorem cons_ok {b : Bool} {l : List Bool} (h : b = true) (k : l.all id = true) : (b :: l).all id = true := by rw [List.all_cons, h, k]; rfl

theorem rowWi_eq {r : Rw} (h : r.ok = true) {i : Nat} (hi : i < r.I.length) : rowWi r (i : Int) = r.I[i] ∧ okAt KFi r.ic (i * 3) = true := by
  have lx := Rw.lists h
  unfold rowWi
  rw [Int.toNat_natCast, ← lx.ic, show (3 : Nat) = KFi.length from rfl]
  exact ⟨(rows_at0 lx.i hi).2, (rows_at0 lx.i hi).1⟩
theorem rowWg_eq {r : Rw} (h : r.ok = true) {i : Nat} (hi : i < r.G.length) : rowWg r (i : Int) = r.G[i] ∧ okAt KGr r.gc (i * 8) = true := by
  have lx := Rw.lists h
  unfold rowWg
  rw [Int.toNat_natCast, ← lx.gc, show (8 : Nat) = KGr.length from rfl]
  exact ⟨(rows_at0 lx.g hi).2, (rows_at0 lx.g hi).1⟩

theorem askV_ok {r s : Rw} (h : r.ok = true) (k : s.ok = true) {i j : Nat} (hi : i < r.ni) (hj : j < s.ni) : (askV r s (i : Int) (j : Int)).all id = true := by
  have lr := Rw.lists h
  have ls := Rw.lists k
  have hi' : i < r.I.length := by rw [lr.ni]; exact hi
  have hj' : j < s.I.length := by rw [ls.ni]; exact hj
  have e1 := rowWi_eq h hi'
  have e2 := rowWi_eq k hj'
  have o1 : oldL 6 r.ic = true := by rw [← lr.ic]; exact rows_oldn lr.i 6
  have o2 : oldL 6 s.ic = true := by rw [← ls.ic]; exact rows_oldn ls.i 6
  have f : (fiOk (rowWi r i) && fiOk (rowWi s j)) = true := by rw [e1.1, e2.1, lr.ik _ (List.getElem_mem hi'), ls.ik _ (List.getElem_mem hj')]; rfl
  unfold askV
  rw [e1.1, e2.1] at *
  simp only [Int.toNat_natCast]
  have a := wI_ok lr.i hi'
  have b := wI_ok ls.i hj'
  exact all_app (cons_ok (inside hj) (cons_ok e2.2 rfl)) (all_app (a 6) (all_app (b 6) (all_app (a 0) (all_app (b 0) (all_app (cons_ok f rfl) (all_app (cons_ok o1 (cons_ok (inside hi) (cons_ok e1.2 rfl))) (all_app (a 6) (all_app (cons_ok o2 (cons_ok (inside hj) (cons_ok e2.2 rfl))) (all_app (b 6) (all_app (a 0) (all_app (b 0) (cons_ok f rfl))))))))))))

theorem askU_ok {r s : Rw} (h : r.ok = true) (k : s.ok = true) {i j : Nat} (hi : i < r.ng) (hj : j < s.ng) : (askU r s (i : Int) (j : Int)).all id = true := by
  have lr := Rw.lists h
  have ls := Rw.lists k
  have hi' : i < r.G.length := by rw [lr.ng]; exact hi
  have hj' : j < s.G.length := by rw [ls.ng]; exact hj
  have e1 := rowWg_eq h hi'
  have e2 := rowWg_eq k hj'
  have o1 : oldL 6 r.gc = true := by rw [← lr.gc]; exact rows_oldn lr.g 6
  have o2 : oldL 6 s.gc = true := by rw [← ls.gc]; exact rows_oldn ls.g 6
  have f : (grOk (rowWg r i) && grOk (rowWg s j)) = true := by rw [e1.1, e2.1, lr.gk _ (List.getElem_mem hi'), ls.gk _ (List.getElem_mem hj')]; rfl
  unfold askU
  rw [e1.1, e2.1] at *
  simp only [Int.toNat_natCast]
  have a := wG_ok lr.g hi'
  have b := wG_ok ls.g hj'
  exact all_app (cons_ok (inside hj) (cons_ok e2.2 rfl)) (all_app (a 6) (all_app (b 6) (all_app (a 0) (all_app (b 0) (all_app (cons_ok f rfl) (all_app (cons_ok o1 (cons_ok (inside hi) (cons_ok e1.2 rfl))) (all_app (a 6) (all_app (cons_ok o2 (cons_ok (inside hj) (cons_ok e2.2 rfl))) (all_app (b 6) (all_app (a 0) (all_app (b 0) (cons_ok f rfl))))))))))))

theorem Rw.same_refl (r : Rw) : r.same r = true := by
  unfold Rw.same
  rw [Nat.beq_refl, Nat.beq_refl, Nat.beq_refl, eqRows_refl _ fun x _ => eqFr_refl x, eqRows_refl _ fun x _ => sameGr_refl x, eqRows_refl _ fun x _ => sameFi_refl x]
  rfl

theorem beq_b (b : Bool) : (!(b == b)) = false := by cases b <;> rfl

theorem vi_loop {N m : Nat} {r s : Rw} (h : r.ok = true) (k : s.ok = true) (hN : 1000002 ≤ N) {i : Nat} (hi : i < r.ni) : LWv N m N r s (i : Int) (rowWi r i) 0 = LWf N m r s ((i + 1 : Nat) : Int) := by
  have lr := Rw.lists h
  have ls := Rw.lists k
  have hi' : i < r.I.length := by rw [lr.ni]; exact hi
  have hw := wI_ok lr.i hi'
  rw [← (rowWi_eq h hi').1] at hw
  have o1 : ∀ x, oldL x r.ic = true := fun x => by rw [← lr.ic]; exact rows_oldn lr.i x
  have o2 : ∀ x, oldL x s.ic = true := fun x => by rw [← ls.ic]; exact rows_oldn ls.i x
  have m1 := lr.mi
  have m2 := ls.mi
  have key := mid_loop (n := s.ni) (L := fun q j => LWv N m q r s (i : Int) (rowWi r i) (j : Int)) (v := LWf N m r s ((i + 1 : Nat) : Int)) ?_ ?_ (N - 1 - s.ni)
  · rw [show N - 1 - s.ni + s.ni + 1 = N from by omega] at key
    exact key
  · intro q j hj
    show LWv N m (q + 1) r s (i : Int) (rowWi r i) (j : Int) = LWv N m q r s (i : Int) (rowWi r i) ((j + 1 : Nat) : Int)
    rw [tWv, cond_t (show decide ((j : Int) < (s.ni : Int)) = true from by simp; omega), asks_of (askV_ok h k hi hj), cond_f (beq_b _),
      asks_of (all_app (oW_ok h k 5) (all_app (cons_ok (o1 5) (cons_ok (o1 5) rfl)) (all_app (hw 5) (all_app (cons_ok (o2 5) rfl) (all_app (oV_ok h k 5) (hw 5)))))), wrap_succ (by omega : j < 9223372036854775807)]
  · intro q
    show LWv N m (q + 1) r s (i : Int) (rowWi r i) (s.ni : Int) = _
    rw [tWv, cond_f (show decide ((s.ni : Int) < (s.ni : Int)) = false from by simp), asks_of (all_app (oW_ok h k 4) (all_app (cons_ok (o1 4) rfl) (oV_ok h k 4))), wrap_succ (by omega : i < 9223372036854775807)]

theorem ui_loop {N m : Nat} {r s : Rw} (h : r.ok = true) (k : s.ok = true) (hN : 1000002 ≤ N) (e : Int) {i : Nat} (hi : i < r.ng) : LWu N m N r s e (i : Int) (rowWg r i) 0 = LWg N m r s e ((i + 1 : Nat) : Int) := by
  have lr := Rw.lists h
  have ls := Rw.lists k
  have hi' : i < r.G.length := by rw [lr.ng]; exact hi
  have hw := wG_ok lr.g hi'
  rw [← (rowWg_eq h hi').1] at hw
  have o0 : ∀ x, oldL x r.ic = true := fun x => by rw [← lr.ic]; exact rows_oldn lr.i x
  have o1 : ∀ x, oldL x r.gc = true := fun x => by rw [← lr.gc]; exact rows_oldn lr.g x
  have o2 : ∀ x, oldL x s.gc = true := fun x => by rw [← ls.gc]; exact rows_oldn ls.g x
  have m1 := lr.mg
  have m2 := ls.mg
  have key := mid_loop (n := s.ng) (L := fun q j => LWu N m q r s e (i : Int) (rowWg r i) (j : Int)) (v := LWg N m r s e ((i + 1 : Nat) : Int)) ?_ ?_ (N - 1 - s.ng)
  · rw [show N - 1 - s.ng + s.ng + 1 = N from by omega] at key
    exact key
  · intro q j hj
    show LWu N m (q + 1) r s e (i : Int) (rowWg r i) (j : Int) = LWu N m q r s e (i : Int) (rowWg r i) ((j + 1 : Nat) : Int)
    rw [tWu, cond_t (show decide ((j : Int) < (s.ng : Int)) = true from by simp; omega), asks_of (askU_ok h k hi hj), cond_f (beq_b _),
      asks_of (all_app (oW_ok h k 5) (all_app (cons_ok (o0 5) (cons_ok (o1 5) (cons_ok (o1 5) rfl))) (all_app (hw 5) (all_app (cons_ok (o2 5) rfl) (all_app (oV_ok h k 5) (hw 5)))))), wrap_succ (by omega : j < 9223372036854775807)]
  · intro q
    show LWu N m (q + 1) r s e (i : Int) (rowWg r i) (s.ng : Int) = _
    rw [tWu, cond_f (show decide ((s.ng : Int) < (s.ng : Int)) = false from by simp), asks_of (all_app (oW_ok h k 4) (all_app (cons_ok (o0 4) (cons_ok (o1 4) rfl)) (oV_ok h k 4))), wrap_succ (by omega : i < 9223372036854775807)]

theorem f_loop {N : Nat} {r s : Rw} (h : r.ok = true) (k : s.ok = true) (hN : 1000002 ≤ N) : LWf N N r s 0 = LWg N N r s (r.ni : Int) 0 := by
  have lr := Rw.lists h
  have m1 := lr.mi
  have key := mid_loop (n := r.ni) (L := fun m i => LWf N m r s (i : Int)) (v := LWg N N r s (r.ni : Int) 0) ?_ ?_ (N - 1 - r.ni)
  · rw [show N - 1 - r.ni + r.ni + 1 = N from by omega] at key
    exact key
  · intro m i hi
    show LWf N (m + 1) r s (i : Int) = LWf N m r s ((i + 1 : Nat) : Int)
    rw [tWf, cond_t (show decide ((i : Int) < (r.ni : Int)) = true from by simp; omega), asks_of (cons_ok (inside hi) (cons_ok (by rw [Int.toNat_natCast]; exact (rowWi_eq h (by rw [lr.ni]; exact hi)).2) rfl))]
    exact vi_loop h k hN hi
  · intro m
    show LWf N (m + 1) r s (r.ni : Int) = _
    rw [tWf, cond_f (show decide ((r.ni : Int) < (r.ni : Int)) = false from by simp)]

theorem g_loop {N : Nat} {r s : Rw} (h : r.ok = true) (k : s.ok = true) (hN : 1000002 ≤ N) (e : Int) : LWg N N r s e 0 = finW r s := by
  have lr := Rw.lists h
  have m1 := lr.mg
  have key := mid_loop (n := r.ng) (L := fun m i => LWg N m r s e (i : Int)) (v := finW r s) ?_ ?_ (N - 1 - r.ng)
  · rw [show N - 1 - r.ng + r.ng + 1 = N from by omega] at key
    exact key
  · intro m i hi
    show LWg N (m + 1) r s e (i : Int) = LWg N m r s e ((i + 1 : Nat) : Int)
    rw [tWg, cond_t (show decide ((i : Int) < (r.ng : Int)) = true from by simp; omega), asks_of (cons_ok (inside hi) (cons_ok (by rw [Int.toNat_natCast]; exact (rowWg_eq h (by rw [lr.ng]; exact hi)).2) rfl))]
    exact ui_loop h k hN e hi
  · intro m
    show LWg N (m + 1) r s e (r.ng : Int) = _
    rw [tWg, cond_f (show decide ((r.ng : Int) < (r.ng : Int)) = false from by simp)]

theorem same_jo {r s : Rw} {F G I F' G' I' : List (List PV)} (W : WR r F G I) (V : WR s F' G' I') (h : joOk [r, s] = true) : (jo [r, s]).so = rj [r, s] := by
  have J := JL.of h
  have j2 := jo_ok h
  unfold Rw.so rj Rw.mk'
  rw [j2.2.1, j2.2.2.1, j2.2.2.2]
  have e1 : insAll (ltOf cFr) (joF [r, s]) = insAll (ltOf rFr) (joF [r, s]) := insAll_congr _ fun x hx y hy => by
    have key : ∀ z ∈ joF [r, s], r8 z := by
      intro z hz
      simp only [joF, List.flatMap_cons, List.flatMap_nil, List.append_nil, List.mem_append] at hz
      rw [W.eF, V.eF] at hz
      rcases hz with hz | hz
      · exact W.b8 z hz
      · exact V.b8 z hz
    unfold ltOf
    rw [cFr_eq (key x hx) (key y hy)]
  have e2 : insAll (ltOf cGi) (joG [r, s]) = insAll (ltOf rGi) (joG [r, s]) := insAll_congr _ fun x hx y hy => by
    unfold ltOf
    rw [cGi_eq]
  have e3 : insAll (ltOf cKy) (joI [r, s]) = insAll (ltOf rKy) (joI [r, s]) := insAll_congr _ fun x hx y hy => by
    unfold ltOf
    rw [cKy_eq]
  rw [e1, e2, e3, insAll_len, insAll_len, insAll_len]
  rfl

theorem joOk_two {r s : Rw} (h : r.ok = true) (k : s.ok = true) (n1 : r.nf ≤ 40) (n2 : r.ng ≤ 40) (n3 : r.ni ≤ 40) (m1 : s.nf ≤ 40) (m2 : s.ng ≤ 40) (m3 : s.ni ≤ 40) : joOk [r, s] = true := by
  have lr := Rw.lists h
  have ls := Rw.lists k
  have a1 := lr.nf
  have a2 := lr.ng
  have a3 := lr.ni
  have b1 := ls.nf
  have b2 := ls.ng
  have b3 := ls.ni
  unfold joOk joF joG joI
  simp only [List.all_cons, List.all_nil, h, k, Bool.and_self, List.flatMap_cons, List.flatMap_nil, List.append_nil, List.length_append, Bool.and_true, Bool.true_and, Bool.and_eq_true, decide_eq_true_eq]
  omega

theorem finW_ok {r s : Rw} {F G I F' G' I' : List (List PV)} (W : WR r F G I) (V : WR s F' G' I') (h : r.ok = true) (k : s.ok = true) (hj : joOk [r, s] = true) : finW r s = some (.bool true) := by
  have a := o3_ok h
  have b := o3_ok k
  have J := JL.of hj
  have eA : jA 2 (c6 r s) = rj [r, s] := (show jA 2 (c6 r s) = (jo [r, s]).so from rfl).trans (same_jo W V hj)
  have eB : jB 2 (c6 r s) = rj [r, s] := rfl
  have mk := mk_ok (rows_ins (lt := ltOf rFr) J.f) (rows_ins (lt := ltOf rGi) J.g) (rows_ins (lt := ltOf rKy) J.i) (by rw [insAll_len]; exact J.mf) (by rw [insAll_len]; exact J.mg) (by rw [insAll_len]; exact J.mi) (fun x hx => J.gk x ((mem_insAll _ _ _).1 hx)) (fun x hx => J.ik x ((mem_insAll _ _ _).1 hx))
  have hok : (rj [r, s]).ok = true := mk.1
  have o := o3_ok hok
  have hold : oldL 0 (c6 r s) = true := by
    have lr := Rw.lists h
    have ls := Rw.lists k
    unfold c6
    simp only [oldL, oldV, ← lr.fc, ← lr.gc, ← lr.ic, ← ls.fc, ← ls.gc, ← ls.ic, rows_old lr.f, rows_old lr.g, rows_old lr.i, rows_old ls.f, rows_old ls.g, rows_old ls.i, Bool.and_self]
  have hc : jC 2 (c6 r s) = true := by
    have e1 : rowsC KRw 2 (c6 r s) = true := by
      have hr : rowsOk KRw [[.sl r.fc 26 r.nf none, .sl r.gc 8 r.ng none, .sl r.ic 3 r.ni none], [.sl s.fc 26 s.nf none, .sl s.gc 8 s.ng none, .sl s.ic 3 s.ni none]] = true := by
        have lr := Rw.lists h
        have ls := Rw.lists k
        unfold rowsOk
        simp only [List.all_cons, List.all_nil, oldL, oldV, ← lr.fc, ← lr.gc, ← lr.ic, ← ls.fc, ← ls.gc, ← ls.ic, rows_old lr.f, rows_old lr.g, rows_old lr.i, rows_old ls.f, rows_old ls.g, rows_old ls.i, Bool.and_self]
        rfl
      exact rowsC_of hr (show 2 ≤ 1000000 by decide)
    unfold jC
    rw [e1, show (chunks 3 2 (c6 r s)).map rwOf = [r, s] from rfl, hj]
    rfl
  unfold finW
  rw [eA, eB, hok, Rw.ok_0 hok, h, k, hold, hc, Rw.same_refl, Bool.and_self]
  rw [asks_of (all_app (a 4) (b 4)), asks_of (ask1 rfl), asks_of (ask1 rfl), asks_of (o 0), asks_of (ask1 rfl), asks_of (all_app (a 4) (b 4)), asks_of (ask1 rfl), asks_of (ask1 rfl), asks_of (o 0), asks_of (o 0), asks_of (ask1 rfl), cond_true,
    asks_of (all_app (a 4) (b 4)), asks_of (all_app (a 0) (b 0)), asks_of (ask1 rfl), asks_of (all_app (a 4) (b 4)), asks_of (all_app (a 0) (b 0)), asks_of (ask1 rfl)]
  rw [cond_t (by cases r.same s <;> rfl)]
  rfl

/-- The law, at rows that are well laid. -/
theorem holds3 {r s : Rw} {F G I F' G' I' : List (List PV)} (W : WR r F G I) (V : WR s F' G' I') : apartS EN TL H0 1000009 5 3 [r.pv, s.pv] = some (.bool true) := by
  rw [tW0, asks_of (W.old 0)]
  cases h1 : gt r.nf 40 || (gt r.ng 40 || gt r.ni 40) with
  | true => rfl
  | false =>
    cases h2 : r.longR with
    | true =>
      have h0 : r.ok0 = true := W.ok0 h1
      rw [cond_false, asks_of (ask1 h0), cond_true]
    | false =>
      have hr := W.ok h1 h2
      rw [cond_false, asks_of (ask1 (Rw.ok_0 hr)), cond_false, asks_of (V.old 0)]
      cases h3 : gt s.nf 40 || (gt s.ng 40 || gt s.ni 40) with
      | true => rfl
      | false =>
        cases h4 : s.longR with
        | true =>
          have h0 : s.ok0 = true := V.ok0 h3
          rw [cond_false, asks_of (ask1 h0), cond_true]
        | false =>
          have hs := V.ok h3 h4
          rw [cond_false, asks_of (ask1 (Rw.ok_0 hs)), cond_false, asks_of (all_app (o3_ok hr 2) (o3_ok hr 0)), asks_of (ask1 (Rw.ok_0 hr)), asks_of (all_app (o3_ok hs 2) (o3_ok hs 0)), asks_of (ask1 (Rw.ok_0 hs)), f_loop hr hs (by decide), g_loop hr hs (by decide)]
          simp only [Bool.or_eq_false_iff] at h1 h3
          obtain ⟨a1, a2, a3⟩ := h1
          obtain ⟨b1, b2, b3⟩ := h3
          exact finW_ok W V hr hs (joOk_two hr hs (gt_false (k := 40) a1) (gt_false (k := 40) a2) (gt_false (k := 40) a3) (gt_false (k := 40) b1) (gt_false (k := 40) b2) (gt_false (k := 40) b3))

theorem law3 {r s : Rw} {F G I F' G' I' : List (List PV)} (W : WR r F G I) (V : WR s F' G' I') : ∃ K, apartA EN (runA EN 1000009 K) 3 [r.pv, s.pv] = some (.bool true) := by
  obtain ⟨K, hT⟩ := TLok
  exact ⟨_, apartS_ok (K := K) (d := 5) hT (by rfl) (holds3 W V)⟩

end Go.Proofs.Ytbhgibpdhmlamaa.Am
end

/- From how Go's data read to the interpreter's values: numbers, truths, texts, slices, structs, arrays, at any depth. -/
section
set_option linter.unusedVariables false
set_option linter.unusedSimpArgs false
namespace Go.Proofs.Ytbhgibpdhmlamaa.Am

/-- A type, as its cells lie: 'st': parts one behind the other; 'sl': a slice of elements of so many cells. -/
inductive Sh where
  | int (k : IntKind)
  | bool
  | str
  | sl (e : Sh) (s : Nat)
  | st (fs : List Sh)
  deriving Inhabited

def shAll (f : TypeId → Option Sh) : List TypeId → Option (List Sh)
  | [] => some []
  | t :: ts => match f t, shAll f ts with
    | some s, some ss => some (s :: ss)
    | _, _ => none

/-- Where fields that lie one behind the other end. -/
def offsOk (P : Program) : List Field → Nat → Option Nat
  | [], o => some o
  | f :: r, o => if f.offset = o then offsOk P r (o + P.cellsOf f.type) else none

def shOf (P : Program) : Nat → TypeId → Option Sh
  | 0, _ => none
  | d + 1, t => match P.underlying t with
    | some (.int k) => some (.int k)
    | some .bool => some .bool
    | some .string => some .str
    | some (.slice e) => match shOf P d e with
      | some s => some (.sl s (P.cellsOf e))
      | none => none
    | some (.struct fs) => match shAll (shOf P d) (fs.toList.map (·.type)), offsOk P fs.toList 0 with
      | some ss, some o => if o = P.cellsOf t then some (.st ss) else none
      | _, _ => none
    | some (.array n e) => match shOf P d e with
      | some s => if n * P.cellsOf e = P.cellsOf t then some (.st (List.replicate n s)) else none
      | none => none
    | _ => none

mutual
/-- Values of a type, cell by cell. -/
def Sh.Has : Sh → List PV → Prop
  | .int k, xs => ∃ n, xs = [.int k n] ∧ (Lit.int k n).wf = true
  | .bool, xs => ∃ b, xs = [.bool b]
  | .str, xs => ∃ s : List UInt8, xs = [.str s] ∧ s.length ≤ maxLen
  | .sl e s, xs => ∃ rows : List {r : List PV // r.length = s}, xs = [.sl (rows.flatMap Subtype.val) s rows.length none] ∧ ∀ r ∈ rows, e.Has r.val
  | .st fs, xs => Sh.HasL fs xs
def Sh.HasL : List Sh → List PV → Prop
  | [], xs => xs = []
  | s :: ss, xs => ∃ a b, xs = a ++ b ∧ s.Has a ∧ Sh.HasL ss b
end

mutual
theorem Sh.Has.one : ∀ (s : Sh) (xs : List PV), s.Has xs → xs.all PV.oneCell = true
  | .int k, xs, h => by obtain ⟨n, rfl, _⟩ := (by simpa only [Sh.Has] using h); rfl
  | .bool, xs, h => by obtain ⟨b, rfl⟩ := (by simpa only [Sh.Has] using h); rfl
  | .str, xs, h => by obtain ⟨s, rfl, _⟩ := (by simpa only [Sh.Has] using h); rfl
  | .sl e s, xs, h => by obtain ⟨rows, rfl, _⟩ := (by simpa only [Sh.Has] using h); rfl
  | .st fs, xs, h => Sh.HasL.one fs xs (by simpa only [Sh.Has] using h)
theorem Sh.HasL.one : ∀ (ss : List Sh) (xs : List PV), Sh.HasL ss xs → xs.all PV.oneCell = true
  | [], xs, h => by have h : xs = [] := (by simpa only [Sh.HasL] using h); subst h; rfl
  | s :: ss, xs, h => by
    obtain ⟨a, b, rfl, h1, h2⟩ := (by simpa only [Sh.HasL] using h : ∃ a b, xs = a ++ b ∧ s.Has a ∧ Sh.HasL ss b)
    rw [List.all_append, Sh.Has.one s a h1, Sh.HasL.one ss b h2]
    rfl
end

section
variable {H : Type} {enc : TypeId × Value → H} {P : Program} {W : World} {sp : Nat → Bool} {held : Bool}

/-- What a world's cells say. -/
abbrev memG (W : World) : Sealed := fun b o => W.cell? ⟨b, o, none⟩

theorem shAll_cons {f : TypeId → Option Sh} {t : TypeId} {ts : List TypeId} {ss : List Sh} (h : shAll f (t :: ts) = some ss) : ∃ s r, ss = s :: r ∧ f t = some s ∧ shAll f ts = some r := by
  unfold shAll at h
  split at h
  · rename_i s r h1 h2
    cases h
    exact ⟨s, r, rfl, h1, h2⟩
  · cases h

theorem fields_rep {d n : Nat} {cs : List Value} (ih : ∀ (t : TypeId) (s : Sh) (l : List Value) (x : DataW H × List MemPlace), shOf P d t = some s → DataW.trod enc P W 0 sp held n t l = some x → ∃ xs, s.Has xs ∧ Reps (memG W) (fun _ => none) xs l) :
    ∀ (fl : List Field) (ss : List Sh) (o e : Nat), shAll (shOf P d) (fl.map (·.type)) = some ss → offsOk P fl o = some e → (∀ f ∈ fl, ∃ x, DataW.trod enc P W 0 sp held n f.type ((cs.drop f.offset).take (P.cellsOf f.type)) = some x) →
      o ≤ e ∧ ∃ ys, Sh.HasL ss ys ∧ Reps (memG W) (fun _ => none) ys ((cs.drop o).take (e - o))
  | [], ss, o, e, h1, h2, h3 => by
    cases h1
    cases h2
    refine ⟨Nat.le_refl _, [], by simp only [Sh.HasL], ?_⟩
    rw [Nat.sub_self]
    exact Reps.nil
  | f :: fl, ss, o, e, h1, h2, h3 => by
    obtain ⟨s, r, rfl, e1, e2⟩ := shAll_cons h1
    unfold offsOk at h2
    split at h2
    · rename_i ho
      obtain ⟨x, hx⟩ := h3 f (by simp)
      obtain ⟨k1, ys, k2, k3⟩ := fields_rep ih fl r _ e e2 h2 fun f hf => h3 f (by simp [hf])
      obtain ⟨xs, q1, q2⟩ := ih _ _ _ _ e1 hx
      refine ⟨by omega, xs ++ ys, by simp only [Sh.HasL]; exact ⟨xs, ys, rfl, q1, k2⟩, ?_⟩
      have : (cs.drop o).take (e - o) = (cs.drop o).take (P.cellsOf f.type) ++ (cs.drop (o + P.cellsOf f.type)).take (e - (o + P.cellsOf f.type)) := by
        rw [show e - o = P.cellsOf f.type + (e - (o + P.cellsOf f.type)) by omega, List.take_add, List.drop_drop]
      rw [this]
      rw [ho] at q2
      exact q2.append k3
    · cases h2

theorem elems_rep {n : Nat} {e : TypeId} {s : Sh} {cs : List Value} {c : Nat} (ih : ∀ (l : List Value) (x : DataW H × List MemPlace), DataW.trod enc P W 0 sp held n e l = some x → ∃ xs, s.Has xs ∧ Reps (memG W) (fun _ => none) xs l) :
    ∀ (k i : Nat), (∀ j, j < k → ∃ x, DataW.trod enc P W 0 sp held n e ((cs.drop ((i + j) * c)).take c) = some x) →
      ∃ ys, Sh.HasL (List.replicate k s) ys ∧ Reps (memG W) (fun _ => none) ys ((cs.drop (i * c)).take (k * c))
  | 0, i, h => ⟨[], by simp only [List.replicate_zero, Sh.HasL], by rw [Nat.zero_mul]; exact Reps.nil⟩
  | k + 1, i, h => by
    obtain ⟨x, hx⟩ := h 0 (by omega)
    obtain ⟨ys, k2, k3⟩ := elems_rep (s := s) ih k (i + 1) fun j hj => by
      obtain ⟨y, hy⟩ := h (j + 1) (by omega)
      exact ⟨y, by rw [show i + 1 + j = i + (j + 1) by omega]; exact hy⟩
    obtain ⟨xs, q1, q2⟩ := ih _ _ hx
    refine ⟨xs ++ ys, by simp only [List.replicate_succ, Sh.HasL]; exact ⟨xs, ys, rfl, q1, k2⟩, ?_⟩
    have : (cs.drop (i * c)).take ((k + 1) * c) = (cs.drop (i * c)).take c ++ (cs.drop ((i + 1) * c)).take (k * c) := by
      rw [show (k + 1) * c = c + k * c by rw [Nat.add_mul]; omega, List.take_add, List.drop_drop, show i * c + c = (i + 1) * c by rw [Nat.add_mul]; omega]
    rw [this]
    rw [Nat.add_zero] at q2
    exact q2.append k3

/-- A slice's rows, one by one. -/
theorem rows_rep {n : Nat} {e : TypeId} {s : Sh} {c : Nat} {a : Addr} (ih : ∀ (l : List Value) (x : DataW H × List MemPlace), DataW.trod enc P W 0 sp held n e l = some x → ∃ xs, s.Has xs ∧ Reps (memG W) (fun _ => none) xs l) :
    ∀ (k : Nat), (∀ j, j < k → ∃ l x, W.cells? 0 (a.add (j * c)) c = some l ∧ DataW.trod enc P W 0 sp held n e l = some x) →
      ∃ rows : List {r : List PV // r.length = c}, rows.length = k ∧ (∀ r ∈ rows, s.Has r.val) ∧
        ∀ (i : Nat) (hi : i < rows.length) (j : Nat) (x : PV), rows[i].val[j]? = some x → ∃ v, W.cell? ((a.add (i * c)).add j) = some v ∧ Rep (memG W) (fun _ => none) x v
  | 0, h => ⟨[], rfl, fun r hr => (by cases hr), fun i hi => (by simp at hi)⟩
  | k + 1, h => by
    obtain ⟨rows, h1, h2, h3⟩ := rows_rep ih k fun j hj => h j (by omega)
    obtain ⟨l, x, hl, hx⟩ := h k (by omega)
    obtain ⟨xs, q1, q2⟩ := ih _ _ hx
    unfold World.cells? at hl
    rw [if_pos (Nat.zero_le _)] at hl
    have hlen : l.length = c := by simpa using mapM_some_length hl
    have hxs : xs.length = c := by rw [← hlen, q2.1]
    refine ⟨rows ++ [⟨xs, hxs⟩], by simp [h1], fun r hr => ?_, fun i hi j y hy => ?_⟩
    · rcases List.mem_append.1 hr with hr | hr
      · exact h2 r hr
      · simp only [List.mem_singleton] at hr
        subst hr
        exact q1
    · by_cases hk : i < rows.length
      · have e1 : (rows ++ [⟨xs, hxs⟩])[i] = rows[i] := List.getElem_append_left hk
        rw [e1] at hy
        exact h3 i hk j y hy
      · have hik : i = rows.length := by simp at hi; omega
        subst hik
        have e1 : (rows ++ [(⟨xs, hxs⟩ : {r : List PV // r.length = c})])[rows.length] = ⟨xs, hxs⟩ := by simp
        rw [e1] at hy
        have hj : j < c := by rw [← hxs]; exact (List.getElem?_eq_some_iff.1 hy).1
        have hg := mapM_some_get hl j j (by simp [hj])
        have hjl : j < l.length := by omega
        rw [List.getElem?_eq_getElem hjl] at hg
        exact ⟨_, by rw [h1]; exact hg, q2.2 j y l[j] hy (by simp [hjl])⟩

/-- What is read is so, cell by cell. -/
theorem trod_rep : ∀ (n d : Nat) (t : TypeId) (s : Sh) (l : List Value) (x : DataW H × List MemPlace), shOf P d t = some s → DataW.trod enc P W 0 sp held n t l = some x → ∃ xs, s.Has xs ∧ Reps (memG W) (fun _ => none) xs l
  | 0, d, t, s, l, x, hs, h => by simp [DataW.trod] at h
  | n + 1, 0, t, s, l, x, hs, h => by cases hs
  | n + 1, d + 1, t, s, l, x, hs, h => by
    unfold shOf at hs
    split at hs
    · rename_i k hu
      cases hs
      obtain ⟨m, rfl, _, hw⟩ := DataW.trod_int hu h
      exact ⟨[.int k m], by simp only [Sh.Has]; exact ⟨m, rfl, hw⟩, Reps.cons (.int _ _) Reps.nil⟩
    · rename_i hu
      cases hs
      obtain ⟨b, rfl, _⟩ := DataW.trod_bool hu h
      exact ⟨[.bool b], by simp only [Sh.Has]; exact ⟨b, rfl⟩, Reps.cons (.bool _) Reps.nil⟩
    · rename_i hu
      cases hs
      obtain ⟨b, rfl, _, hz⟩ := DataW.trod_string hu h
      obtain ⟨⟨b⟩⟩ := b
      exact ⟨[.str b], by simp only [Sh.Has]; exact ⟨b, rfl, hz⟩, Reps.cons (.str _) Reps.nil⟩
    · rename_i e hu
      split at hs
      · rename_i se hse
        cases hs
        rcases DataW.trod_slice hu h with ⟨rfl, _⟩ | ⟨a, len, cap, elems, rest, n', hn', rfl, _, _, hlc, _, hel, hE, _, _⟩
        · exact ⟨[.sl [] (P.cellsOf e) 0 none], by simp only [Sh.Has]; exact ⟨[], rfl, fun r hr => by cases hr⟩, Reps.cons (.slNil (fun c hc => by cases hc)) Reps.nil⟩
        · have hn' : n' = n := by omega
          subst hn'
          obtain ⟨rows, h1, h2, h3⟩ := rows_rep (P := P) (enc := enc) (sp := sp) (held := held) (n := n') (e := e) (s := se) (c := P.cellsOf e) (a := a) (fun l x hx => trod_rep n' d e se l x hse hx) len fun j hj => by
            have hE := hE j hj
            have hjl : j < elems.length := by omega
            rw [List.getElem?_eq_getElem hjl] at hE
            obtain ⟨l, hl1, hl2⟩ := Option.bind_eq_some_iff.1 hE
            exact ⟨l, _, hl1, hl2⟩
          have he : ∀ r : {r : List PV // r.length = P.cellsOf e}, r.val.length = P.cellsOf e := fun r => r.2
          have hfl : (rows.flatMap Subtype.val).length = rows.length * P.cellsOf e := flat_length (enc := Subtype.val) he rows
          have cell : ∀ (j : Nat) (x : PV), (rows.flatMap Subtype.val)[j]? = some x → ∃ v, a.spot = none ∧ W.cell? ⟨a.block, a.off + j, none⟩ = some v ∧ Rep (memG W) (fun _ => none) x v := by
            intro j x hj
            have hlt := (List.getElem?_eq_some_iff.1 hj).1
            rw [hfl] at hlt
            have hc0 : 0 < P.cellsOf e := Nat.pos_of_ne_zero fun e0 => by
              have e1 : rows.length * P.cellsOf e = rows.length * 0 := congrArg (rows.length * ·) e0
              omega
            have hi : j / P.cellsOf e < rows.length := by rw [Nat.div_lt_iff_lt_mul hc0]; exact hlt
            have hm : j % P.cellsOf e < P.cellsOf e := Nat.mod_lt _ hc0
            have hjj : j = j / P.cellsOf e * P.cellsOf e + j % P.cellsOf e := by rw [Nat.mul_comm]; exact (Nat.div_add_mod _ _).symm
            rw [hjj, flat_get? (enc := Subtype.val) he hi hm] at hj
            obtain ⟨v, hv1, hv2⟩ := h3 _ hi _ x hj
            have hsp : a.spot = none := by
              obtain ⟨ab, ao, asp⟩ := a
              by_cases h0 : j / P.cellsOf e * P.cellsOf e = 0 ∧ j % P.cellsOf e = 0
              · have := World.cell?_spot hv1
                simpa [Addr.add, h0.1, h0.2] using this
              · -- the first element's first cell
                obtain ⟨l0, x0, hl0, _⟩ : ∃ l x, W.cells? 0 ((⟨ab, ao, asp⟩ : Addr).add (0 * P.cellsOf e)) (P.cellsOf e) = some l ∧ DataW.trod enc P W 0 sp held n' e l = some x := by
                  have h00 : 0 < len := by
                    have hi2 := hi
                    rw [h1] at hi2
                    exact Nat.lt_of_le_of_lt (Nat.zero_le _) hi2
                  have hE := hE 0 h00
                  have hjl : 0 < elems.length := by omega
                  rw [List.getElem?_eq_getElem hjl] at hE
                  obtain ⟨l, hl1, hl2⟩ := Option.bind_eq_some_iff.1 hE
                  exact ⟨l, _, hl1, hl2⟩
                unfold World.cells? at hl0
                rw [if_pos (Nat.zero_le _)] at hl0
                have hg := mapM_some_get hl0 0 0 (by simp [hc0])
                have hl0l : l0.length = P.cellsOf e := by simpa using mapM_some_length hl0
                rw [List.getElem?_eq_getElem (by omega)] at hg
                have := World.cell?_spot hg
                simpa [Addr.add] using this
            refine ⟨v, hsp, ?_, hv2⟩
            rw [← hv1]
            congr 1
            obtain ⟨ab, ao, asp⟩ := a
            simp only at hsp
            subst hsp
            have ad : ∀ (o k : Nat), (⟨ab, o, none⟩ : Addr).add k = ⟨ab, o + k, none⟩ := fun o k => by
              unfold Addr.add
              split
              · rename_i h0; subst h0; rfl
              · rfl
            rw [ad, ad]
            simp only [Addr.mk.injEq, and_true, true_and]
            omega
          refine ⟨[.sl (rows.flatMap Subtype.val) (P.cellsOf e) rows.length none], by simp only [Sh.Has]; exact ⟨rows, rfl, h2⟩, Reps.cons ?_ Reps.nil⟩
          rw [← h1] at hlc ⊢
          have one : (rows.flatMap Subtype.val).all PV.oneCell = true := by
            rw [List.all_eq_true]
            intro y hy
            obtain ⟨r, hr, hy⟩ := List.mem_flatMap.1 hy
            exact List.all_eq_true.1 (Sh.Has.one se r.val (h2 r hr)) y hy
          refine .sl a cap (fun j => (W.cell? ⟨a.block, a.off + j, none⟩).getD (.bool false)) hfl hlc (fun c hc => by cases hc) (fun j x hj => ?_) (fun j x hj => ?_)
          · obtain ⟨v, c1, c2, c3⟩ := cell j x hj
            refine ⟨c1, ?_, List.all_eq_true.1 one x (List.mem_of_getElem? hj)⟩
            show W.cell? ⟨a.block, a.off + j, none⟩ = _
            rw [c2]; rfl
          · obtain ⟨v, c1, c2, c3⟩ := cell j x hj
            rw [c2]
            exact c3
      · cases hs
    · rename_i fs hu
      split at hs
      · rename_i ss o h1 h2
        split at hs
        · rename_i ho
          cases hs
          obtain ⟨xs, n', hn', _, hlen, hxl, hF⟩ := DataW.trod_struct hu h
          have hn' : n' = n := by omega
          subst hn'
          obtain ⟨_, ys, k1, k2⟩ := fields_rep (n := n') (cs := l) (fun t s l x h1 h2 => trod_rep n' d t s l x h1 h2) fs.toList ss 0 o h1 h2 fun f hf => by
            obtain ⟨i, hi, rfl⟩ := List.getElem_of_mem hf
            have hi' : i < fs.size := by simpa using hi
            have := hF i (fs.toList[i]) (by simp [hi'])
            have hix : i < xs.length := by omega
            rw [List.getElem?_eq_getElem hix] at this
            exact ⟨_, this⟩
          refine ⟨ys, by simp only [Sh.Has]; exact k1, ?_⟩
          rw [List.drop_zero, Nat.sub_zero, ho, ← hlen, List.take_length] at k2
          exact k2
        · cases hs
      · cases hs
    · rename_i m e hu
      split at hs
      · rename_i se hse
        split at hs
        · rename_i hm
          cases hs
          obtain ⟨xs, n', hn', _, hlen, hxl, hF⟩ := DataW.trod_array hu h
          have hn' : n' = n := by omega
          subst hn'
          obtain ⟨ys, k1, k2⟩ := elems_rep (n := n') (cs := l) (c := P.cellsOf e) (s := se) (fun l x h2 => trod_rep n' d e se l x hse h2) m 0 fun j hj => by
            have := hF j hj
            have hix : j < xs.length := by omega
            rw [List.getElem?_eq_getElem hix] at this
            exact ⟨_, by rw [Nat.zero_add]; exact this⟩
          refine ⟨ys, by simp only [Sh.Has]; exact k1, ?_⟩
          rw [Nat.zero_mul, List.drop_zero, hm, ← hlen, List.take_length] at k2
          exact k2
        · cases hs
      · cases hs
    · cases hs

end

/-- Rows of one make. -/
theorem rows_of {α : Type} {enc : α → List PV} {c : Nat} : ∀ (rows : List {r : List PV // r.length = c}), (∀ r ∈ rows, ∃ a, r.val = enc a) → ∃ l : List α, rows.flatMap Subtype.val = l.flatMap enc ∧ l.length = rows.length
  | [], _ => ⟨[], rfl, rfl⟩
  | r :: rows, h => by
    obtain ⟨a, ha⟩ := h r (by simp)
    obtain ⟨l, h1, h2⟩ := rows_of rows fun r hr => h r (by simp [hr])
    exact ⟨a :: l, by simp [ha, h1], by simp [h2]⟩

def toByte (n : Int) : UInt8 := UInt8.ofNat n.toNat

theorem toByte_eq {n : Int} (h : (Lit.int .u8 n).wf = true) : bpv (toByte n) = .int .u8 n := by
  simp only [Lit.wf, Bool.and_eq_true, decide_eq_true_eq] at h
  obtain ⟨h1, h2⟩ := h
  simp [IntKind.min, IntKind.max, IntKind.signed, IntKind.bits] at h1 h2
  have h3 : (toByte n).toNat = n.toNat := by
    unfold toByte
    rw [UInt8.toNat_ofNat']
    apply Nat.mod_eq_of_lt
    omega
  unfold bpv
  rw [h3, Int.toNat_of_nonneg h1]

theorem has_bytes {xs : List PV} (h : (Sh.sl (.int .u8) 1).Has xs) : ∃ l : List UInt8, xs = [.sl (l.map bpv) 1 l.length none] := by
  obtain ⟨rows, rfl, hh⟩ := (by simpa only [Sh.Has] using h : ∃ rows : List {r : List PV // r.length = 1}, xs = [.sl (rows.flatMap Subtype.val) 1 rows.length none] ∧ ∀ r ∈ rows, (Sh.int .u8).Has r.val)
  obtain ⟨l, h1, h2⟩ := rows_of (enc := fun b => [bpv b]) rows fun r hr => by
    obtain ⟨n, hn, hw⟩ := (by simpa only [Sh.Has] using hh r hr : ∃ n, r.val = [.int .u8 n] ∧ (Lit.int .u8 n).wf = true)
    exact ⟨toByte n, by rw [hn, toByte_eq hw]⟩
  exact ⟨l, by rw [h1, h2, List.map_eq_flatMap]⟩

end Go.Proofs.Ytbhgibpdhmlamaa.Am
end

/- What the arguments read as: rows, each list's rows of their kinds; bytes in range. -/
section
set_option linter.unusedVariables false
set_option linter.unusedSimpArgs false
set_option maxRecDepth 100000
set_option maxHeartbeats 4000000
namespace Go.Proofs.Ytbhgibpdhmlamaa.Am
open St

mutual
def Sh.kd : Sh → List Kd
  | .int k => [.int k]
  | .bool => [.bool]
  | .str => [.str]
  | .sl _ s => [.sl s]
  | .st fs => Sh.kdL fs
def Sh.kdL : List Sh → List Kd
  | [] => []
  | s :: ss => s.kd ++ Sh.kdL ss
end

theorem wk_append : ∀ {K K' : List Kd} {xs ys : List PV}, wk K xs = true → wk K' ys = true → wk (K ++ K') (xs ++ ys) = true
  | [], K', [], ys, _, h => h
  | [], K', _ :: _, ys, h, _ => by cases h
  | _ :: _, K', [], ys, h, _ => by cases h
  | k :: K, K', x :: xs, ys, h, h' => by
    simp only [wk, Bool.and_eq_true, List.cons_append] at h ⊢
    exact ⟨h.1, wk_append h.2 h'⟩

theorem old_rows {c : Nat} : ∀ (rows : List {r : List PV // r.length = c}), (∀ r ∈ rows, oldL 0 r.val = true) → oldL 0 (rows.flatMap Subtype.val) = true
  | [], _ => rfl
  | r :: rows, h => by
    rw [List.flatMap_cons, oldL_append, h r (by simp), old_rows rows fun r hr => h r (by simp [hr])]
    rfl

mutual
theorem Sh.Has.wk : ∀ (s : Sh) (xs : List PV), s.Has xs → Am.wk s.kd xs = true ∧ oldL 0 xs = true
  | .int k, xs, h => by obtain ⟨n, rfl, _⟩ := (by simpa only [Sh.Has] using h); exact ⟨by simp [Sh.kd, Am.wk, Kd.wk], rfl⟩
  | .bool, xs, h => by obtain ⟨b, rfl⟩ := (by simpa only [Sh.Has] using h); exact ⟨rfl, rfl⟩
  | .str, xs, h => by obtain ⟨s, rfl, _⟩ := (by simpa only [Sh.Has] using h); exact ⟨rfl, rfl⟩
  | .sl e s, xs, h => by
    obtain ⟨rows, rfl, hr⟩ := (by simpa only [Sh.Has] using h)
    refine ⟨by simp [Sh.kd, Am.wk, Kd.wk], ?_⟩
    have := old_rows rows fun r hm => (Sh.Has.wk e r.val (hr r hm)).2
    simp only [oldL, oldV, this, Bool.and_self]
  | .st fs, xs, h => by
    simp only [Sh.Has] at h
    exact Sh.HasL.wk fs xs h
theorem Sh.HasL.wk : ∀ (ss : List Sh) (xs : List PV), Sh.HasL ss xs → Am.wk (Sh.kdL ss) xs = true ∧ oldL 0 xs = true
  | [], xs, h => by simp only [Sh.HasL] at h; subst h; exact ⟨rfl, rfl⟩
  | s :: ss, xs, h => by
    simp only [Sh.HasL] at h
    obtain ⟨a, b, rfl, h1, h2⟩ := h
    obtain ⟨k1, k2⟩ := Sh.Has.wk s a h1
    obtain ⟨k3, k4⟩ := Sh.HasL.wk ss b h2
    exact ⟨by simp only [Sh.kdL]; exact wk_append k1 k3, by rw [oldL_append, k2, k4]; rfl⟩
end

/-- A slice that came in: its rows. -/
theorem rows_has {s : Sh} {c : Nat} (rows : List {r : List PV // r.length = c}) (h : ∀ r ∈ rows, s.Has r.val) : rowsOk s.kd (rows.map Subtype.val) = true ∧ rows.flatMap Subtype.val = (rows.map Subtype.val).flatten ∧ (rows.map Subtype.val).length = rows.length := by
  refine ⟨?_, by rw [List.flatMap_def], by simp⟩
  unfold rowsOk
  rw [List.all_eq_true]
  intro r hr
  obtain ⟨x, hx, rfl⟩ := List.mem_map.1 hr
  have := Sh.Has.wk s x.val (h x hx)
  simp only [this.1, this.2, Bool.and_self]


/-! ### the cells' own slices, and their numbers' ranges -/

mutual
def Sh.sk : Sh → List (Option (List Kd))
  | .int _ => [none]
  | .bool => [none]
  | .str => [none]
  | .sl e _ => [some e.kd]
  | .st fs => Sh.skL fs
def Sh.skL : List Sh → List (Option (List Kd))
  | [] => []
  | s :: ss => s.sk ++ Sh.skL ss
end

def cellR : Option (List Kd) → PV → Prop
  | none, x => ∀ k n, x = .int k n → (Lit.int k n).wf = true
  | some K, x => slR K x
def wkS : List (Option (List Kd)) → List PV → Prop
  | [], [] => True
  | o :: os, x :: xs => cellR o x ∧ wkS os xs
  | _, _ => False

theorem wkS_append : ∀ {a b : List (Option (List Kd))} {xs ys : List PV}, wkS a xs → wkS b ys → wkS (a ++ b) (xs ++ ys)
  | [], b, [], ys, _, h => h
  | [], b, _ :: _, ys, h, _ => by cases h
  | _ :: _, b, [], ys, h, _ => by cases h
  | o :: a, b, x :: xs, ys, h, h' => ⟨h.1, wkS_append h.2 h'⟩

theorem wkS_get : ∀ {os : List (Option (List Kd))} {xs : List PV} {j : Nat} {o : Option (List Kd)}, wkS os xs → os[j]? = some o → cellR o (xs.getD j .nilp)
  | [], _, j, o, _, h => by cases j <;> cases h
  | _ :: _, [], _, _, h, _ => by cases h
  | p :: os, x :: xs, 0, o, h, e => by
    cases e
    exact h.1
  | p :: os, x :: xs, j + 1, o, h, e => by
    have := wkS_get (j := j) h.2 (by simpa using e)
    simpa using this

theorem slR_rows {s : Sh} {c : Nat} (rows : List {r : List PV // r.length = c}) (h : ∀ r ∈ rows, s.Has r.val) : slR s.kd (.sl (rows.flatMap Subtype.val) c rows.length none) := by
  obtain ⟨h1, h2, h3⟩ := rows_has rows h
  exact ⟨rows.map Subtype.val, h1, h2.symm, h3⟩

mutual
theorem Sh.Has.wkS : ∀ (s : Sh) (xs : List PV), s.Has xs → Am.wkS s.sk xs
  | .int k, xs, h => by
    obtain ⟨n, rfl, hw⟩ := (by simpa only [Sh.Has] using h)
    refine ⟨fun k' n' e => ?_, trivial⟩
    cases e
    exact hw
  | .bool, xs, h => by
    obtain ⟨b, rfl⟩ := (by simpa only [Sh.Has] using h)
    exact ⟨fun k' n' e => (by cases e), trivial⟩
  | .str, xs, h => by
    obtain ⟨s, rfl, _⟩ := (by simpa only [Sh.Has] using h)
    exact ⟨fun k' n' e => (by cases e), trivial⟩
  | .sl e s, xs, h => by
    obtain ⟨rows, rfl, hr⟩ := (by simpa only [Sh.Has] using h)
    exact ⟨slR_rows rows hr, trivial⟩
  | .st fs, xs, h => by
    simp only [Sh.Has] at h
    exact Sh.HasL.wkS fs xs h
theorem Sh.HasL.wkS : ∀ (ss : List Sh) (xs : List PV), Sh.HasL ss xs → Am.wkS (Sh.skL ss) xs
  | [], xs, h => by simp only [Sh.HasL] at h; subst h; exact trivial
  | s :: ss, xs, h => by
    simp only [Sh.HasL] at h
    obtain ⟨a, b, rfl, h1, h2⟩ := h
    exact wkS_append (Sh.Has.wkS s a h1) (Sh.HasL.wkS ss b h2)
end

theorem wk_get : ∀ {K : List Kd} {xs : List PV} {j : Nat} {k : Kd}, wk K xs = true → K[j]? = some k → k.wk (xs.getD j .nilp) = true
  | [], _, j, k, _, h => by cases j <;> cases h
  | _ :: _, [], _, _, h, _ => by cases h
  | p :: K, x :: xs, 0, k, h, e => by
    cases e
    simp only [wk, Bool.and_eq_true] at h
    exact h.1
  | p :: K, x :: xs, j + 1, k, h, e => by
    simp only [wk, Bool.and_eq_true] at h
    have := wk_get (j := j) h.2 (by simpa using e)
    simpa using this

theorem r8_of {x : List PV} (h : wk KFr x = true) (hs : wkS (List.replicate 26 none) x) : r8 x := by
  intro i hi
  have hk : KFr[2 + i]? = some (.int .u8) := by
    have key : ∀ i, i < 16 → KFr[2 + i]? = some (.int .u8) := by
      intro i hi
      match i, hi with
      | 0, _ => rfl
      | 1, _ => rfl
      | 2, _ => rfl
      | 3, _ => rfl
      | 4, _ => rfl
      | 5, _ => rfl
      | 6, _ => rfl
      | 7, _ => rfl
      | 8, _ => rfl
      | 9, _ => rfl
      | 10, _ => rfl
      | 11, _ => rfl
      | 12, _ => rfl
      | 13, _ => rfl
      | 14, _ => rfl
      | 15, _ => rfl
      | i + 16, h => exact absurd h (by omega)
    exact key i hi
  have hn : (List.replicate 26 (none : Option (List Kd)))[2 + i]? = some none := by
    rw [List.getElem?_replicate]
    rw [if_pos (by omega)]
  have h1 := wk_get h hk
  have h2 := wkS_get hs hn
  show 0 ≤ asI (x.getD (1 + 1 + i) .nilp) ∧ asI (x.getD (1 + 1 + i) .nilp) < 256
  rw [show 1 + 1 + i = 2 + i from by omega]
  generalize x.getD (2 + i) .nilp = y at h1 h2 ⊢
  cases y with
  | int k n =>
    have hkk : k = .u8 := by
      have : IntKind.u8 = k := by simpa [Kd.wk] using h1
      exact this.symm
    subst hkk
    have hw := h2 _ _ rfl
    simp only [Lit.wf, Bool.and_eq_true, decide_eq_true_eq] at hw
    obtain ⟨w1, w2⟩ := hw
    simp [IntKind.min, IntKind.max, IntKind.signed, IntKind.bits] at w1 w2
    show 0 ≤ n ∧ n < 256
    omega
  | _ => simp [Kd.wk] at h1

end Go.Proofs.Ytbhgibpdhmlamaa.Am
end

/- linkboylaw22.RulesJoin, as the given statement says: at every two rows it returns true, and they read as they did. No condition beyond the given row. -/
section
set_option linter.unusedVariables false
set_option linter.unusedSimpArgs false
set_option maxRecDepth 100000
namespace Go.Proofs.Ytbhgibpdhmlamaa
open Go.ChangeShapes Go.WideShapes Go.ChangeAt Go.RowKit
open Am

section
variable {H : Type} {enc : TypeId × Value → H} {P : Program}

/-- What 'post' asks, where the old blocks stand as they stood. -/
theorem post_below {f : Func} {s : ChangeSpec} {apart fresh handsOn again : Bool} {W W' : World} {args : Array Value} {v : Value} {ds gs : List (DataW H)} {before pa pv : List MemPlace}
    (hW : DataW.Whole enc P f.params.toList s.vars apart W args.toList ds gs before)
    (hres : ∀ (b : Nat) (sp : Nat → Bool) (hd : Bool), DataW.TrodAll enc P W' b sp hd f.resultTypes.toList (v.resultList f.resultTypes.size) (s.fn H (ds ++ gs)).results [])
    (hargs : ∀ sp : Nat → Bool, (∀ p ∈ before, sp p.block = true) → DataW.TrodAll enc P W' 0 sp true f.params.toList args.toList (s.fn H (ds ++ gs)).args pa)
    (hvars : ∀ sp : Nat → Bool, (∀ p ∈ before, sp p.block = true) → DataW.TrodVars enc P W' sp s.vars (s.fn H (ds ++ gs)).vars pv)
    (hps : before = pa ++ pv) (hb : Below W.heap.size W W')
    (hok : ∀ (j : Nat) (t : TypeId) (r : Value), f.resultTypes[j]? = some t → (v.resultList f.resultTypes.size)[j]? = some r → Value.okWide P W' .any 0 t r) :
    s.post enc P f apart fresh handsOn again W args v W' := by
  have hlt : ∀ p ∈ before, p.block < W.heap.size := fun p hp => hW.lt p hp
  have hold : ∀ p ∈ before, (fun b => decide (b < W.heap.size)) p.block = true := fun p hp => by simpa using hlt p hp
  refine ⟨ds, gs, before, [], pa, pv, hW, hres _ _ _, hargs _ hold, hvars _ hold, World.keptBut_mono (fun p hp => ⟨hp, ?_⟩) (hb.frame (· ∈ before)), fun _ => ?_⟩
  · rw [hps, List.mem_append] at hp
    exact Or.inr hp
  · obtain ⟨_, _, _, _, _, hz, hn⟩ := hW
    refine ⟨hok, _, _, ([] ++ pa) ++ pv, ⟨[] ++ pa, pv, trodAll_append (hargs _ (fun _ _ => rfl)) (hres _ _ _), hvars _ (fun _ _ => rfl), rfl, ?_, ?_⟩, ?_⟩
    · intro b off hp
      have hin : MemPlace.cell b off ∈ before := by rw [hps]; simpa using hp
      rw [hb.frozen (hlt _ hin)]
      exact hz b off hin
    · intro ha
      have := hn ha
      rw [hps] at this
      simpa using this
    · intro p hp _
      rw [hps]
      simpa using hp
end

theorem own : ownKnob Try.prog.godebug = none := by kernel_rfl
theorem laid : laidOutB Try.prog = true := by kernel_rfl

/-- From an answer of the interpreter to the machine's. -/
theorem calls_of_apart {f : FuncId} {args : List PV} {vs : List Value} {p : PV} {w : World} {n k : Nat} (h : apartA EN (runA EN n k) f args = some p)
    (hr : Reps (fun b o => w.cell? ⟨b, o, none⟩) (fun _ => none) args vs) :
    Calls Try.prog f vs.toArray w fun e w' => ∃ r Γ ρ, e = .returned r ∧ Rep Γ ρ p r ∧ Below w.heap.size w w' := by
  have hR : Rel EN 0 (fun b o => w.cell? ⟨b, o, none⟩) (fun _ => none) [] w := ⟨fun b o v hv => hv, fun id l hl => (by cases hl), fun id l m hl => (by cases hl), fun i j li lj hi => (by cases hi), fun g cells hg => (by cases hg), ⟨fun b hb => (by obtain ⟨g, t, a, h, _⟩ := hb; cases h), fun g g' t t' a h1 => (by cases h1)⟩⟩
  obtain ⟨σ2, _, key⟩ := apartA_ok (EG_ok rowG_ok) (runA_ok (EG_ok rowG_ok) n k) h
  refine Calls.mono (key _ w vs hR hr) fun e w' he => ?_
  obtain ⟨r, e1, Γ, ρ, h1, h2, h3⟩ := he
  exact ⟨r, Γ, ρ, e1, h1, h3.os, h3.tape, h3.output, h3.size, fun b hb => h3.frame b hb fun id l hl => by cases hl⟩


/-- Rows of nothing. -/
def zeroR : Value := .agg #[.slice none 0 0, .slice none 0 0, .slice none 0 0]

theorem shapes : (match shOf Try.prog 9 26 with | some (.st [.sl e1 26, .sl e2 8, .sl e3 3]) => some (e1.kd, e1.sk, e2.kd, e2.sk, e3.kd, e3.sk) | _ => none) = some (KFr, List.replicate 26 none, KGr, [none, none, none, none, none, none, some KPt, some KIn], KFi, [none, none, some KPt]) := by kernel_rfl

/-- Rows among the arguments, what they read as. -/
theorem rows_rep' {H : Type} {enc : TypeId × Value → H} {W : World} {cs : Array Value} {d : DataW H} {ps : List MemPlace} (h : DataW.Trod enc Try.prog W 0 (fun _ => true) true 26 (.agg cs) d ps) :
    ∃ (r : Rw) (F G I : List (List PV)), WR r F G I ∧ Rep (memG W) (fun _ => none) r.pv (.agg cs) := by
  have hs := shapes
  split at hs
  · rename_i e1 e2 e3 hsh
    simp only [Option.some.injEq, Prod.mk.injEq] at hs
    obtain ⟨k1, s1, k2, s2, k3, s3⟩ := hs
    obtain ⟨fuel, hf⟩ := h
    obtain ⟨xs, h1, h2⟩ := trod_rep fuel 9 _ _ _ _ hsh hf
    simp only [Sh.Has, Sh.HasL] at h1
    obtain ⟨a, b, rfl, ⟨r1, rfl, p1⟩, a', b', rfl, ⟨r2, rfl, p2⟩, a'', b'', rfl, ⟨r3, rfl, p3⟩, rfl⟩ := h1
    obtain ⟨f1, f2, f3⟩ := rows_has r1 p1
    obtain ⟨g1, g2, g3⟩ := rows_has r2 p2
    obtain ⟨i1, i2, i3⟩ := rows_has r3 p3
    rw [k1] at f1
    rw [k2] at g1
    rw [k3] at i1
    refine ⟨⟨r1.length, r1.flatMap Subtype.val, r2.length, r2.flatMap Subtype.val, r3.length, r3.flatMap Subtype.val⟩, r1.map Subtype.val, r2.map Subtype.val, r3.map Subtype.val, ⟨f1, g1, i1, f2.symm, g2.symm, i2.symm, f3, g3, i3, ?_, ?_, ?_⟩, ?_⟩
    · intro x hx
      have hw := (rowsOk_get f1 hx).1
      obtain ⟨y, hy, rfl⟩ := List.mem_map.1 hx
      have hk := Sh.Has.wkS e1 y.val (p1 y hy)
      rw [s1] at hk
      exact r8_of hw hk
    · intro x hx
      obtain ⟨y, hy, rfl⟩ := List.mem_map.1 hx
      have hk := Sh.Has.wkS e2 y.val (p2 y hy)
      rw [s2] at hk
      exact ⟨wkS_get (j := 6) hk rfl, wkS_get (j := 7) hk rfl⟩
    · intro x hx
      obtain ⟨y, hy, rfl⟩ := List.mem_map.1 hx
      have hk := Sh.Has.wkS e3 y.val (p3 y hy)
      rw [s3] at hk
      exact wkS_get (j := 2) hk rfl
    · have := h2.agg
      simpa [Value.cells, Rw.pv] using this
  · cases hs

theorem join_lifted (os : Os) (started : os.Started) (H : Type) (enc : TypeId × Value → H) :
    ReturnsInHanded {} Try.checked os 3 .any (Rows.rulesJoinSpec.pre6 enc Try.prog Try.f3 Rows.rulesJoinRow.domain false) (Rows.rulesJoinSpec.post enc Try.prog Try.f3 false true false false) := by
  refine returnsInHanded_of_change (C := Try.checked) own started (by kernel_rfl) Try.func3
    (ChangeSpec.witness6 (enc := enc) (C := Try.checked) false ⟨#[], #[zeroR, zeroR], []⟩ 8 (by kernel_rfl) (by kernel_rfl) (by kernel_rfl) (by kernel_rfl)) ?_
  intro W base args ds gs before hval0 hW hcnd _
  have hval : ∀ (j : Nat) t v, Try.f3.params[j]? = some t → args[j]? = some v → Value.okWide Try.prog W .any base t v := hval0
  have hW' := hW
  obtain ⟨p, q, hA0, hV, rfl, hfz, hnd⟩ := hW
  have hA : DataW.TrodAll enc Try.prog W 0 (fun _ => true) true Try.f3.params.toList args.toList ds p := hA0
  rw [Try.params3] at hA hval
  obtain ⟨v0, v1, d0, d1, p0, p1, rfl, rfl, rfl, h0, h1⟩ := trodAll_two hA
  obtain ⟨rfl, rfl⟩ := trodVars_none hV
  obtain ⟨c0, rfl, _⟩ := okWide_struct Try.underlying26 (hval 0 26 v0 rfl rfl)
  obtain ⟨c1, rfl, _⟩ := okWide_struct Try.underlying26 (hval 1 26 v1 rfl rfl)
  obtain ⟨r, F, G, I, wr, kr⟩ := rows_rep' h0
  obtain ⟨s, F', G', I', ws, ks⟩ := rows_rep' h1
  obtain ⟨K, law⟩ := law3 wr ws
  clear hA0 hval0
  simp only [List.append_nil] at hW'
  have hr : Reps (fun b o => W.cell? ⟨b, o, none⟩) (fun _ => none) [r.pv, s.pv] [.agg c0, .agg c1] := Reps.cons kr (Reps.cons ks Reps.nil)
  refine (calls_of_apart law hr).mono fun e W' he => ?_
  obtain ⟨_, Γ, ρ, rfl, h2, hw⟩ := he
  cases h2
  have hlt : ∀ x ∈ p0 ++ p1, x.block < W.heap.size := fun x hx => hW'.lt x hx
  exact ⟨_, rfl, post_below (pa := p0 ++ p1) (pv := []) hW' (fun _ _ _ => trodAll_mk1 (shut_bool Try.underlying4 true))
    (fun sp hsp => trodAll_mk2
      (WideElems.Trod_stays laid (by kernel_rfl) (of_decide_eq_true (by kernel_rfl)) h0 (fun x hx => hw.same (hlt x (List.mem_append_left _ hx))) (fun x hx => hsp x (by simp [hx])))
      (WideElems.Trod_stays laid (by kernel_rfl) (of_decide_eq_true (by kernel_rfl)) h1 (fun x hx => hw.same (hlt x (List.mem_append_right _ hx))) (fun x hx => hsp x (by simp [hx]))))
    (fun _ _ => rfl) (by simp) hw (ok_one (by kernel_rfl) rfl (okWide_bool_mk Try.underlying4 true))⟩

theorem rulesJoin_holds : Rows.RulesJoinSaid :=
  OpenClaim.holds_of_wide 3 Try.f3 rfl rfl rfl rfl rfl rfl rfl ⟨rfl, rfl, rfl, rfl, rfl⟩ rfl rfl rfl rfl rfl (by kernel_rfl) Try.func3 (by kernel_rfl)
    (of_decide_eq_true (by kernel_rfl)) (by unfold Func.isWrapper; first | (rw [if_pos (by decide +kernel)]; kernel_rfl) | (rw [if_neg (by decide +kernel)]; exact ⟨rfl, rfl⟩))
    (fun os started H enc _ => join_lifted os started H enc)

end Go.Proofs.Ytbhgibpdhmlamaa
end
