/- Rows of cells: where each element of a slice has its cells, each of its kind. -/
import Derived.Test.YtcjcinipfdameacGreatDoorSymRun
import Derived.Test.YtcjcinipfdameacGreatDoorSt1
set_option linter.unusedVariables false
set_option linter.unusedSimpArgs false
namespace Go.Proofs.YtcjcinipfdameacGreatDoor.Am
open St

/-- A cell that a load hands on as it is. -/
def Kd.wk : Kd → PV → Bool
  | .int k, .int k' _ => decide (k = k')
  | .bool, .bool _ => true
  | .str, .str _ => true
  | .sl es, .sl _ es' _ none => Nat.beq es es'
  | _, _ => false

def wk : List Kd → List PV → Bool
  | [], [] => true
  | k :: ks, x :: xs => k.wk x && wk ks xs
  | _, _ => false

theorem Kd.wk_ok : ∀ {k : Kd} {x : PV}, k.wk x = true → k.ok x = true ∧ k.shapeW x = x ∧ x.oneCell = true := by
  intro k x h
  unfold Kd.wk at h
  split at h
  · exact ⟨by simpa [Kd.ok] using h, (by have := of_decide_eq_true h; subst this; rfl), rfl⟩
  · exact ⟨rfl, rfl, rfl⟩
  · exact ⟨rfl, rfl, rfl⟩
  · exact ⟨by simpa [Kd.ok] using h, (by have := Nat.eq_of_beq_eq_true h; subst this; rfl), rfl⟩
  · cases h

theorem wk_len : ∀ {K : List Kd} {r : List PV}, wk K r = true → r.length = K.length
  | [], [], _ => rfl
  | [], _ :: _, h => by cases h
  | _ :: _, [], h => by cases h
  | k :: K, x :: r, h => by
    simp only [wk, Bool.and_eq_true] at h
    simp [wk_len h.2]

theorem wk_one : ∀ {K : List Kd} {r : List PV}, wk K r = true → r.all PV.oneCell = true
  | [], [], _ => rfl
  | [], _ :: _, h => by cases h
  | _ :: _, [], h => by cases h
  | k :: K, x :: r, h => by
    simp only [wk, Bool.and_eq_true] at h
    simp only [List.all_cons, Bool.and_eq_true]
    exact ⟨(Kd.wk_ok h.1).2.2, wk_one h.2⟩

theorem wk_at : ∀ {K : List Kd} {r : List PV} (p q : List PV), wk K r = true → okAt K (p ++ (r ++ q)) p.length = true ∧ shapeAt K (p ++ (r ++ q)) p.length = r
  | [], [], p, q, _ => ⟨rfl, rfl⟩
  | [], _ :: _, p, q, h => by cases h
  | _ :: _, [], p, q, h => by cases h
  | k :: K, x :: r, p, q, h => by
    simp only [wk, Bool.and_eq_true] at h
    obtain ⟨h1, h2, _⟩ := Kd.wk_ok h.1
    have ih := wk_at (p ++ [x]) q h.2
    simp only [List.length_append, List.length_singleton, List.append_assoc, List.singleton_append] at ih
    simp only [okAt, shapeAt, List.cons_append]
    rw [ih.1, ih.2]
    simp [h1, h2]

/-- All rows of a slice: of these kinds, and of no object. -/
def rowsOk (K : List Kd) (R : List (List PV)) : Bool := R.all fun r => wk K r && oldL 0 r

theorem rowsOk_get {K : List Kd} {R : List (List PV)} (h : rowsOk K R = true) {r : List PV} (hr : r ∈ R) : wk K r = true ∧ oldL 0 r = true := by
  have := List.all_eq_true.1 h r hr
  simpa using this

theorem rows_len {K : List Kd} : ∀ {R : List (List PV)}, rowsOk K R = true → R.flatten.length = R.length * K.length
  | [], _ => by simp
  | r :: R, h => by
    have h1 := rowsOk_get h List.mem_cons_self
    have h2 : rowsOk K R = true := by
      unfold rowsOk at h ⊢
      rw [List.all_cons, Bool.and_eq_true] at h
      exact h.2
    rw [List.flatten_cons, List.length_append, rows_len h2, wk_len h1.1, List.length_cons, Nat.add_mul, Nat.one_mul, Nat.add_comm]

theorem oldL_append {n : Nat} : ∀ (xs ys : List PV), oldL n (xs ++ ys) = (oldL n xs && oldL n ys)
  | [], ys => by simp [oldL]
  | x :: xs, ys => by simp [oldL, oldL_append xs ys, Bool.and_assoc]

theorem rows_old {K : List Kd} : ∀ {R : List (List PV)}, rowsOk K R = true → oldL 0 R.flatten = true
  | [], _ => rfl
  | r :: R, h => by
    have h1 := rowsOk_get h List.mem_cons_self
    have h2 : rowsOk K R = true := by
      unfold rowsOk at h ⊢
      rw [List.all_cons, Bool.and_eq_true] at h
      exact h.2
    rw [List.flatten_cons, oldL_append, h1.2, rows_old h2]
    rfl

theorem rowsOk_take {K : List Kd} {R : List (List PV)} (h : rowsOk K R = true) (j : Nat) : rowsOk K (R.take j) = true := by
  unfold rowsOk at h ⊢
  rw [List.all_eq_true] at h ⊢
  exact fun r hr => h r (List.mem_of_mem_take hr)

theorem rows_split {K : List Kd} {R : List (List PV)} (h : rowsOk K R = true) {j : Nat} (hj : j < R.length) :
    R.flatten = (R.take j).flatten ++ (R[j] ++ (R.drop (j + 1)).flatten) ∧ (R.take j).flatten.length = j * K.length := by
  constructor
  · have : R = R.take j ++ R[j] :: R.drop (j + 1) := by
      rw [← List.drop_eq_getElem_cons hj, List.take_append_drop]
    have e := congrArg List.flatten this
    rw [List.flatten_append, List.flatten_cons] at e
    exact e
  · rw [rows_len (rowsOk_take h j), List.length_take, Nat.min_eq_left (by omega)]

theorem rows_at {K : List Kd} {R : List (List PV)} (h : rowsOk K R = true) {j : Nat} (hj : j < R.length) : okAt K R.flatten (0 + j * K.length) = true ∧ shapeAt K R.flatten (0 + j * K.length) = R[j] := by
  obtain ⟨h1, h2⟩ := rows_split h hj
  rw [h1, Nat.zero_add, ← h2]
  exact wk_at _ _ (rowsOk_get h (List.getElem_mem hj)).1

theorem rows_splice {K : List Kd} {R : List (List PV)} (h : rowsOk K R = true) {j : Nat} (hj : j < R.length) {r : List PV} (hr : r.length = K.length) : splice R.flatten (0 + j * K.length) r = (R.set j r).flatten := by
  obtain ⟨h1, h2⟩ := rows_split h hj
  have hl := wk_len (rowsOk_get h (List.getElem_mem hj)).1
  have e : R.set j r = R.take j ++ r :: R.drop (j + 1) := by
    rw [List.set_eq_take_append_cons_drop, if_pos hj]
  rw [e, h1, Nat.zero_add, ← h2, List.flatten_append, List.flatten_cons]
  generalize (R.take j).flatten = A
  generalize (R.drop (j + 1)).flatten = C
  rw [← hl] at hr
  generalize R[j] = B at hr
  unfold splice
  rw [List.take_left, ← List.append_assoc A B C, show A.length + r.length = (A ++ B).length from by rw [List.length_append, hr], List.drop_left]

theorem rowsOk_set {K : List Kd} {R : List (List PV)} (h : rowsOk K R = true) (j : Nat) {r : List PV} (h1 : wk K r = true) (h2 : oldL 0 r = true) : rowsOk K (R.set j r) = true := by
  unfold rowsOk at h ⊢
  rw [List.all_eq_true] at h ⊢
  intro x hx
  rcases List.mem_or_eq_of_mem_set hx with hx | rfl
  · exact h x hx
  · simp [h1, h2]

/-- The elements' cells. -/
def chunks (es : Nat) : Nat → List PV → List (List PV)
  | 0, _ => []
  | n + 1, c => c.take es :: chunks es n (c.drop es)

theorem chunks_len (es : Nat) : ∀ (n : Nat) (c : List PV), (chunks es n c).length = n
  | 0, c => rfl
  | n + 1, c => by simp [chunks, chunks_len es n]

theorem chunks_flat (es : Nat) : ∀ (n : Nat) (c : List PV), c.length = n * es → (chunks es n c).flatten = c
  | 0, c, h => by
    rw [Nat.zero_mul] at h
    rw [List.eq_nil_of_length_eq_zero h]
    rfl
  | n + 1, c, h => by
    simp only [chunks, List.flatten_cons]
    rw [chunks_flat es n (c.drop es) (by rw [List.length_drop, h, Nat.add_mul]; omega), List.take_append_drop]

/-- Two elements change places. -/
def swp {α : Type} [Inhabited α] (R : List α) (i j : Nat) : List α := (R.set i (R.getD j default)).set j (R.getD i default)

theorem swp_len {α : Type} [Inhabited α] (R : List α) (i j : Nat) : (swp R i j).length = R.length := by simp [swp]

theorem getD_at {α : Type} {R : List α} {d : α} {j : Nat} (h : j < R.length) : R.getD j d = R[j] := by simp [List.getD_eq_getElem?_getD, h]

theorem swp_ok {K : List Kd} {R : List (List PV)} (h : rowsOk K R = true) {i j : Nat} (hi : i < R.length) (hj : j < R.length) : rowsOk K (swp R i j) = true := by
  unfold swp
  rw [getD_at hi, getD_at hj]
  have h1 := rowsOk_get h (List.getElem_mem hi)
  have h2 := rowsOk_get h (List.getElem_mem hj)
  exact rowsOk_set (rowsOk_set h i h2.1 h2.2) j h1.1 h1.2

/-- What a round that swaps two elements asks, and leaves. -/
theorem swap_cells {K : List Kd} {R : List (List PV)} (h : rowsOk K R = true) {i j : Nat} (hi : i < R.length) (hj : j < R.length) :
    splice (splice R.flatten (0 + i * K.length) (shapeAt K R.flatten (0 + j * K.length))) (0 + j * K.length) (shapeAt K R.flatten (0 + i * K.length)) = (swp R i j).flatten := by
  have h1 := rowsOk_get h (List.getElem_mem hi)
  have h2 := rowsOk_get h (List.getElem_mem hj)
  rw [(rows_at h hi).2, (rows_at h hj).2, rows_splice h hi (wk_len h2.1), rows_splice (rowsOk_set h i h2.1 h2.2) (by simpa using hj) (wk_len h1.1)]
  unfold swp
  rw [getD_at hi, getD_at hj]

end Go.Proofs.YtcjcinipfdameacGreatDoor.Am
