import Derived.Test.YtfpjlkkeelgffaaDoorAm
import Derived.Test.YtfpjlkkeelgffaaDoorSymRun

/- Stable sorting, in plain Lean: insertion from the end, merging, and what the two have to do with each other. -/
section
set_option linter.unusedVariables false
set_option linter.unusedSimpArgs false
namespace Go.Proofs.YtfpjlkkeelgffaaDoor.St

variable {α : Type}

/-- An order that may hold unlike things alike: 'lt a b': a comes ahead of b. -/
structure Ord (lt : α → α → Bool) : Prop where
  asymm : ∀ a b, lt a b = true → lt b a = false
  trans : ∀ a b c, lt b a = false → lt c b = false → lt c a = false

theorem Ord.irrefl {lt : α → α → Bool} (h : Ord lt) (a : α) : lt a a = false := by
  cases e : lt a a with
  | false => rfl
  | true => have k := h.asymm a a e; rw [k] at e; cases e

/-- x ≤ y < z -/
theorem Ord.lt_of_le_lt {lt : α → α → Bool} (h : Ord lt) {a b c : α} (h1 : lt b a = false) (h2 : lt b c = true) : lt a c = true := by
  cases e : lt a c with
  | true => rfl
  | false =>
    -- c ≤ a ≤ b, but b < c
    have := h.trans c a b e h1
    rw [this] at h2
    cases h2

theorem Ord.lt_of_lt_le {lt : α → α → Bool} (h : Ord lt) {a b c : α} (h1 : lt a b = true) (h2 : lt c b = false) : lt a c = true := by
  cases e : lt a c with
  | true => rfl
  | false =>
    have := h.trans b c a h2 e
    rw [this] at h1
    cases h1

def Sorted (lt : α → α → Bool) (l : List α) : Prop := l.Pairwise fun a b => lt b a = false

/-- The one behind those that don't come behind it: from the end. -/
def ins (lt : α → α → Bool) (x : α) : List α → List α
  | [] => [x]
  | y :: l => if (ins lt x l).head? = none ∨ (l.all (lt x)) = true ∧ lt x y = true then x :: y :: l else y :: ins lt x l

theorem ins_ne (lt : α → α → Bool) (x : α) (l : List α) : (ins lt x l).head? ≠ none := by
  cases l with
  | nil => simp [ins]
  | cons y l => unfold ins; split <;> simp

theorem ins_cons (lt : α → α → Bool) (x y : α) (l : List α) : ins lt x (y :: l) = if l.all (lt x) = true ∧ lt x y = true then x :: y :: l else y :: ins lt x l := by
  rw [ins]
  have := ins_ne lt x l
  simp only [this, false_or]

/-- In a row in order it is enough to ask the first. -/
theorem ins_sorted_cons {lt : α → α → Bool} (h : Ord lt) (x y : α) (l : List α) (hs : Sorted lt (y :: l)) : ins lt x (y :: l) = if lt x y = true then x :: y :: l else y :: ins lt x l := by
  rw [ins_cons]
  by_cases e : lt x y = true
  · have : l.all (lt x) = true := by
      rw [List.all_eq_true]
      intro z hz
      exact h.lt_of_lt_le e ((List.pairwise_cons.1 hs).1 z hz)
    simp [e, this]
  · simp [e]

theorem mem_ins (lt : α → α → Bool) (x z : α) : ∀ l, z ∈ ins lt x l ↔ z = x ∨ z ∈ l
  | [] => by simp [ins]
  | y :: l => by
    rw [ins_cons]
    split
    · simp
    · simp only [List.mem_cons, mem_ins lt x z l]
      constructor
      · rintro (h | h | h) <;> simp [h]
      · rintro (h | h | h) <;> simp [h]

theorem ins_len (lt : α → α → Bool) (x : α) : ∀ l, (ins lt x l).length = l.length + 1
  | [] => rfl
  | y :: l => by
    rw [ins_cons]
    split
    · simp
    · simp [ins_len lt x l]

theorem ins_sorted {lt : α → α → Bool} (h : Ord lt) (x : α) : ∀ l, Sorted lt l → Sorted lt (ins lt x l)
  | [], _ => by simp [ins, Sorted]
  | y :: l, hs => by
    rw [ins_sorted_cons h x y l hs]
    obtain ⟨h1, h2⟩ := List.pairwise_cons.1 hs
    split
    · rename_i e
      refine List.pairwise_cons.2 ⟨fun z hz => ?_, hs⟩
      rw [List.mem_cons] at hz
      rcases hz with rfl | hz
      · exact h.asymm _ _ e
      · exact h.asymm _ _ (h.lt_of_lt_le e (h1 z hz))
    · rename_i e
      refine List.pairwise_cons.2 ⟨fun z hz => ?_, ins_sorted h x l h2⟩
      rw [mem_ins] at hz
      rcases hz with rfl | hz
      · simpa using e
      · exact h1 z hz

/-- All, one behind the other. -/
def insAll (lt : α → α → Bool) (l : List α) : List α := l.foldl (fun acc x => ins lt x acc) []

theorem insAll_snoc (lt : α → α → Bool) (l : List α) (x : α) : insAll lt (l ++ [x]) = ins lt x (insAll lt l) := by simp [insAll]

theorem foldl_ins_sorted {lt : α → α → Bool} (h : Ord lt) : ∀ (l acc : List α), Sorted lt acc → Sorted lt (l.foldl (fun acc x => ins lt x acc) acc)
  | [], acc, hs => hs
  | x :: l, acc, hs => foldl_ins_sorted h l _ (ins_sorted h x acc hs)

theorem insAll_sorted {lt : α → α → Bool} (h : Ord lt) (l : List α) : Sorted lt (insAll lt l) := foldl_ins_sorted h l [] List.Pairwise.nil

theorem foldl_ins_len (lt : α → α → Bool) : ∀ (l acc : List α), (l.foldl (fun acc x => ins lt x acc) acc).length = acc.length + l.length
  | [], acc => rfl
  | x :: l, acc => by simp only [List.foldl_cons, foldl_ins_len lt l, ins_len, List.length_cons]; omega

theorem insAll_len (lt : α → α → Bool) (l : List α) : (insAll lt l).length = l.length := by simp [insAll, foldl_ins_len]

/-- Two rows, those of the first ahead of their likes. -/
def mrg (lt : α → α → Bool) : List α → List α → List α
  | [], r => r
  | x :: l, [] => x :: l
  | x :: l, y :: r => if lt y x = true then y :: mrg lt (x :: l) r else x :: mrg lt l (y :: r)
termination_by l r => l.length + r.length

theorem mrg_nil_right (lt : α → α → Bool) : ∀ l, mrg lt l [] = l
  | [] => by rw [mrg]
  | x :: l => by rw [mrg]

theorem mrg_nil_left (lt : α → α → Bool) (r : List α) : mrg lt [] r = r := by rw [mrg]

theorem mem_mrg (lt : α → α → Bool) (z : α) : ∀ l r, z ∈ mrg lt l r ↔ z ∈ l ∨ z ∈ r
  | [], r => by rw [mrg]; simp
  | x :: l, [] => by rw [mrg]; simp
  | x :: l, y :: r => by
    rw [mrg]
    split
    · simp only [List.mem_cons, mem_mrg lt z (x :: l) r]
      constructor
      · rintro (h | (h | h) | h) <;> simp [h]
      · rintro ((h | h) | h | h) <;> simp [h]
    · simp only [List.mem_cons, mem_mrg lt z l (y :: r)]
      constructor
      · rintro (h | h | h | h) <;> simp [h]
      · rintro ((h | h) | h | h) <;> simp [h]
termination_by l r => l.length + r.length

theorem mrg_len (lt : α → α → Bool) : ∀ l r, (mrg lt l r).length = l.length + r.length
  | [], r => by rw [mrg]; simp
  | x :: l, [] => by rw [mrg]; simp
  | x :: l, y :: r => by
    rw [mrg]
    split
    · simp only [List.length_cons, mrg_len lt (x :: l) r]; omega
    · simp only [List.length_cons, mrg_len lt l (y :: r)]; omega
termination_by l r => l.length + r.length

theorem mrg_sorted {lt : α → α → Bool} (h : Ord lt) : ∀ l r, Sorted lt l → Sorted lt r → Sorted lt (mrg lt l r)
  | [], r, _, hr => by rw [mrg]; exact hr
  | x :: l, [], hl, _ => by rw [mrg]; exact hl
  | x :: l, y :: r, hl, hr => by
    obtain ⟨l1, l2⟩ := List.pairwise_cons.1 hl
    obtain ⟨r1, r2⟩ := List.pairwise_cons.1 hr
    rw [mrg]
    split
    · rename_i e
      refine List.pairwise_cons.2 ⟨fun z hz => ?_, mrg_sorted h (x :: l) r hl r2⟩
      rw [mem_mrg, List.mem_cons] at hz
      rcases hz with (rfl | hz) | hz
      · exact h.asymm _ _ e
      · exact h.asymm _ _ (h.lt_of_lt_le e (l1 z hz))
      · exact r1 z hz
    · rename_i e
      have e : lt y x = false := by simpa using e
      refine List.pairwise_cons.2 ⟨fun z hz => ?_, mrg_sorted h l (y :: r) l2 hr⟩
      rw [mem_mrg, List.mem_cons] at hz
      rcases hz with hz | rfl | hz
      · exact l1 z hz
      · exact e
      · exact h.trans x y z e (r1 z hz)
termination_by l r => l.length + r.length

/-- Merged in two parts: what is ahead in both, and what is behind in both. -/
theorem mrg_append {lt : α → α → Bool} (h : Ord lt) (l2 r2 : List α) : ∀ l1 r1 : List α, (∀ x ∈ l1, ∀ y ∈ r2, lt y x = false) → (∀ y ∈ r1, ∀ x ∈ l2, lt y x = true) → mrg lt (l1 ++ l2) (r1 ++ r2) = mrg lt l1 r1 ++ mrg lt l2 r2
  | [], [], _, _ => by rw [mrg]; rfl
  | [], y :: r1, h1, h2 => by
    have ih := mrg_append h l2 r2 [] r1 h1 (fun y hy => h2 y (List.mem_cons_of_mem _ hy))
    rw [mrg_nil_left] at ih ⊢
    simp only [List.nil_append] at ih ⊢
    cases l2 with
    | nil => rw [mrg_nil_left, mrg_nil_left]
    | cons x l2 =>
      simp only [List.cons_append]
      rw [mrg, if_pos (h2 y List.mem_cons_self x List.mem_cons_self), ih]
  | x :: l1, [], h1, h2 => by
    have ih := mrg_append h l2 r2 l1 [] (fun x hx => h1 x (List.mem_cons_of_mem _ hx)) h2
    rw [mrg_nil_right] at ih ⊢
    simp only [List.nil_append, List.cons_append] at ih ⊢
    cases r2 with
    | nil => rw [mrg_nil_right] at ih ⊢; rw [mrg_nil_right]
    | cons y r2 =>
      have := h1 x List.mem_cons_self y List.mem_cons_self
      rw [mrg, if_neg (by simp [this]), ih]
  | x :: l1, y :: r1, h1, h2 => by
    simp only [List.cons_append]
    rw [mrg, mrg]
    split
    · rw [← List.cons_append, mrg_append h l2 r2 (x :: l1) r1 h1 (fun y hy => h2 y (List.mem_cons_of_mem _ hy))]
      rfl
    · rw [← List.cons_append, mrg_append h l2 r2 l1 (y :: r1) (fun x hx => h1 x (List.mem_cons_of_mem _ hx)) h2]
      rfl
termination_by l1 r1 => l1.length + r1.length

/-- One more at the end of the second row. -/
theorem mrg_ins {lt : α → α → Bool} (h : Ord lt) (z : α) : ∀ l r : List α, Sorted lt l → Sorted lt r → mrg lt l (ins lt z r) = ins lt z (mrg lt l r)
  | [], r, _, _ => by rw [mrg, mrg]
  | x :: l, [], hl, hr => by
    rw [mrg_nil_right, ins_sorted_cons h z x l hl]
    simp only [ins]
    rw [mrg]
    split
    · rw [mrg_nil_right]
    · have := mrg_ins h z l [] (List.pairwise_cons.1 hl).2 hr
      rw [mrg_nil_right] at this
      simp only [ins] at this
      rw [this]
  | x :: l, y :: r, hl, hr => by
    obtain ⟨l1, l2⟩ := List.pairwise_cons.1 hl
    obtain ⟨r1, r2⟩ := List.pairwise_cons.1 hr
    have hm := mrg_sorted h (x :: l) (y :: r) hl hr
    rw [ins_sorted_cons h z y r hr]
    by_cases e : lt y x = true
    · have ih := mrg_ins h z (x :: l) r hl r2
      rw [show mrg lt (x :: l) (y :: r) = y :: mrg lt (x :: l) r from by rw [mrg, if_pos e]] at hm ⊢
      rw [ins_sorted_cons h z y _ hm]
      by_cases f : lt z y = true
      · rw [if_pos f, if_pos f]
        have k : lt z x = true := h.lt_of_lt_le f (h.asymm _ _ e)
        rw [mrg, if_pos k, mrg, if_pos e]
      · rw [if_neg f, if_neg f, mrg, if_pos e, ih]
    · have ih := mrg_ins h z l (y :: r) l2 hr
      rw [ins_sorted_cons h z y r hr] at ih
      rw [show mrg lt (x :: l) (y :: r) = x :: mrg lt l (y :: r) from by rw [mrg, if_neg e]] at hm ⊢
      rw [ins_sorted_cons h z x _ hm]
      have e' : lt y x = false := by simpa using e
      by_cases k : lt z x = true
      · have f : lt z y = true := h.lt_of_lt_le k e'
        rw [if_pos f, if_pos k, mrg, if_pos k, mrg, if_neg e]
      · rw [if_neg k]
        by_cases f : lt z y = true
        · rw [if_pos f] at ih ⊢
          rw [mrg, if_neg k, ih]
        · rw [if_neg f] at ih ⊢
          rw [mrg, if_neg e, ih]
termination_by l r => l.length + r.length

theorem insAll_append {lt : α → α → Bool} (h : Ord lt) (l : List α) : ∀ r : List α, insAll lt (l ++ r) = mrg lt (insAll lt l) (insAll lt r) := by
  intro r
  generalize hn : r.length = n
  induction n generalizing r with
  | zero =>
    have : r = [] := List.eq_nil_of_length_eq_zero hn
    subst this
    rw [List.append_nil, show insAll lt ([] : List α) = [] from rfl, mrg_nil_right]
  | succ n ih =>
    obtain ⟨d, z, rfl⟩ : ∃ d z, r = d ++ [z] := by
      have hne : r ≠ [] := fun e => by rw [e] at hn; cases hn
      exact ⟨_, _, (List.dropLast_concat_getLast hne).symm⟩
    rw [← List.append_assoc, insAll_snoc, insAll_snoc, ih d (by simpa using hn), mrg_ins h _ _ _ (insAll_sorted h l) (insAll_sorted h _)]

/-- A row in order stays as it is. -/
theorem insAll_of_sorted {lt : α → α → Bool} (h : Ord lt) (l : List α) (hs : Sorted lt l) : insAll lt l = l := by
  generalize hn : l.length = n
  induction n generalizing l with
  | zero => rw [List.eq_nil_of_length_eq_zero hn]; rfl
  | succ n ih =>
    obtain ⟨d, z, rfl⟩ : ∃ d z, l = d ++ [z] := by
      have hne : l ≠ [] := fun e => by rw [e] at hn; cases hn
      exact ⟨_, _, (List.dropLast_concat_getLast hne).symm⟩
    obtain ⟨s1, _, s3⟩ := List.pairwise_append.1 hs
    rw [insAll_snoc, ih _ s1 (by simpa using hn)]
    clear hs hn ih
    induction d with
    | nil => rfl
    | cons y d ih =>
      rw [ins_cons, if_neg (by rw [s3 y List.mem_cons_self z (by simp)]; simp), ih (List.pairwise_cons.1 s1).2 (fun a ha => s3 a (List.mem_cons_of_mem _ ha))]
      rfl

end Go.Proofs.YtfpjlkkeelgffaaDoor.St
end

/- Rows of cells: where each element of a slice has its cells, each of its kind. -/
section
set_option linter.unusedVariables false
set_option linter.unusedSimpArgs false
namespace Go.Proofs.YtfpjlkkeelgffaaDoor.Am
open St

/-- A cell that a load hands on as it is. -/
def Kd.wk : Kd → PV → Bool
  | .int k, .int k' _ => decide (k = k')
  | .bool, .bool _ => true
  | .str, .str _ => true
  | .sl es, .sl _ es' _ none => Nat.beq es es'
  | _, _ => false

def wk : List Kd → List PV → Bool
  | [], [] => true
  | k :: ks, x :: xs => k.wk x && wk ks xs
  | _, _ => false

theorem Kd.wk_ok : ∀ {k : Kd} {x : PV}, k.wk x = true → k.ok x = true ∧ k.shapeW x = x ∧ x.oneCell = true := by
  intro k x h
  unfold Kd.wk at h
  split at h
  · exact ⟨by simpa [Kd.ok] using h, (by have := of_decide_eq_true h; subst this; rfl), rfl⟩
  · exact ⟨rfl, rfl, rfl⟩
  · exact ⟨rfl, rfl, rfl⟩
  · exact ⟨by simpa [Kd.ok] using h, (by have := Nat.eq_of_beq_eq_true h; subst this; rfl), rfl⟩
  · cases h

theorem wk_len : ∀ {K : List Kd} {r : List PV}, wk K r = true → r.length = K.length
  | [], [], _ => rfl
  | [], _ :: _, h => by cases h
  | _ :: _, [], h => by cases h
  | k :: K, x :: r, h => by
    simp only [wk, Bool.and_eq_true] at h
    simp [wk_len h.2]

theorem wk_one : ∀ {K : List Kd} {r : List PV}, wk K r = true → r.all PV.oneCell = true
  | [], [], _ => rfl
  | [], _ :: _, h => by cases h
  | _ :: _, [], h => by cases h
  | k :: K, x :: r, h => by
    simp only [wk, Bool.and_eq_true] at h
    simp only [List.all_cons, Bool.and_eq_true]
    exact ⟨(Kd.wk_ok h.1).2.2, wk_one h.2⟩

theorem wk_at : ∀ {K : List Kd} {r : List PV} (p q : List PV), wk K r = true → okAt K (p ++ (r ++ q)) p.length = true ∧ shapeAt K (p ++ (r ++ q)) p.length = r
  | [], [], p, q, _ => ⟨rfl, rfl⟩
  | [], _ :: _, p, q, h => by cases h
  | _ :: _, [], p, q, h => by cases h
  | k :: K, x :: r, p, q, h => by
    simp only [wk, Bool.and_eq_true] at h
    obtain ⟨h1, h2, _⟩ := Kd.wk_ok h.1
    have ih := wk_at (p ++ [x]) q h.2
    simp only [List.length_append, List.length_singleton, List.append_assoc, List.singleton_append] at ih
    simp only [okAt, shapeAt, List.cons_append]
    rw [ih.1, ih.2]
    simp [h1, h2]

/-- All rows of a slice: of these kinds, and of no object. -/
def rowsOk (K : List Kd) (R : List (List PV)) : Bool := R.all fun r => wk K r && oldL 0 r

theorem rowsOk_get {K : List Kd} {R : List (List PV)} (h : rowsOk K R = true) {r : List PV} (hr : r ∈ R) : wk K r = true ∧ oldL 0 r = true := by
  have := List.all_eq_true.1 h r hr
  simpa using this

theorem rows_len {K : List Kd} : ∀ {R : List (List PV)}, rowsOk K R = true → R.flatten.length = R.length * K.length
  | [], _ => by simp
  | r :: R, h => by
    have h1 := rowsOk_get h List.mem_cons_self
    have h2 : rowsOk K R = true := by
      unfold rowsOk at h ⊢
      rw [List.all_cons, Bool.and_eq_true] at h
      exact h.2
    rw [List.flatten_cons, List.length_append, rows_len h2, wk_len h1.1, List.length_cons, Nat.add_mul, Nat.one_mul, Nat.add_comm]

theorem oldL_append {n : Nat} : ∀ (xs ys : List PV), oldL n (xs ++ ys) = (oldL n xs && oldL n ys)
  | [], ys => by simp [oldL]
  | x :: xs, ys => by simp [oldL, oldL_append xs ys, Bool.and_assoc]

theorem rows_old {K : List Kd} : ∀ {R : List (List PV)}, rowsOk K R = true → oldL 0 R.flatten = true
  | [], _ => rfl
  | r :: R, h => by
    have h1 := rowsOk_get h List.mem_cons_self
    have h2 : rowsOk K R = true := by
      unfold rowsOk at h ⊢
      rw [List.all_cons, Bool.and_eq_true] at h
      exact h.2
    rw [List.flatten_cons, oldL_append, h1.2, rows_old h2]
    rfl

theorem rowsOk_take {K : List Kd} {R : List (List PV)} (h : rowsOk K R = true) (j : Nat) : rowsOk K (R.take j) = true := by
  unfold rowsOk at h ⊢
  rw [List.all_eq_true] at h ⊢
  exact fun r hr => h r (List.mem_of_mem_take hr)

theorem rows_split {K : List Kd} {R : List (List PV)} (h : rowsOk K R = true) {j : Nat} (hj : j < R.length) :
    R.flatten = (R.take j).flatten ++ (R[j] ++ (R.drop (j + 1)).flatten) ∧ (R.take j).flatten.length = j * K.length := by
  constructor
  · have : R = R.take j ++ R[j] :: R.drop (j + 1) := by
      rw [← List.drop_eq_getElem_cons hj, List.take_append_drop]
    have e := congrArg List.flatten this
    rw [List.flatten_append, List.flatten_cons] at e
    exact e
  · rw [rows_len (rowsOk_take h j), List.length_take, Nat.min_eq_left (by omega)]

theorem rows_at {K : List Kd} {R : List (List PV)} (h : rowsOk K R = true) {j : Nat} (hj : j < R.length) : okAt K R.flatten (0 + j * K.length) = true ∧ shapeAt K R.flatten (0 + j * K.length) = R[j] := by
  obtain ⟨h1, h2⟩ := rows_split h hj
  rw [h1, Nat.zero_add, ← h2]
  exact wk_at _ _ (rowsOk_get h (List.getElem_mem hj)).1

theorem rows_splice {K : List Kd} {R : List (List PV)} (h : rowsOk K R = true) {j : Nat} (hj : j < R.length) {r : List PV} (hr : r.length = K.length) : splice R.flatten (0 + j * K.length) r = (R.set j r).flatten := by
  obtain ⟨h1, h2⟩ := rows_split h hj
  have hl := wk_len (rowsOk_get h (List.getElem_mem hj)).1
  have e : R.set j r = R.take j ++ r :: R.drop (j + 1) := by
    rw [List.set_eq_take_append_cons_drop, if_pos hj]
  rw [e, h1, Nat.zero_add, ← h2, List.flatten_append, List.flatten_cons]
  generalize (R.take j).flatten = A
  generalize (R.drop (j + 1)).flatten = C
  rw [← hl] at hr
  generalize R[j] = B at hr
  unfold splice
  rw [List.take_left, ← List.append_assoc A B C, show A.length + r.length = (A ++ B).length from by rw [List.length_append, hr], List.drop_left]

theorem rowsOk_set {K : List Kd} {R : List (List PV)} (h : rowsOk K R = true) (j : Nat) {r : List PV} (h1 : wk K r = true) (h2 : oldL 0 r = true) : rowsOk K (R.set j r) = true := by
  unfold rowsOk at h ⊢
  rw [List.all_eq_true] at h ⊢
  intro x hx
  rcases List.mem_or_eq_of_mem_set hx with hx | rfl
  · exact h x hx
  · simp [h1, h2]

/-- The elements' cells. -/
def chunks (es : Nat) : Nat → List PV → List (List PV)
  | 0, _ => []
  | n + 1, c => c.take es :: chunks es n (c.drop es)

theorem chunks_len (es : Nat) : ∀ (n : Nat) (c : List PV), (chunks es n c).length = n
  | 0, c => rfl
  | n + 1, c => by simp [chunks, chunks_len es n]

theorem chunks_flat (es : Nat) : ∀ (n : Nat) (c : List PV), c.length = n * es → (chunks es n c).flatten = c
  | 0, c, h => by
    rw [Nat.zero_mul] at h
    rw [List.eq_nil_of_length_eq_zero h]
    rfl
  | n + 1, c, h => by
    simp only [chunks, List.flatten_cons]
    rw [chunks_flat es n (c.drop es) (by rw [List.length_drop, h, Nat.add_mul]; omega), List.take_append_drop]

/-- Two elements change places. -/
def swp {α : Type} [Inhabited α] (R : List α) (i j : Nat) : List α := (R.set i (R.getD j default)).set j (R.getD i default)

theorem swp_len {α : Type} [Inhabited α] (R : List α) (i j : Nat) : (swp R i j).length = R.length := by simp [swp]

theorem getD_at {α : Type} {R : List α} {d : α} {j : Nat} (h : j < R.length) : R.getD j d = R[j] := by simp [List.getD_eq_getElem?_getD, h]

theorem swp_ok {K : List Kd} {R : List (List PV)} (h : rowsOk K R = true) {i j : Nat} (hi : i < R.length) (hj : j < R.length) : rowsOk K (swp R i j) = true := by
  unfold swp
  rw [getD_at hi, getD_at hj]
  have h1 := rowsOk_get h (List.getElem_mem hi)
  have h2 := rowsOk_get h (List.getElem_mem hj)
  exact rowsOk_set (rowsOk_set h i h2.1 h2.2) j h1.1 h1.2

/-- What a round that swaps two elements asks, and leaves. -/
theorem swap_cells {K : List Kd} {R : List (List PV)} (h : rowsOk K R = true) {i j : Nat} (hi : i < R.length) (hj : j < R.length) :
    splice (splice R.flatten (0 + i * K.length) (shapeAt K R.flatten (0 + j * K.length))) (0 + j * K.length) (shapeAt K R.flatten (0 + i * K.length)) = (swp R i j).flatten := by
  have h1 := rowsOk_get h (List.getElem_mem hi)
  have h2 := rowsOk_get h (List.getElem_mem hj)
  rw [(rows_at h hi).2, (rows_at h hj).2, rows_splice h hi (wk_len h2.1), rows_splice (rowsOk_set h i h2.1 h2.2) (by simpa using hj) (wk_len h1.1)]
  unfold swp
  rw [getD_at hi, getD_at hj]

end Go.Proofs.YtfpjlkkeelgffaaDoor.Am
end
