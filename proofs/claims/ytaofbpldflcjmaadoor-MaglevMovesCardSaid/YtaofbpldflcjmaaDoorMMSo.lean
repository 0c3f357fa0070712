/- Stable sorting, in plain Lean: insertion from the end, merging, and what the two have to do with each other. -/
import Derived.Test.YtaofbpldflcjmaaDoorMMAm
import Derived.Test.YtaofbpldflcjmaaDoorMMRs
import Derived.Test.YtaofbpldflcjmaaDoorMMDk
set_option linter.unusedVariables false
set_option linter.unusedSimpArgs false
set_option maxRecDepth 100000
set_option maxHeartbeats 8000000
namespace Go.Proofs.YtaofbpldflcjmaaDoor.St
variable {α : Type}
structure Ord (lt : α -> α -> Bool) : Prop where
  asymm : ∀ a b, lt a b = true -> lt b a = false
  trans : ∀ a b c, lt b a = false -> lt c b = false -> lt c a = false
theorem Ord.irrefl {lt : α -> α -> Bool} (h : Ord lt) (a : α) : lt a a = false := by
  cases e : lt a a with
  | false => rfl
  | true => have k := h.asymm a a e; rw [k] at e; cases e
theorem Ord.lt_of_le_lt {lt : α -> α -> Bool} (h : Ord lt) {a b c : α} (h1 : lt b a = false) (h2 : lt b c = true) : lt a c = true := by
  cases e : lt a c with
  | true => rfl
  | false =>
    have := h.trans c a b e h1
    rw [this] at h2
    cases h2
theorem Ord.lt_of_lt_le {lt : α -> α -> Bool} (h : Ord lt) {a b c : α} (h1 : lt a b = true) (h2 : lt c b = false) : lt a c = true := by
  cases e : lt a c with
  | true => rfl
  | false =>
    have := h.trans b c a h2 e
    rw [this] at h1
    cases h1
def Sorted (lt : α -> α -> Bool) (l : List α) : Prop := l.Pairwise fun a b => lt b a = false
def ins (lt : α -> α -> Bool) (x : α) : List α -> List α
  | [] => [x]
  | y :: l => if (ins lt x l).head? = none ∨ (l.all (lt x)) = true /\ lt x y = true then x :: y :: l else y :: ins lt x l
theorem ins_ne (lt : α -> α -> Bool) (x : α) (l : List α) : (ins lt x l).head? ≠ none := by
  cases l with
  | nil => simp [ins]
  | cons y l => unfold ins; split <;> simp
theorem ins_cons (lt : α -> α -> Bool) (x y : α) (l : List α) : ins lt x (y :: l) = if l.all (lt x) = true /\ lt x y = true then x :: y :: l else y :: ins lt x l := by
  rw [ins]
  have := ins_ne lt x l
  simp only [this, false_or]
theorem ins_sorted_cons {lt : α -> α -> Bool} (h : Ord lt) (x y : α) (l : List α) (hs : Sorted lt (y :: l)) : ins lt x (y :: l) = if lt x y = true then x :: y :: l else y :: ins lt x l := by
  rw [ins_cons]
  by_cases e : lt x y = true
  . have : l.all (lt x) = true := by
      rw [List.all_eq_true]
      intro z hz
      exact h.lt_of_lt_le e ((List.pairwise_cons.1 hs).1 z hz)
    simp [e, this]
  . simp [e]
theorem mem_ins (lt : α -> α -> Bool) (x z : α) : ∀ l, z ∈ ins lt x l ↔ z = x ∨ z ∈ l
  | [] => by simp [ins]
  | y :: l => by
    rw [ins_cons]
    split
    . simp
    . simp only [List.mem_cons, mem_ins lt x z l]
      constructor
      . rintro (h | h | h) <;> simp [h]
      . rintro (h | h | h) <;> simp [h]
theorem ins_len (lt : α -> α -> Bool) (x : α) : ∀ l, (ins lt x l).length = l.length + 1
  | [] => rfl
  | y :: l => by
    rw [ins_cons]
    split
    . simp
    . simp [ins_len lt x l]
theorem ins_sorted {lt : α -> α -> Bool} (h : Ord lt) (x : α) : ∀ l, Sorted lt l -> Sorted lt (ins lt x l)
  | [], _ => by simp [ins, Sorted]
  | y :: l, hs => by
    rw [ins_sorted_cons h x y l hs]
    obtain ⟨h1, h2⟩ := List.pairwise_cons.1 hs
    split
    . rename_i e
      refine List.pairwise_cons.2 ⟨fun z hz => ?_, hs⟩
      rw [List.mem_cons] at hz
      rcases hz with rfl | hz
      . exact h.asymm _ _ e
      . exact h.asymm _ _ (h.lt_of_lt_le e (h1 z hz))
    . rename_i e
      refine List.pairwise_cons.2 ⟨fun z hz => ?_, ins_sorted h x l h2⟩
      rw [mem_ins] at hz
      rcases hz with rfl | hz
      . simpa using e
      . exact h1 z hz
def insAll (lt : α -> α -> Bool) (l : List α) : List α := l.foldl (fun acc x => ins lt x acc) []
theorem insAll_snoc (lt : α -> α -> Bool) (l : List α) (x : α) : insAll lt (l ++ [x]) = ins lt x (insAll lt l) := by simp [insAll]
theorem foldl_ins_sorted {lt : α -> α -> Bool} (h : Ord lt) : ∀ (l acc : List α), Sorted lt acc -> Sorted lt (l.foldl (fun acc x => ins lt x acc) acc)
  | [], acc, hs => hs
  | x :: l, acc, hs => foldl_ins_sorted h l _ (ins_sorted h x acc hs)
theorem insAll_sorted {lt : α -> α -> Bool} (h : Ord lt) (l : List α) : Sorted lt (insAll lt l) := foldl_ins_sorted h l [] List.Pairwise.nil
theorem foldl_ins_len (lt : α -> α -> Bool) : ∀ (l acc : List α), (l.foldl (fun acc x => ins lt x acc) acc).length = acc.length + l.length
  | [], acc => rfl
  | x :: l, acc => by simp only [List.foldl_cons, foldl_ins_len lt l, ins_len, List.length_cons]; omega
theorem insAll_len (lt : α -> α -> Bool) (l : List α) : (insAll lt l).length = l.length := by simp [insAll, foldl_ins_len]
def mrg (lt : α -> α -> Bool) : List α -> List α -> List α
  | [], r => r
  | x :: l, [] => x :: l
  | x :: l, y :: r => if lt y x = true then y :: mrg lt (x :: l) r else x :: mrg lt l (y :: r)
termination_by l r => l.length + r.length
theorem mrg_nil_right (lt : α -> α -> Bool) : ∀ l, mrg lt l [] = l
  | [] => by rw [mrg]
  | x :: l => by rw [mrg]
theorem mrg_nil_left (lt : α -> α -> Bool) (r : List α) : mrg lt [] r = r := by rw [mrg]
theorem mem_mrg (lt : α -> α -> Bool) (z : α) : ∀ l r, z ∈ mrg lt l r ↔ z ∈ l ∨ z ∈ r
  | [], r => by rw [mrg]; simp
  | x :: l, [] => by rw [mrg]; simp
  | x :: l, y :: r => by
    rw [mrg]
    split
    . simp only [List.mem_cons, mem_mrg lt z (x :: l) r]
      constructor
      . rintro (h | (h | h) | h) <;> simp [h]
      . rintro ((h | h) | h | h) <;> simp [h]
    . simp only [List.mem_cons, mem_mrg lt z l (y :: r)]
      constructor
      . rintro (h | h | h | h) <;> simp [h]
      . rintro ((h | h) | h | h) <;> simp [h]
termination_by l r => l.length + r.length
theorem mrg_len (lt : α -> α -> Bool) : ∀ l r, (mrg lt l r).length = l.length + r.length
  | [], r => by rw [mrg]; simp
  | x :: l, [] => by rw [mrg]; simp
  | x :: l, y :: r => by
    rw [mrg]
    split
    . simp only [List.length_cons, mrg_len lt (x :: l) r]; omega
    . simp only [List.length_cons, mrg_len lt l (y :: r)]; omega
termination_by l r => l.length + r.length
theorem mrg_sorted {lt : α -> α -> Bool} (h : Ord lt) : ∀ l r, Sorted lt l -> Sorted lt r -> Sorted lt (mrg lt l r)
  | [], r, _, hr => by rw [mrg]; exact hr
  | x :: l, [], hl, _ => by rw [mrg]; exact hl
  | x :: l, y :: r, hl, hr => by
    obtain ⟨l1, l2⟩ := List.pairwise_cons.1 hl
    obtain ⟨r1, r2⟩ := List.pairwise_cons.1 hr
    rw [mrg]
    split
    . rename_i e
      refine List.pairwise_cons.2 ⟨fun z hz => ?_, mrg_sorted h (x :: l) r hl r2⟩
      rw [mem_mrg, List.mem_cons] at hz
      rcases hz with (rfl | hz) | hz
      . exact h.asymm _ _ e
      . exact h.asymm _ _ (h.lt_of_lt_le e (l1 z hz))
      . exact r1 z hz
    . rename_i e
      have e : lt y x = false := by simpa using e
      refine List.pairwise_cons.2 ⟨fun z hz => ?_, mrg_sorted h l (y :: r) l2 hr⟩
      rw [mem_mrg, List.mem_cons] at hz
      rcases hz with hz | rfl | hz
      . exact l1 z hz
      . exact e
      . exact h.trans x y z e (r1 z hz)
termination_by l r => l.length + r.length
theorem mrg_append {lt : α -> α -> Bool} (h : Ord lt) (l2 r2 : List α) : ∀ l1 r1 : List α, (∀ x ∈ l1, ∀ y ∈ r2, lt y x = false) -> (∀ y ∈ r1, ∀ x ∈ l2, lt y x = true) -> mrg lt (l1 ++ l2) (r1 ++ r2) = mrg lt l1 r1 ++ mrg lt l2 r2
  | [], [], _, _ => by rw [mrg]; rfl
  | [], y :: r1, h1, h2 => by
    have ih := mrg_append h l2 r2 [] r1 h1 (fun y hy => h2 y (List.mem_cons_of_mem _ hy))
    rw [mrg_nil_left] at ih ⊢
    simp only [List.nil_append] at ih ⊢
    cases l2 with
    | nil => rw [mrg_nil_left, mrg_nil_left]
    | cons x l2 =>
      simp only [List.cons_append]
      rw [mrg, if_pos (h2 y List.mem_cons_self x List.mem_cons_self), ih]
  | x :: l1, [], h1, h2 => by
    have ih := mrg_append h l2 r2 l1 [] (fun x hx => h1 x (List.mem_cons_of_mem _ hx)) h2
    rw [mrg_nil_right] at ih ⊢
    simp only [List.nil_append, List.cons_append] at ih ⊢
    cases r2 with
    | nil => rw [mrg_nil_right] at ih ⊢; rw [mrg_nil_right]
    | cons y r2 =>
      have := h1 x List.mem_cons_self y List.mem_cons_self
      rw [mrg, if_neg (by simp [this]), ih]
  | x :: l1, y :: r1, h1, h2 => by
    simp only [List.cons_append]
    rw [mrg, mrg]
    split
    . rw [<- List.cons_append, mrg_append h l2 r2 (x :: l1) r1 h1 (fun y hy => h2 y (List.mem_cons_of_mem _ hy))]
      rfl
    . rw [<- List.cons_append, mrg_append h l2 r2 l1 (y :: r1) (fun x hx => h1 x (List.mem_cons_of_mem _ hx)) h2]
      rfl
termination_by l1 r1 => l1.length + r1.length
theorem mrg_ins {lt : α -> α -> Bool} (h : Ord lt) (z : α) : ∀ l r : List α, Sorted lt l -> Sorted lt r -> mrg lt l (ins lt z r) = ins lt z (mrg lt l r)
  | [], r, _, _ => by rw [mrg, mrg]
  | x :: l, [], hl, hr => by
    rw [mrg_nil_right, ins_sorted_cons h z x l hl]
    simp only [ins]
    rw [mrg]
    split
    . rw [mrg_nil_right]
    . have := mrg_ins h z l [] (List.pairwise_cons.1 hl).2 hr
      rw [mrg_nil_right] at this
      simp only [ins] at this
      rw [this]
  | x :: l, y :: r, hl, hr => by
    obtain ⟨l1, l2⟩ := List.pairwise_cons.1 hl
    obtain ⟨r1, r2⟩ := List.pairwise_cons.1 hr
    have hm := mrg_sorted h (x :: l) (y :: r) hl hr
    rw [ins_sorted_cons h z y r hr]
    by_cases e : lt y x = true
    . have ih := mrg_ins h z (x :: l) r hl r2
      rw [show mrg lt (x :: l) (y :: r) = y :: mrg lt (x :: l) r from by rw [mrg, if_pos e]] at hm ⊢
      rw [ins_sorted_cons h z y _ hm]
      by_cases f : lt z y = true
      . rw [if_pos f, if_pos f]
        have k : lt z x = true := h.lt_of_lt_le f (h.asymm _ _ e)
        rw [mrg, if_pos k, mrg, if_pos e]
      . rw [if_neg f, if_neg f, mrg, if_pos e, ih]
    . have ih := mrg_ins h z l (y :: r) l2 hr
      rw [ins_sorted_cons h z y r hr] at ih
      rw [show mrg lt (x :: l) (y :: r) = x :: mrg lt l (y :: r) from by rw [mrg, if_neg e]] at hm ⊢
      rw [ins_sorted_cons h z x _ hm]
      have e' : lt y x = false := by simpa using e
      by_cases k : lt z x = true
      . have f : lt z y = true := h.lt_of_lt_le k e'
        rw [if_pos f, if_pos k, mrg, if_pos k, mrg, if_neg e]
      . rw [if_neg k]
        by_cases f : lt z y = true
        . rw [if_pos f] at ih ⊢
          rw [mrg, if_neg k, ih]
        . rw [if_neg f] at ih ⊢
          rw [mrg, if_neg e, ih]
termination_by l r => l.length + r.length
theorem insAll_append {lt : α -> α -> Bool} (h : Ord lt) (l : List α) : ∀ r : List α, insAll lt (l ++ r) = mrg lt (insAll lt l) (insAll lt r) := by
  intro r
  generalize hn : r.length = n
  induction n generalizing r with
  | zero =>
    have : r = [] := List.eq_nil_of_length_eq_zero hn
    subst this
    rw [List.append_nil, show insAll lt ([] : List α) = [] from rfl, mrg_nil_right]
  | succ n ih =>
    obtain ⟨d, z, rfl⟩ : ∃ d z, r = d ++ [z] := by
      have hne : r ≠ [] := fun e => by rw [e] at hn; cases hn
      exact ⟨_, _, (List.dropLast_concat_getLast hne).symm⟩
    rw [<- List.append_assoc, insAll_snoc, insAll_snoc, ih d (by simpa using hn), mrg_ins h _ _ _ (insAll_sorted h l) (insAll_sorted h _)]
theorem insAll_of_sorted {lt : α -> α -> Bool} (h : Ord lt) (l : List α) (hs : Sorted lt l) : insAll lt l = l := by
  generalize hn : l.length = n
  induction n generalizing l with
  | zero => rw [List.eq_nil_of_length_eq_zero hn]; rfl
  | succ n ih =>
    obtain ⟨d, z, rfl⟩ : ∃ d z, l = d ++ [z] := by
      have hne : l ≠ [] := fun e => by rw [e] at hn; cases hn
      exact ⟨_, _, (List.dropLast_concat_getLast hne).symm⟩
    obtain ⟨s1, _, s3⟩ := List.pairwise_append.1 hs
    rw [insAll_snoc, ih _ s1 (by simpa using hn)]
    clear hs hn ih
    induction d with
    | nil => rfl
    | cons y d ih =>
      rw [ins_cons, if_neg (by rw [s3 y List.mem_cons_self z (by simp)]; simp), ih (List.pairwise_cons.1 s1).2 (fun a ha => s3 a (List.mem_cons_of_mem _ ha))]
      rfl
end Go.Proofs.YtaofbpldflcjmaaDoor.St
namespace Go.Proofs.YtaofbpldflcjmaaDoor.Am
section
open St
def Kd.wk : Kd -> PV -> Bool
  | .int k, .int k' _ => decide (k = k')
  | .bool, .bool _ => true
  | .str, .str _ => true
  | .sl es, .sl _ es' _ none => Nat.beq es es'
  | _, _ => false
def wk : List Kd -> List PV -> Bool
  | [], [] => true
  | k :: ks, x :: xs => k.wk x && wk ks xs
  | _, _ => false
theorem Kd.wk_ok : ∀ {k : Kd} {x : PV}, k.wk x = true -> k.ok x = true /\ k.shapeW x = x /\ x.oneCell = true := by
  intro k x h
  unfold Kd.wk at h
  split at h
  . exact ⟨by simpa [Kd.ok] using h, (by have := of_decide_eq_true h; subst this; rfl), rfl⟩
  . exact ⟨rfl, rfl, rfl⟩
  . exact ⟨rfl, rfl, rfl⟩
  . exact ⟨by simpa [Kd.ok] using h, (by have := Nat.eq_of_beq_eq_true h; subst this; rfl), rfl⟩
  . cases h
theorem wk_len : ∀ {K : List Kd} {r : List PV}, wk K r = true -> r.length = K.length
  | [], [], _ => rfl
  | [], _ :: _, h => by cases h
  | _ :: _, [], h => by cases h
  | k :: K, x :: r, h => by
    simp only [wk, Bool.and_eq_true] at h
    simp [wk_len h.2]
theorem wk_one : ∀ {K : List Kd} {r : List PV}, wk K r = true -> r.all PV.oneCell = true
  | [], [], _ => rfl
  | [], _ :: _, h => by cases h
  | _ :: _, [], h => by cases h
  | k :: K, x :: r, h => by
    simp only [wk, Bool.and_eq_true] at h
    simp only [List.all_cons, Bool.and_eq_true]
    exact ⟨(Kd.wk_ok h.1).2.2, wk_one h.2⟩
theorem wk_at : ∀ {K : List Kd} {r : List PV} (p q : List PV), wk K r = true -> okAt K (p ++ (r ++ q)) p.length = true /\ shapeAt K (p ++ (r ++ q)) p.length = r
  | [], [], p, q, _ => ⟨rfl, rfl⟩
  | [], _ :: _, p, q, h => by cases h
  | _ :: _, [], p, q, h => by cases h
  | k :: K, x :: r, p, q, h => by
    simp only [wk, Bool.and_eq_true] at h
    obtain ⟨h1, h2, _⟩ := Kd.wk_ok h.1
    have ih := wk_at (p ++ [x]) q h.2
    simp only [List.length_append, List.length_singleton, List.append_assoc, List.singleton_append] at ih
    simp only [okAt, shapeAt, List.cons_append]
    rw [ih.1, ih.2]
    simp [h1, h2]
def rowsOk (K : List Kd) (R : List (List PV)) : Bool := R.all fun r => wk K r && oldL 0 r
theorem rowsOk_get {K : List Kd} {R : List (List PV)} (h : rowsOk K R = true) {r : List PV} (hr : r ∈ R) : wk K r = true /\ oldL 0 r = true := by
  have := List.all_eq_true.1 h r hr
  simpa using this
theorem rows_len {K : List Kd} : ∀ {R : List (List PV)}, rowsOk K R = true -> R.flatten.length = R.length * K.length
  | [], _ => by simp
  | r :: R, h => by
    have h1 := rowsOk_get h List.mem_cons_self
    have h2 : rowsOk K R = true := by
      unfold rowsOk at h ⊢
      rw [List.all_cons, Bool.and_eq_true] at h
      exact h.2
    rw [List.flatten_cons, List.length_append, rows_len h2, wk_len h1.1, List.length_cons, Nat.add_mul, Nat.one_mul, Nat.add_comm]
theorem oldL_append {n : Nat} : ∀ (xs ys : List PV), oldL n (xs ++ ys) = (oldL n xs && oldL n ys)
  | [], ys => by simp [oldL]
  | x :: xs, ys => by simp [oldL, oldL_append xs ys, Bool.and_assoc]
theorem rows_old {K : List Kd} : ∀ {R : List (List PV)}, rowsOk K R = true -> oldL 0 R.flatten = true
  | [], _ => rfl
  | r :: R, h => by
    have h1 := rowsOk_get h List.mem_cons_self
    have h2 : rowsOk K R = true := by
      unfold rowsOk at h ⊢
      rw [List.all_cons, Bool.and_eq_true] at h
      exact h.2
    rw [List.flatten_cons, oldL_append, h1.2, rows_old h2]
    rfl
theorem rowsOk_take {K : List Kd} {R : List (List PV)} (h : rowsOk K R = true) (j : Nat) : rowsOk K (R.take j) = true := by
  unfold rowsOk at h ⊢
  rw [List.all_eq_true] at h ⊢
  exact fun r hr => h r (List.mem_of_mem_take hr)
theorem rows_split {K : List Kd} {R : List (List PV)} (h : rowsOk K R = true) {j : Nat} (hj : j < R.length) :
    R.flatten = (R.take j).flatten ++ (R[j] ++ (R.drop (j + 1)).flatten) /\ (R.take j).flatten.length = j * K.length := by
  constructor
  . have : R = R.take j ++ R[j] :: R.drop (j + 1) := by
      rw [<- List.drop_eq_getElem_cons hj, List.take_append_drop]
    have e := congrArg List.flatten this
    rw [List.flatten_append, List.flatten_cons] at e
    exact e
  . rw [rows_len (rowsOk_take h j), List.length_take, Nat.min_eq_left (by omega)]
theorem rows_at {K : List Kd} {R : List (List PV)} (h : rowsOk K R = true) {j : Nat} (hj : j < R.length) : okAt K R.flatten (0 + j * K.length) = true /\ shapeAt K R.flatten (0 + j * K.length) = R[j] := by
  obtain ⟨h1, h2⟩ := rows_split h hj
  rw [h1, Nat.zero_add, <- h2]
  exact wk_at _ _ (rowsOk_get h (List.getElem_mem hj)).1
theorem rows_splice {K : List Kd} {R : List (List PV)} (h : rowsOk K R = true) {j : Nat} (hj : j < R.length) {r : List PV} (hr : r.length = K.length) : splice R.flatten (0 + j * K.length) r = (R.set j r).flatten := by
  obtain ⟨h1, h2⟩ := rows_split h hj
  have hl := wk_len (rowsOk_get h (List.getElem_mem hj)).1
  have e : R.set j r = R.take j ++ r :: R.drop (j + 1) := by
    rw [List.set_eq_take_append_cons_drop, if_pos hj]
  rw [e, h1, Nat.zero_add, <- h2, List.flatten_append, List.flatten_cons]
  generalize (R.take j).flatten = A
  generalize (R.drop (j + 1)).flatten = C
  rw [<- hl] at hr
  generalize R[j] = B at hr
  unfold splice
  rw [List.take_left, <- List.append_assoc A B C, show A.length + r.length = (A ++ B).length from by rw [List.length_append, hr], List.drop_left]
theorem rowsOk_set {K : List Kd} {R : List (List PV)} (h : rowsOk K R = true) (j : Nat) {r : List PV} (h1 : wk K r = true) (h2 : oldL 0 r = true) : rowsOk K (R.set j r) = true := by
  unfold rowsOk at h ⊢
  rw [List.all_eq_true] at h ⊢
  intro x hx
  rcases List.mem_or_eq_of_mem_set hx with hx | rfl
  . exact h x hx
  . simp [h1, h2]
def chunks (es : Nat) : Nat -> List PV -> List (List PV)
  | 0, _ => []
  | n + 1, c => c.take es :: chunks es n (c.drop es)
theorem chunks_len (es : Nat) : ∀ (n : Nat) (c : List PV), (chunks es n c).length = n
  | 0, c => rfl
  | n + 1, c => by simp [chunks, chunks_len es n]
theorem chunks_flat (es : Nat) : ∀ (n : Nat) (c : List PV), c.length = n * es -> (chunks es n c).flatten = c
  | 0, c, h => by
    rw [Nat.zero_mul] at h
    rw [List.eq_nil_of_length_eq_zero h]
    rfl
  | n + 1, c, h => by
    simp only [chunks, List.flatten_cons]
    rw [chunks_flat es n (c.drop es) (by rw [List.length_drop, h, Nat.add_mul]; omega), List.take_append_drop]
def swp {α : Type} [Inhabited α] (R : List α) (i j : Nat) : List α := (R.set i (R.getD j default)).set j (R.getD i default)
theorem swp_len {α : Type} [Inhabited α] (R : List α) (i j : Nat) : (swp R i j).length = R.length := by simp [swp]
theorem getD_at {α : Type} {R : List α} {d : α} {j : Nat} (h : j < R.length) : R.getD j d = R[j] := by simp [List.getD_eq_getElem?_getD, h]
theorem swp_ok {K : List Kd} {R : List (List PV)} (h : rowsOk K R = true) {i j : Nat} (hi : i < R.length) (hj : j < R.length) : rowsOk K (swp R i j) = true := by
  unfold swp
  rw [getD_at hi, getD_at hj]
  have h1 := rowsOk_get h (List.getElem_mem hi)
  have h2 := rowsOk_get h (List.getElem_mem hj)
  exact rowsOk_set (rowsOk_set h i h2.1 h2.2) j h1.1 h1.2
theorem swap_cells {K : List Kd} {R : List (List PV)} (h : rowsOk K R = true) {i j : Nat} (hi : i < R.length) (hj : j < R.length) :
    splice (splice R.flatten (0 + i * K.length) (shapeAt K R.flatten (0 + j * K.length))) (0 + j * K.length) (shapeAt K R.flatten (0 + i * K.length)) = (swp R i j).flatten := by
  have h1 := rowsOk_get h (List.getElem_mem hi)
  have h2 := rowsOk_get h (List.getElem_mem hj)
  rw [(rows_at h hi).2, (rows_at h hj).2, rows_splice h hi (wk_len h2.1), rows_splice (rowsOk_set h i h2.1 h2.2) (by simpa using hj) (wk_len h1.1)]
  unfold swp
  rw [getD_at hi, getD_at hj]
end
section
open St
def obOf (es n : Nat) (cells : List PV) : Store := [.mem ⟨cells, es, n, false, false, false⟩]
theorem wrap_add {a b : Nat} (h : a + b < 9223372036854775808) : IntKind.i64.wrap ((a : Int) + (b : Int)) = ((a + b : Nat) : Int) := by
  rw [<- Int.natCast_add]
  exact wrap_nat h
theorem inside {i n : Nat} (h : i < n) : (decide (0 <= ((i : Nat) : Int)) && decide (((i : Nat) : Int) < (n : Int))) = true := by
  simp only [Bool.and_eq_true, decide_eq_true_eq]; omega
def swaps {α : Type} [Inhabited α] (a b : Nat) : Nat -> Nat -> List α -> List α
  | _, 0, R => R
  | i, c + 1, R => swaps a b (i + 1) c (swp R (a + i) (b + i))
theorem swaps_len {α : Type} [Inhabited α] (a b : Nat) : ∀ (c i : Nat) (R : List α), (swaps a b i c R).length = R.length
  | 0, i, R => rfl
  | c + 1, i, R => by rw [swaps, swaps_len a b c, swp_len]
def rowsC (K : List Kd) (n : Nat) (cells : List PV) : Bool := Nat.ble n 1000000 && (Nat.beq cells.length (n * K.length) && rowsOk K (chunks K.length n cells))
theorem rowsC_ok {K : List Kd} {n : Nat} {cells : List PV} (h : rowsC K n cells = true) : n <= 1000000 /\ rowsOk K (chunks K.length n cells) = true /\ (chunks K.length n cells).flatten = cells /\ (chunks K.length n cells).length = n := by
  unfold rowsC at h
  simp only [Bool.and_eq_true] at h
  exact ⟨Nat.le_of_ble_eq_true h.1, h.2.2, chunks_flat _ _ _ (Nat.eq_of_beq_eq_true h.2.1), chunks_len _ _ _⟩
def partAns (K : List Kd) (n : Nat) (cells : List PV) (f : List (List PV) -> List (List PV)) : PV := .tup [.tup [], encS (obOf K.length n (f (chunks K.length n cells)).flatten)]
def obIn (es : Nat) (d o : PV) : Option (Nat × Nat × Nat × List PV) :=
  match d, o with
  | .osl 0 n 0 e n1 none, .tup [.tup [.agg cells, .ptr e1 n2 0, .bool false, .bool false, .bool false]] => if Nat.beq e es && Nat.beq e1 es then some (n, n1, n2, cells) else none
  | _, _ => none
theorem obIn_ok {es : Nat} {d o : PV} {n n1 n2 : Nat} {cells : List PV} (h : obIn es d o = some (n, n1, n2, cells)) (h1 : (n1 == n) = true) (h2 : (n2 == n) = true) : d = .osl 0 n 0 es n none /\ o = encS (obOf es n cells) := by
  have h1 := of_decide_eq_true (p := n1 = n) (by simpa using h1)
  have h2 := of_decide_eq_true (p := n2 = n) (by simpa using h2)
  subst h1
  subst h2
  unfold obIn at h
  split at h
  . split at h
    . rename_i hb
      simp only [Bool.and_eq_true] at hb
      cases h
      rw [Nat.eq_of_beq_eq_true hb.1, Nat.eq_of_beq_eq_true hb.2]
      exact ⟨rfl, rfl⟩
    . cases h
  . cases h
theorem leaf_val {c : Bool} {v w : PV} (h : (Tr.leaf c v).val = some w) : c = true /\ v = w := by
  cases c with
  | false => cases h
  | true => cases h; exact ⟨rfl, rfl⟩
section
variable {α : Type} [Inhabited α]
theorem swp_blocks (A M C : List α) (x y : α) : swp (A ++ (x :: (M ++ (y :: C)))) A.length (A.length + 1 + M.length) = A ++ (y :: (M ++ (x :: C))) := by
  have h1 : (A ++ (x :: (M ++ (y :: C)))).getD A.length default = x := by
    rw [List.getD_eq_getElem?_getD, List.getElem?_append_right (Nat.le_refl _)]
    simp
  have h2 : (A ++ (x :: (M ++ (y :: C)))).getD (A.length + 1 + M.length) default = y := by
    rw [List.getD_eq_getElem?_getD, List.getElem?_append_right (by omega), show A.length + 1 + M.length - A.length = M.length + 1 from by omega, List.getElem?_cons_succ, List.getElem?_append_right (Nat.le_refl _)]
    simp
  unfold swp
  rw [h1, h2, List.set_append_right _ _ (Nat.le_refl _), Nat.sub_self, List.set_cons_zero, List.set_append_right _ _ (by omega), show A.length + 1 + M.length - A.length = M.length + 1 from by omega, List.set_cons_succ, List.set_append_right _ _ (Nat.le_refl _), Nat.sub_self, List.set_cons_zero]
theorem swaps_blocks (a b : Nat) : ∀ (c i : Nat) (A X B Y C : List α), X.length = c -> Y.length = c -> A.length = a + i -> A.length + X.length + B.length = b + i ->
    swaps a b i c (A ++ (X ++ (B ++ (Y ++ C)))) = A ++ (Y ++ (B ++ (X ++ C)))
  | 0, i, A, X, B, Y, C, hx, hy, ha, hb => by
    rw [List.eq_nil_of_length_eq_zero hx, List.eq_nil_of_length_eq_zero hy]
    rfl
  | c + 1, i, A, [], B, Y, C, hx, hy, ha, hb => by simp at hx
  | c + 1, i, A, x :: X, B, [], C, hx, hy, ha, hb => by simp at hy
  | c + 1, i, A, x :: X, B, y :: Y, C, hx, hy, ha, hb => by
    simp only [List.length_cons] at hx hy hb
    rw [swaps, <- ha]
    have e := swp_blocks A (X ++ B) (Y ++ C) x y
    rw [show A.length + 1 + (X ++ B).length = b + i from by rw [List.length_append]; omega, List.append_assoc] at e
    rw [show A ++ (x :: X ++ (B ++ (y :: Y ++ C))) = A ++ (x :: (X ++ (B ++ (y :: (Y ++ C))))) from rfl, e]
    have ih := swaps_blocks a b c (i + 1) (A ++ [y]) X (B ++ [x]) Y C (by omega) (by omega) (by simp; omega) (by simp; omega)
    simp only [List.append_assoc, List.singleton_append, List.cons_append] at ih ⊢
    exact ih
def rots (m : Nat) : Nat -> Nat -> Nat -> List α -> List α
  | 0, _, _, R => R
  | f + 1, i, j, R => if i = j then swaps (m - i) m 0 i R else if j < i then rots m f (i - j) j (swaps (m - i) m 0 j R) else rots m f i (j - i) (swaps (m - i) (m + j - i) 0 i R)
theorem rots_len (m : Nat) : ∀ (f i j : Nat) (R : List α), (rots m f i j R).length = R.length
  | 0, i, j, R => rfl
  | f + 1, i, j, R => by
    rw [rots]
    split
    . exact swaps_len _ _ _ _ _
    . split
      . rw [rots_len m f, swaps_len]
      . rw [rots_len m f, swaps_len]
theorem rots_blocks (m : Nat) : ∀ (f i j : Nat) (A X Y C : List α), 0 < i -> 0 < j -> i + j <= f -> X.length = i -> Y.length = j -> A.length + i = m ->
    rots m f i j (A ++ (X ++ (Y ++ C))) = A ++ (Y ++ (X ++ C))
  | 0, i, j, A, X, Y, C, hi, hj, hf, hx, hy, ha => by omega
  | f + 1, i, j, A, X, Y, C, hi, hj, hf, hx, hy, ha => by
    rw [rots]
    split
    . rename_i e
      subst e
      exact swaps_blocks (m - i) m i 0 A X [] Y C hx hy (by omega) (by simp; omega)
    . split
      . rename_i h1 h2
        have hX := List.take_append_drop j X
        have l1 : (X.take j).length = j := by rw [List.length_take]; omega
        have l2 : (X.drop j).length = i - j := by rw [List.length_drop]; omega
        revert hX l1 l2
        generalize X.take j = X1
        generalize X.drop j = X2
        intro hX l1 l2
        subst hX
        rw [List.append_assoc, swaps_blocks (m - i) m j 0 A X1 X2 Y C l1 hy (by omega) (by rw [l1, l2]; omega)]
        have ih := rots_blocks m f (i - j) j (A ++ Y) X2 X1 C (by omega) hj (by omega) l2 l1 (by rw [List.length_append]; omega)
        simp only [List.append_assoc] at ih ⊢
        exact ih
      . rename_i h1 h2
        have hY := List.take_append_drop (j - i) Y
        have l1 : (Y.take (j - i)).length = j - i := by rw [List.length_take]; omega
        have l2 : (Y.drop (j - i)).length = i := by rw [List.length_drop]; omega
        revert hY l1 l2
        generalize Y.take (j - i) = Y1
        generalize Y.drop (j - i) = Y2
        intro hY l1 l2
        subst hY
        rw [List.append_assoc, swaps_blocks (m - i) (m + j - i) i 0 A X Y1 Y2 C hx l2 (by omega) (by rw [hx, l1]; omega)]
        have ih := rots_blocks m f i (j - i) A Y2 Y1 (X ++ C) hi (by omega) (by omega) l2 l1 ha
        rw [ih]
        simp only [List.append_assoc]
end
theorem swaps_ok {K : List Kd} (a b : Nat) : ∀ (c i : Nat) {R : List (List PV)}, rowsOk K R = true -> a + i + c <= R.length -> b + i + c <= R.length -> rowsOk K (swaps a b i c R) = true
  | 0, i, R, h, h1, h2 => h
  | c + 1, i, R, h, h1, h2 => by
    rw [swaps]
    exact swaps_ok a b c (i + 1) (swp_ok h (by omega) (by omega)) (by rw [swp_len]; omega) (by rw [swp_len]; omega)
theorem chunks_of {K : List Kd} : ∀ {R : List (List PV)}, rowsOk K R = true -> chunks K.length R.length R.flatten = R
  | [], _ => rfl
  | r :: R, h => by
    have h1 := wk_len (rowsOk_get h List.mem_cons_self).1
    have h2 : rowsOk K R = true := by
      unfold rowsOk at h ⊢
      rw [List.all_cons, Bool.and_eq_true] at h
      exact h.2
    rw [List.length_cons, List.flatten_cons, chunks, <- h1, List.take_left, List.drop_left, h1, chunks_of h2]
theorem rowsC_of {K : List Kd} {R : List (List PV)} (h : rowsOk K R = true) (hn : R.length <= 1000000) : rowsC K R.length R.flatten = true := by
  unfold rowsC
  rw [chunks_of h, h, rows_len h, Nat.beq_refl, Nat.ble_eq_true_of_le hn]
  rfl
theorem wrap_sub {a b : Nat} (h : b <= a) (ha : a < 9223372036854775808) : IntKind.i64.wrap ((a : Int) - (b : Int)) = ((a - b : Nat) : Int) := by
  rw [show (a : Int) - (b : Int) = ((a - b : Nat) : Int) from by omega]
  exact wrap_nat (by omega)
theorem asked3 {K : List Kd} {R : List (List PV)} {n : Nat} (hR : rowsOk K R = true) (hl : R.length = n) (hn : n <= 1000000) {x y z : Int} (h1 : 0 <= x) (h2 : 0 <= y) (h3 : 0 <= z) (h4 : x + z <= (n : Int)) (h5 : y + z <= (n : Int)) :
    (n == n && (n == n && (rowsC K n R.flatten && (decide (0 <= x) && (decide (0 <= y) && (decide (0 <= z) && (decide (x + z <= (n : Int)) && decide (y + z <= (n : Int))))))))) = true := by
  subst hl
  rw [rowsC_of hR hn]
  simp only [beq_self_eq_true, Bool.true_and, Bool.and_eq_true, decide_eq_true_eq]
  exact ⟨h1, h2, h3, h4, h5⟩
def insB {α : Type} [Inhabited α] (lt : α -> α -> Bool) (a : Nat) : Nat -> List α -> List α
  | 0, R => R
  | j + 1, R => if a < j + 1 /\ lt (R.getD (j + 1) default) (R.getD j default) = true then insB lt a j (swp R (j + 1) j) else R
def insR {α : Type} [Inhabited α] (lt : α -> α -> Bool) (a : Nat) : Nat -> Nat -> List α -> List α
  | _, 0, R => R
  | i, c + 1, R => insR lt a (i + 1) c (insB lt a i R)
def ltOf (cF : List PV -> List PV -> Int) (x y : List PV) : Bool := decide (cF x y < 0)
theorem insB_len {α : Type} [Inhabited α] (lt : α -> α -> Bool) (a : Nat) : ∀ (j : Nat) (R : List α), (insB lt a j R).length = R.length
  | 0, R => rfl
  | j + 1, R => by
    rw [insB]
    split
    . rw [insB_len lt a j, swp_len]
    . rfl
theorem insB_ok {K : List Kd} (lt : List PV -> List PV -> Bool) (a : Nat) : ∀ (j : Nat) {R : List (List PV)}, rowsOk K R = true -> j < R.length -> rowsOk K (insB lt a j R) = true
  | 0, R, h, hj => h
  | j + 1, R, h, hj => by
    rw [insB]
    split
    . exact insB_ok lt a j (swp_ok h hj (by omega)) (by rw [swp_len]; omega)
    . exact h
section
variable {α : Type} [Inhabited α]
omit [Inhabited α] in
theorem ins_snoc (lt : α -> α -> Bool) (x y : α) : ∀ S : List α, ins lt x (S ++ [y]) = if lt x y = true then ins lt x S ++ [y] else S ++ [y] ++ [x]
  | [] => by
    rw [List.nil_append, ins_cons]
    by_cases h : lt x y = true <;> simp [h, ins]
  | z :: S => by
    have ih := ins_snoc lt x y S
    rw [List.cons_append, ins_cons, ih, ins_cons]
    by_cases h : lt x y = true
    . by_cases h2 : S.all (lt x) = true /\ lt x z = true
      . simp [h, h2.1, h2.2]
      . have : ¬ ((S ++ [y]).all (lt x) = true /\ lt x z = true) := fun k => h2 ⟨by
          have := k.1
          rw [List.all_append, Bool.and_eq_true] at this
          exact this.1, k.2⟩
        rw [if_neg this, if_neg h2, if_pos h, if_pos h]
        rfl
    . have : ¬ ((S ++ [y]).all (lt x) = true /\ lt x z = true) := fun k => h (by
        have := k.1
        rw [List.all_append, Bool.and_eq_true] at this
        simpa using this.2)
      rw [if_neg this, if_neg h, if_neg h]
      rfl
theorem swp_comm (R : List α) {i j : Nat} (h : i ≠ j) : swp R i j = swp R j i := by
  unfold swp
  exact List.set_comm _ _ h
theorem insB_blocks (lt : α -> α -> Bool) : ∀ (k : Nat) (A S C : List α) (x : α), S.length = k -> insB lt A.length (A.length + S.length) (A ++ (S ++ (x :: C))) = A ++ (ins lt x S ++ C)
  | 0, A, S, C, x, hk => by
    rw [List.eq_nil_of_length_eq_zero hk]
    simp only [List.length_nil, Nat.add_zero, List.nil_append, ins, List.singleton_append]
    cases A.length with
    | zero => rfl
    | succ a => rw [insB, if_neg (fun h => Nat.lt_irrefl _ h.1)]
  | k + 1, A, S, C, x, hk => by
    obtain ⟨S, y, rfl⟩ : ∃ d z, S = d ++ [z] := by
      have hne : S ≠ [] := fun e => by rw [e] at hk; cases hk
      exact ⟨_, _, (List.dropLast_concat_getLast hne).symm⟩
    have hk' : S.length = k := by simpa using hk
    have e : A ++ (S ++ [y] ++ (x :: C)) = (A ++ S) ++ (y :: ([] ++ (x :: C))) := by simp
    have hsw := swp_blocks (A ++ S) [] C y x
    rw [show (A ++ S).length + 1 + ([] : List α).length = A.length + S.length + 1 from by simp, show (A ++ S).length = A.length + S.length from by simp] at hsw
    have g1 : ((A ++ S) ++ (y :: ([] ++ (x :: C)))).getD (A.length + S.length + 1) default = x := by
      rw [List.getD_eq_getElem?_getD, List.getElem?_append_right (by simp), show A.length + S.length + 1 - (A ++ S).length = 1 from by simp]
      rfl
    have g0 : ((A ++ S) ++ (y :: ([] ++ (x :: C)))).getD (A.length + S.length) default = y := by
      rw [List.getD_eq_getElem?_getD, List.getElem?_append_right (by simp), show A.length + S.length - (A ++ S).length = 0 from by simp]
      rfl
    rw [show A.length + (S ++ [y]).length = A.length + S.length + 1 from (by rw [List.length_append, List.length_singleton, Nat.add_assoc]), e, insB, g1, g0, ins_snoc]
    by_cases h : lt x y = true
    . rw [if_pos ⟨by omega, h⟩, if_pos h, swp_comm _ (by omega), hsw]
      have ih := insB_blocks lt k A S (y :: C) x hk'
      simp only [List.nil_append, List.append_assoc, List.singleton_append] at ih ⊢
      exact ih
    . rw [if_neg (fun k => h k.2), if_neg h]
      simp
theorem insR_blocks (lt : α -> α -> Bool) : ∀ (X S A C : List α), insR lt A.length (A.length + S.length) X.length (A ++ (S ++ (X ++ C))) = A ++ (X.foldl (fun acc x => ins lt x acc) S ++ C)
  | [], S, A, C => rfl
  | x :: X, S, A, C => by
    rw [List.length_cons, insR, List.cons_append, insB_blocks lt S.length A S (X ++ C) x rfl]
    have ih := insR_blocks lt X (ins lt x S) A C
    rw [ins_len] at ih
    exact ih
theorem insR_part (lt : α -> α -> Bool) (A X C : List α) : insR lt A.length (A.length + 1) (X.length - 1) (A ++ (X ++ C)) = A ++ (insAll lt X ++ C) := by
  cases X with
  | nil => rfl
  | cons x X =>
    have := insR_blocks lt X [x] A C
    rw [List.length_cons, Nat.add_sub_cancel]
    exact this
end
theorem insR_ok {K : List Kd} (lt : List PV -> List PV -> Bool) (a : Nat) : ∀ (c i : Nat) {R : List (List PV)}, rowsOk K R = true -> i + c <= R.length -> rowsOk K (insR lt a i c R) = true
  | 0, i, R, h, hi => h
  | c + 1, i, R, h, hi => by
    rw [insR]
    exact insR_ok lt a c (i + 1) (insB_ok lt a i h (by omega)) (by rw [insB_len]; omega)
def bsearch (p : Nat -> Bool) : Nat -> Nat -> Nat -> Nat
  | 0, i, _ => i
  | f + 1, i, j => if i < j then (if p ((i + j) / 2) = true then bsearch p f ((i + j) / 2 + 1) j else bsearch p f i ((i + j) / 2)) else i
theorem bsearch_ok (p : Nat -> Bool) (lo hi : Nat) (mono : ∀ h h', lo <= h -> h <= h' -> h' < hi -> p h' = true -> p h = true) : ∀ (f i j : Nat), lo <= i -> i <= j -> j <= hi -> j - i <= f ->
    (∀ h, lo <= h -> h < i -> p h = true) -> (∀ h, j <= h -> h < hi -> p h = false) ->
    i <= bsearch p f i j /\ bsearch p f i j <= j /\ (∀ h, lo <= h -> h < bsearch p f i j -> p h = true) /\ (∀ h, bsearch p f i j <= h -> h < hi -> p h = false)
  | 0, i, j, h1, h2, h3, h4, a, b => by
    have : i = j := by omega
    subst this
    exact ⟨Nat.le_refl _, Nat.le_refl _, a, b⟩
  | f + 1, i, j, h1, h2, h3, h4, a, b => by
    rw [bsearch]
    split
    . rename_i hij
      split
      . rename_i hp
        obtain ⟨c1, c2, c3, c4⟩ := bsearch_ok p lo hi mono f ((i + j) / 2 + 1) j (by omega) (by omega) h3 (by omega) (fun h k1 k2 => mono h ((i + j) / 2) k1 (by omega) (by omega) hp) b
        exact ⟨by omega, c2, c3, c4⟩
      . rename_i hp
        obtain ⟨c1, c2, c3, c4⟩ := bsearch_ok p lo hi mono f i ((i + j) / 2) h1 (by omega) (by omega) (by omega) a (fun h k1 k2 => by
          cases e : p h with
          | false => rfl
          | true => exact absurd (mono ((i + j) / 2) h (by omega) k1 k2 e) hp)
        exact ⟨c1, by omega, c3, c4⟩
    . rename_i hij
      have : i = j := by omega
      subst this
      exact ⟨Nat.le_refl _, Nat.le_refl _, a, b⟩
section
variable {α : Type}
theorem mrg_one {lt : α -> α -> Bool} (h : Ord lt) (x : α) (Y1 Y2 : List α) (h1 : ∀ y ∈ Y1, lt y x = true) (h2 : ∀ y ∈ Y2, lt y x = false) : mrg lt [x] (Y1 ++ Y2) = Y1 ++ (x :: Y2) := by
  have e1 := mrg_append h [x] Y2 [] Y1 (fun _ hx => by simp at hx) (fun y hy z hz => by simp at hz; subst hz; exact h1 y hy)
  have e2 := mrg_append h [] Y2 [x] [] (fun z hz y hy => by simp at hz; subst hz; exact h2 y hy) (fun _ hx => by simp at hx)
  rw [mrg_nil_left] at e1
  rw [mrg_nil_left, mrg_nil_right] at e2
  simp only [List.nil_append, List.append_nil] at e1 e2
  rw [e1, e2]
  rfl
theorem one_mrg {lt : α -> α -> Bool} (h : Ord lt) (y : α) (X1 X2 : List α) (h1 : ∀ x ∈ X1, lt y x = false) (h2 : ∀ x ∈ X2, lt y x = true) : mrg lt (X1 ++ X2) [y] = X1 ++ (y :: X2) := by
  have e1 := mrg_append h X2 [y] X1 [] (fun x hx z hz => by simp at hz; subst hz; exact h1 x hx) (fun _ hx => by simp at hx)
  have e2 := mrg_append h X2 [] [] [y] (fun _ hx => by simp at hx) (fun z hz x hx => by simp at hz; subst hz; exact h2 x hx)
  rw [mrg_nil_right] at e1
  rw [mrg_nil_left, mrg_nil_right] at e2
  simp only [List.nil_append, List.append_nil] at e1 e2
  rw [e1, e2]
  rfl
theorem parts_ahead {lt : α -> α -> Bool} (h : Ord lt) {X1 Y2 : List α} (hx : Sorted lt X1) (hy : Sorted lt Y2) (hxy : ∀ x y, X1.getLast? = some x -> Y2.head? = some y -> lt y x = false) : ∀ x ∈ X1, ∀ y ∈ Y2, lt y x = false := by
  intro x hxm y hym
  cases Y2 with
  | nil => cases hym
  | cons z Y2 =>
    have hne : X1 ≠ [] := fun e => by rw [e] at hxm; cases hxm
    obtain ⟨d, l, rfl⟩ : ∃ d l, X1 = d ++ [l] := ⟨_, _, (List.dropLast_concat_getLast hne).symm⟩
    have k1 := hxy l z (by simp) rfl
    have k2 : lt l x = false := by
      rw [List.mem_append, List.mem_singleton] at hxm
      rcases hxm with hm | rfl
      . exact (List.pairwise_append.1 hx).2.2 x hm l (by simp)
      . exact h.irrefl x
    have k3 : lt y z = false := by
      rw [List.mem_cons] at hym
      rcases hym with rfl | hm
      . exact h.irrefl y
      . exact (List.pairwise_cons.1 hy).1 y hm
    exact h.trans x z y (h.trans x l z k2 k1) k3
theorem parts_behind {lt : α -> α -> Bool} (h : Ord lt) {X2 Y1 : List α} (hx : Sorted lt X2) (hy : Sorted lt Y1) (hxy : ∀ x y, X2.head? = some x -> Y1.getLast? = some y -> lt y x = true) : ∀ y ∈ Y1, ∀ x ∈ X2, lt y x = true := by
  intro y hym x hxm
  cases X2 with
  | nil => cases hxm
  | cons z X2 =>
    have hne : Y1 ≠ [] := fun e => by rw [e] at hym; cases hym
    obtain ⟨d, l, rfl⟩ : ∃ d l, Y1 = d ++ [l] := ⟨_, _, (List.dropLast_concat_getLast hne).symm⟩
    have k1 := hxy z l rfl (by simp)
    have k2 : lt l y = false := by
      rw [List.mem_append, List.mem_singleton] at hym
      rcases hym with hm | rfl
      . exact (List.pairwise_append.1 hy).2.2 y hm l (by simp)
      . exact h.irrefl y
    have k3 : lt x z = false := by
      rw [List.mem_cons] at hxm
      rcases hxm with rfl | hm
      . exact h.irrefl x
      . exact (List.pairwise_cons.1 hx).1 x hm
    exact h.lt_of_lt_le (h.lt_of_le_lt k2 k1) k3
theorem mrg_parts {lt : α -> α -> Bool} (h : Ord lt) {X1 X2 Y1 Y2 : List α} (hx : Sorted lt (X1 ++ X2)) (hy : Sorted lt (Y1 ++ Y2))
    (h1 : ∀ x y, X1.getLast? = some x -> Y2.head? = some y -> lt y x = false) (h2 : ∀ x y, X2.head? = some x -> Y1.getLast? = some y -> lt y x = true) :
    mrg lt (X1 ++ X2) (Y1 ++ Y2) = mrg lt X1 Y1 ++ mrg lt X2 Y2 := by
  obtain ⟨x1, x2, _⟩ := List.pairwise_append.1 hx
  obtain ⟨y1, y2, _⟩ := List.pairwise_append.1 hy
  exact mrg_append h X2 Y2 X1 Y1 (parts_ahead h x1 y2 h1) (parts_behind h x2 y1 h2)
end
abbrev Mg := Nat -> Nat -> Nat -> List (List PV) -> List (List PV)
def sparse : Nat -> Nat -> List (Nat × PV) -> Slots
  | 0, _, _ => []
  | n + 1, i, [] => none :: sparse n (i + 1) []
  | n + 1, i, (j, v) :: l => if Nat.beq i j then some v :: sparse n (i + 1) l else none :: sparse n (i + 1) ((j, v) :: l)
def vI (x : Int) : PV := .int .i64 x
def mid (i j : Int) : Int := IntKind.i64.wrap ((IntKind.u64.wrap (IntKind.i64.wrap (i + j))).fdiv (2 ^ 1))
theorem wrapU (n : Int) : IntKind.u64.wrap n = n % 18446744073709551616 := by simp [IntKind.wrap, IntKind.bits, IntKind.signed]
theorem mid_nat {i j : Nat} (h : i + j < 9223372036854775808) : mid (i : Int) (j : Int) = (((i + j) / 2 : Nat) : Int) := by
  unfold mid
  rw [wrap_add h, show IntKind.u64.wrap (((i + j : Nat)) : Int) = ((i + j : Nat) : Int) from by rw [wrapU]; omega, show (((i + j : Nat) : Int)).fdiv (2 ^ 1) = (((i + j) / 2 : Nat) : Int) from by
    rw [Int.fdiv_eq_ediv_of_nonneg _ (by decide)]
    omega]
  exact wrap_nat (by omega)
theorem swaps_up {α : Type} [Inhabited α] (a : Nat) : ∀ (Y : List α) (i : Nat) (A C : List α) (x : α), A.length = a + i -> swaps a (a + 1) i Y.length (A ++ (x :: (Y ++ C))) = A ++ (Y ++ (x :: C))
  | [], i, A, C, x, h => rfl
  | y :: Y, i, A, C, x, h => by
    rw [List.length_cons, swaps]
    have e := swp_blocks A [] (Y ++ C) x y
    simp only [List.length_nil, Nat.add_zero, List.nil_append] at e
    rw [show a + i = A.length from h.symm, show a + 1 + i = A.length + 1 from by omega, List.cons_append, e]
    have ih := swaps_up a Y (i + 1) (A ++ [y]) C x (by simp; omega)
    simp only [List.append_assoc, List.singleton_append] at ih
    exact ih
def downs {α : Type} [Inhabited α] (r : Nat) : Nat -> List α -> List α
  | 0, R => R
  | k + 1, R => if r < k + 1 then downs r k (swp R (k + 1) k) else R
theorem downs_blocks {α : Type} [Inhabited α] : ∀ (k : Nat) (A X C : List α) (y : α), X.length = k -> downs A.length (A.length + X.length) (A ++ (X ++ (y :: C))) = A ++ (y :: (X ++ C))
  | 0, A, X, C, y, hk => by
    rw [List.eq_nil_of_length_eq_zero hk]
    simp only [List.length_nil, Nat.add_zero, List.nil_append]
    cases A.length with
    | zero => rfl
    | succ a => rw [downs, if_neg (Nat.lt_irrefl _)]
  | k + 1, A, X, C, y, hk => by
    obtain ⟨X, x, rfl⟩ : ∃ d z, X = d ++ [z] := by
      have hne : X ≠ [] := fun e => by rw [e] at hk; cases hk
      exact ⟨_, _, (List.dropLast_concat_getLast hne).symm⟩
    have hk' : X.length = k := by simpa using hk
    have e : A ++ (X ++ [x] ++ (y :: C)) = (A ++ X) ++ (x :: ([] ++ (y :: C))) := by simp
    have hsw := swp_blocks (A ++ X) [] C x y
    rw [show (A ++ X).length + 1 + ([] : List α).length = A.length + X.length + 1 from by simp, show (A ++ X).length = A.length + X.length from by simp] at hsw
    rw [show A.length + (X ++ [x]).length = A.length + X.length + 1 from (by rw [List.length_append, List.length_singleton, Nat.add_assoc]), e, downs, if_pos (by omega), swp_comm _ (by omega), hsw]
    have ih := downs_blocks k A X (x :: C) y hk'
    simp only [List.nil_append, List.append_assoc, List.singleton_append] at ih ⊢
    exact ih
theorem oldLS_wk {β : Type} (n : Nat) (k : Option β) : ∀ {K : List Kd} {r : List PV}, wk K r = true -> oldL 0 r = true -> oldLS n r k = k
  | [], [], _, _ => rfl
  | [], _ :: _, h, _ => by cases h
  | _ :: _, [], h, _ => by cases h
  | kd :: K, x :: r, h, ho => by
    simp only [wk, Bool.and_eq_true] at h
    have ho' := ho
    simp only [oldL, Bool.and_eq_true] at ho'
    simp only [oldLS]
    rw [oldLS_wk n k h.2 ho'.2]
    have h1 := h.1
    unfold Kd.wk at h1
    split at h1
    . rfl
    . rfl
    . rfl
    . have h2 := oldV_le (Nat.zero_le n) _ ho'.1
      simp only [oldV] at h2
      simp only [oldVS]
      rw [ass_of h2]
    . cases h1
theorem oldLS_row {β : Type} {n : Nat} {k : Option β} {K : List Kd} {R : List (List PV)} (h : rowsOk K R = true) {j : Nat} (hj : j < R.length) : oldLS n R[j] k = k :=
  oldLS_wk n k (rowsOk_get h (List.getElem_mem hj)).1 (rowsOk_get h (List.getElem_mem hj)).2
end
section
open St
section
variable {α : Type}
theorem srt_getD {lt : α -> α -> Bool} (h : Ord lt) {X : List α} (hx : Sorted lt X) (d : α) {i j : Nat} (hij : i <= j) (hj : j < X.length) : lt (X.getD j d) (X.getD i d) = false := by
  rw [getD_at hj, getD_at (by omega : i < X.length)]
  by_cases e : i = j
  . subst e
    exact h.irrefl _
  . exact List.pairwise_iff_getElem.1 hx i j (by omega) hj (by omega)
theorem blk_X (A X Z : List α) (d : α) {i : Nat} (hi : i < X.length) : (A ++ (X ++ Z)).getD (A.length + i) d = X.getD i d := by
  rw [List.getD_eq_getElem?_getD, List.getD_eq_getElem?_getD, List.getElem?_append_right (by omega), Nat.add_sub_cancel_left, List.getElem?_append_left hi]
theorem mem_take_getD {X : List α} (d : α) {k : Nat} {x : α} (h : x ∈ X.take k) : ∃ i, i < k /\ i < X.length /\ x = X.getD i d := by
  obtain ⟨i, hi, rfl⟩ := List.mem_iff_getElem.1 h
  rw [List.length_take] at hi
  exact ⟨i, by omega, by omega, by rw [List.getElem_take, getD_at (by omega)]⟩
theorem mem_drop_getD {X : List α} (d : α) {k : Nat} {x : α} (h : x ∈ X.drop k) : ∃ i, k <= i /\ i < X.length /\ x = X.getD i d := by
  obtain ⟨i, hi, rfl⟩ := List.mem_iff_getElem.1 h
  rw [List.length_drop] at hi
  exact ⟨k + i, by omega, by omega, by rw [List.getElem_drop, getD_at (by omega)]⟩
theorem main_split {lt : α -> α -> Bool} (h : Ord lt) (d : α) (A X Y C : List α) (hx : Sorted lt X) (hy : Sorted lt Y) (a m b md s0 r0 F : Nat) (ha : A.length = a) (hm : a + X.length = m) (hb : m + Y.length = b) (hmd : md = (a + b) / 2) (hX : 2 <= X.length) (hY : 2 <= Y.length)
    (hs : (md < m /\ s0 = md + m - b /\ r0 = md) ∨ (m <= md /\ s0 = a /\ r0 = m)) (r : Nat) (hF : r0 - s0 <= F)
    (hr : r = bsearch (fun h => !lt ((A ++ (X ++ (Y ++ C))).getD (md + m - 1 - h) d) ((A ++ (X ++ (Y ++ C))).getD h d)) F s0 r0) :
    a <= r /\ r <= m /\ m <= md + m - r /\ md + m - r <= b /\ r <= md /\ mrg lt X Y = mrg lt (X.take (r - a)) (Y.take (md - r)) ++ mrg lt (X.drop (r - a)) (Y.drop (md - r)) := by
  have gx : ∀ i, a <= i -> i < m -> (A ++ (X ++ (Y ++ C))).getD i d = X.getD (i - a) d := fun i h1 h2 => by
    have := blk_X A X (Y ++ C) d (i := i - a) (by omega)
    rw [show A.length + (i - a) = i from by omega] at this
    exact this
  have gy : ∀ i, m <= i -> i < b -> (A ++ (X ++ (Y ++ C))).getD i d = Y.getD (i - m) d := fun i h1 h2 => by
    have := blk_X (A ++ X) Y C d (i := i - m) (by omega)
    rw [List.length_append, show A.length + X.length + (i - m) = i from by omega, List.append_assoc] at this
    exact this
  have hab : s0 <= r0 /\ a <= s0 /\ r0 <= m /\ r0 <= md /\ md + m - s0 <= b := by omega
  have pv : ∀ k, s0 <= k -> k < r0 -> (!lt ((A ++ (X ++ (Y ++ C))).getD (md + m - 1 - k) d) ((A ++ (X ++ (Y ++ C))).getD k d)) = !lt (Y.getD (md - 1 - k) d) (X.getD (k - a) d) := fun k h1 h2 => by
    rw [gx k (by omega) (by omega), gy (md + m - 1 - k) (by omega) (by omega), show md + m - 1 - k - m = md - 1 - k from by omega]
  obtain ⟨c1, c2, c3, c4⟩ := bsearch_ok (fun h => !lt ((A ++ (X ++ (Y ++ C))).getD (md + m - 1 - h) d) ((A ++ (X ++ (Y ++ C))).getD h d)) s0 r0 (fun k k' h1 h2 h3 h4 => by
    rw [pv k' (by omega) h3] at h4
    rw [pv k h1 (by omega)]
    have h4 : lt (Y.getD (md - 1 - k') d) (X.getD (k' - a) d) = false := by simpa using h4
    have e1 := srt_getD h hx d (i := k - a) (j := k' - a) (by omega) (by omega)
    have e2 := srt_getD h hy d (i := md - 1 - k') (j := md - 1 - k) (by omega) (by omega)
    rw [h.trans _ _ _ (h.trans _ _ _ e1 h4) e2]
    rfl) F s0 r0 (Nat.le_refl _) hab.1 (Nat.le_refl _) hF (fun k k1 k2 => by omega) (fun k k1 k2 => by omega)
  rw [<- hr] at c1 c2 c3 c4
  refine ⟨by omega, by omega, by omega, by omega, by omega, ?_⟩
  have key := mrg_append h (X.drop (r - a)) (Y.drop (md - r)) (X.take (r - a)) (Y.take (md - r)) (fun x hxm y hym => by
    obtain ⟨i, i1, i2, rfl⟩ := mem_take_getD d hxm
    obtain ⟨j, j1, j2, rfl⟩ := mem_drop_getD d hym
    have hsr : s0 < r := by omega
    have e := c3 (r - 1) (by omega) (by omega)
    rw [pv (r - 1) (by omega) (by omega), show md - 1 - (r - 1) = md - r from by omega] at e
    have e : lt (Y.getD (md - r) d) (X.getD (r - 1 - a) d) = false := by simpa using e
    have e1 := srt_getD h hx d (i := i) (j := r - 1 - a) (by omega) (by omega)
    have e2 := srt_getD h hy d (i := md - r) (j := j) (by omega) (by omega)
    exact h.trans _ _ _ (h.trans _ _ _ e1 e) e2) (fun y hym x hxm => by
    obtain ⟨j, j1, j2, rfl⟩ := mem_take_getD d hym
    obtain ⟨i, i1, i2, rfl⟩ := mem_drop_getD d hxm
    have hsr : r < r0 := by omega
    have e := c4 r (by omega) hsr
    rw [pv r (by omega) hsr] at e
    have e : lt (Y.getD (md - 1 - r) d) (X.getD (r - a) d) = true := by simpa using e
    have e1 := srt_getD h hx d (i := r - a) (j := i) (by omega) (by omega)
    have e2 := srt_getD h hy d (i := j) (j := md - 1 - r) (by omega) (by omega)
    exact h.lt_of_lt_le (h.lt_of_le_lt e2 e) e1)
  rw [List.take_append_drop, List.take_append_drop] at key
  exact key
def mgOf (lt : α -> α -> Bool) (a m b : Nat) (R : List α) : List α := R.take a ++ (mrg lt ((R.drop a).take (m - a)) ((R.drop m).take (b - m)) ++ R.drop b)
theorem mgOf_blocks (lt : α -> α -> Bool) (A X Y C : List α) {a m b : Nat} (ha : A.length = a) (hm : a + X.length = m) (hb : m + Y.length = b) : mgOf lt a m b (A ++ (X ++ (Y ++ C))) = A ++ (mrg lt X Y ++ C) := by
  unfold mgOf
  have e1 : (A ++ (X ++ (Y ++ C))).drop a = X ++ (Y ++ C) := by rw [<- ha, List.drop_left]
  have e2 : (A ++ (X ++ (Y ++ C))).drop m = Y ++ C := by
    rw [<- List.append_assoc, show m = (A ++ X).length from by rw [List.length_append]; omega, List.drop_left]
  have e3 : (A ++ (X ++ (Y ++ C))).drop b = C := by
    rw [<- List.append_assoc, <- List.append_assoc, show b = (A ++ X ++ Y).length from by rw [List.length_append, List.length_append]; omega, List.drop_left]
  rw [e1, e2, e3, <- ha, List.take_left, show m - A.length = X.length from by omega, List.take_left, show b - m = Y.length from by omega, List.take_left]
theorem mgOf_len (lt : α -> α -> Bool) {a m b : Nat} (R : List α) (h1 : a <= m) (h2 : m <= b) (h3 : b <= R.length) : (mgOf lt a m b R).length = R.length := by
  unfold mgOf
  simp only [List.length_append, mrg_len, List.length_take, List.length_drop]
  omega
theorem blocks_of (R : List α) {a m b : Nat} (h1 : a <= m) (h2 : m <= b) (h3 : b <= R.length) : ∃ A X Y C, R = A ++ (X ++ (Y ++ C)) /\ A.length = a /\ a + X.length = m /\ m + Y.length = b /\ X = (R.drop a).take (m - a) /\ Y = (R.drop m).take (b - m) := by
  refine ⟨R.take a, (R.drop a).take (m - a), (R.drop m).take (b - m), R.drop b, ?_, ?_, ?_, ?_, rfl, rfl⟩
  . have e1 : (R.drop m).take (b - m) ++ R.drop b = R.drop m := by
      have := List.take_append_drop (b - m) (R.drop m)
      rw [List.drop_drop, show m + (b - m) = b from by omega] at this
      exact this
    have e2 : (R.drop a).take (m - a) ++ R.drop m = R.drop a := by
      have := List.take_append_drop (m - a) (R.drop a)
      rw [List.drop_drop, show a + (m - a) = m from by omega] at this
      exact this
    rw [e1, e2, List.take_append_drop]
  . rw [List.length_take]; omega
  . rw [List.length_take, List.length_drop]; omega
  . rw [List.length_take, List.length_drop]; omega
open Classical in
noncomputable def srtB (lt : α -> α -> Bool) (X : List α) : Bool := decide (Sorted lt X)
noncomputable def askB (lt : α -> α -> Bool) (s a m b : Nat) (R : List α) : Bool := decide (b - a <= 2 ^ s) && (srtB lt ((R.drop a).take (m - a)) && srtB lt ((R.drop m).take (b - m)))
theorem srtB_of {lt : α -> α -> Bool} {X : List α} (h : Sorted lt X) : srtB lt X = true := by simpa [srtB] using h
theorem srt_of {lt : α -> α -> Bool} {X : List α} (h : srtB lt X = true) : Sorted lt X := by simpa [srtB] using h
theorem askB_of {lt : α -> α -> Bool} {s a m b : Nat} {A X Y C : List α} (ha : A.length = a) (hm : a + X.length = m) (hb : m + Y.length = b) (h1 : b - a <= 2 ^ s) (hx : Sorted lt X) (hy : Sorted lt Y) : askB lt s a m b (A ++ (X ++ (Y ++ C))) = true := by
  unfold askB
  have e1 : ((A ++ (X ++ (Y ++ C))).drop a).take (m - a) = X := by rw [<- ha, List.drop_left, show m - A.length = X.length from by omega, List.take_left]
  have e2 : ((A ++ (X ++ (Y ++ C))).drop m).take (b - m) = Y := by
    rw [<- List.append_assoc, show m = (A ++ X).length from by rw [List.length_append]; omega, List.drop_left, show b - (A ++ X).length = Y.length from by rw [List.length_append]; omega, List.take_left]
  rw [e1, e2, srtB_of hx, srtB_of hy]
  simpa using h1
theorem srt_take {lt : α -> α -> Bool} {X : List α} (h : Sorted lt X) (k : Nat) : Sorted lt (X.take k) := List.Pairwise.sublist (List.take_sublist k X) h
theorem srt_drop {lt : α -> α -> Bool} {X : List α} (h : Sorted lt X) (k : Nat) : Sorted lt (X.drop k) := List.Pairwise.sublist (List.drop_sublist k X) h
end
theorem rowsOk_mem {K : List Kd} {R R' : List (List PV)} (h : rowsOk K R = true) (hm : ∀ r ∈ R', r ∈ R) : rowsOk K R' = true := by
  unfold rowsOk at h ⊢
  rw [List.all_eq_true] at h ⊢
  exact fun r hr => h r (hm r hr)
end
section
open St
section
variable {α : Type}
def blk (lt : α -> α -> Bool) (bs : Nat) (l : List α) : List α := if h : l = [] ∨ bs = 0 then l else insAll lt (l.take bs) ++ blk lt bs (l.drop bs)
termination_by l.length
decreasing_by
  rw [List.length_drop]
  have : l.length ≠ 0 := fun e => h (Or.inl (List.eq_nil_of_length_eq_zero e))
  omega
theorem blk_nil (lt : α -> α -> Bool) (bs : Nat) : blk lt bs [] = [] := by rw [blk]; simp
theorem blk_step (lt : α -> α -> Bool) {bs : Nat} (h : 0 < bs) (l : List α) : blk lt bs l = insAll lt (l.take bs) ++ blk lt bs (l.drop bs) := by
  by_cases hl : l = []
  . subst hl
    simp [blk_nil, insAll]
  . rw [blk, dif_neg (by intro k; rcases k with k | k; exact hl k; omega)]
theorem blk_short (lt : α -> α -> Bool) {bs : Nat} (h : 0 < bs) {l : List α} (hl : l.length <= bs) : blk lt bs l = insAll lt l := by
  rw [blk_step lt h, List.take_of_length_le hl, List.drop_of_length_le hl, blk_nil, List.append_nil]
theorem blk_len (lt : α -> α -> Bool) {bs : Nat} (h : 0 < bs) : ∀ (k : Nat) (l : List α), l.length <= k -> (blk lt bs l).length = l.length
  | 0, l, hk => by rw [List.eq_nil_of_length_eq_zero (show l.length = 0 by omega), blk_nil]
  | k + 1, l, hk => by
    rw [blk_step lt h, List.length_append, insAll_len]
    by_cases h0 : l.length = 0
    . rw [List.eq_nil_of_length_eq_zero h0]
      simp [blk_nil]
    . rw [blk_len lt h k _ (by rw [List.length_drop]; omega), List.length_take, List.length_drop]
      omega
theorem mem_insAll (lt : α -> α -> Bool) (z : α) (l : List α) : z ∈ insAll lt l ↔ z ∈ l := by
  have key : ∀ (l acc : List α), z ∈ l.foldl (fun acc x => ins lt x acc) acc ↔ z ∈ acc ∨ z ∈ l := by
    intro l
    induction l with
    | nil => intro acc; simp
    | cons x l ih =>
      intro acc
      rw [List.foldl_cons, ih, mem_ins, List.mem_cons]
      constructor
      . rintro ((h | h) | h) <;> simp [h]
      . rintro (h | h | h) <;> simp [h]
  unfold insAll
  rw [key]
  simp
theorem mem_blk (lt : α -> α -> Bool) {bs : Nat} (h : 0 < bs) (z : α) : ∀ (k : Nat) (l : List α), l.length <= k -> z ∈ blk lt bs l -> z ∈ l
  | 0, l, hk, hz => by
    rw [List.eq_nil_of_length_eq_zero (show l.length = 0 by omega), blk_nil] at hz
    cases hz
  | k + 1, l, hk, hz => by
    rw [blk_step lt h, List.mem_append, mem_insAll] at hz
    rcases hz with hz | hz
    . exact List.mem_of_mem_take hz
    . by_cases h0 : l.length = 0
      . rw [List.eq_nil_of_length_eq_zero h0] at hz
        simp [blk_nil] at hz
      . exact List.mem_of_mem_drop (mem_blk lt h z k _ (by rw [List.length_drop]; omega) hz)
theorem cond_t {β : Type} {c : Bool} {a b : β} (h : c = true) : (bif c then a else b) = a := by rw [h]; rfl
theorem cond_f {β : Type} {c : Bool} {a b : β} (h : c = false) : (bif c then a else b) = b := by rw [h]; rfl
theorem rows_insAll {K : List Kd} {lt : List PV -> List PV -> Bool} {R : List (List PV)} (h : rowsOk K R = true) : rowsOk K (insAll lt R) = true := rowsOk_mem h (fun r hr => (mem_insAll lt r R).1 hr)
end
end
end Go.Proofs.YtaofbpldflcjmaaDoor.Am
