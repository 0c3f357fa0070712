/- Stable sorting, in plain Lean: insertion from the end, merging, and what the two have to do with each other. -/
import Derived.Test.YtcjcinipfdameacGreatDoorAm
set_option linter.unusedVariables false
set_option linter.unusedSimpArgs false
namespace Go.Proofs.YtcjcinipfdameacGreatDoor.St

variable {α : Type}

/-- An order that may hold unlike things alike: 'lt a b': a comes ahead of b. -/
structure Ord (lt : α → α → Bool) : Prop where
  asymm : ∀ a b, lt a b = true → lt b a = false
  trans : ∀ a b c, lt b a = false → lt c b = false → lt c a = false

theorem Ord.irrefl {lt : α → α → Bool} (h : Ord lt) (a : α) : lt a a = false := by
  cases e : lt a a with
  | false => rfl
  | true => have k := h.asymm a a e; rw [k] at e; cases e

/-- x ≤ y < z -/
theorem Ord.lt_of_le_lt {lt : α → α → Bool} (h : Ord lt) {a b c : α} (h1 : lt b a = false) (h2 : lt b c = true) : lt a c = true := by
  cases e : lt a c with
  | true => rfl
  | false =>
    -- c ≤ a ≤ b, but b < c
    have := h.trans c a b e h1
    rw [this] at h2
    cases h2

theorem Ord.lt_of_lt_le {lt : α → α → Bool} (h : Ord lt) {a b c : α} (h1 : lt a b = true) (h2 : lt c b = false) : lt a c = true := by
  cases e : lt a c with
  | true => rfl
  | false =>
    have := h.trans b c a h2 e
    rw [this] at h1
    cases h1

def Sorted (lt : α → α → Bool) (l : List α) : Prop := l.Pairwise fun a b => lt b a = false

/-- The one behind those that don't come behind it: from the end. -/
def ins (lt : α → α → Bool) (x : α) : List α → List α
  | [] => [x]
  | y :: l => if (ins lt x l).head? = none ∨ (l.all (lt x)) = true ∧ lt x y = true then x :: y :: l else y :: ins lt x l

theorem ins_ne (lt : α → α → Bool) (x : α) (l : List α) : (ins lt x l).head? ≠ none := by
  cases l with
  | nil => simp [ins]
  | cons y l => unfold ins; split <;> simp

theorem ins_cons (lt : α → α → Bool) (x y : α) (l : List α) : ins lt x (y :: l) = if l.all (lt x) = true ∧ lt x y = true then x :: y :: l else y :: ins lt x l := by
  rw [ins]
  have := ins_ne lt x l
  simp only [this, false_or]

/-- In a row in order it is enough to ask the first. -/
theorem ins_sorted_cons {lt : α → α → Bool} (h : Ord lt) (x y : α) (l : List α) (hs : Sorted lt (y :: l)) : ins lt x (y :: l) = if lt x y = true then x :: y :: l else y :: ins lt x l := by
  rw [ins_cons]
  by_cases e : lt x y = true
  · have : l.all (lt x) = true := by
      rw [List.all_eq_true]
      intro z hz
      exact h.lt_of_lt_le e ((List.pairwise_cons.1 hs).1 z hz)
    simp [e, this]
  · simp [e]

theorem mem_ins (lt : α → α → Bool) (x z : α) : ∀ l, z ∈ ins lt x l ↔ z = x ∨ z ∈ l
  | [] => by simp [ins]
  | y :: l => by
    rw [ins_cons]
    split
    · simp
    · simp only [List.mem_cons, mem_ins lt x z l]
      constructor
      · rintro (h | h | h) <;> simp [h]
      · rintro (h | h | h) <;> simp [h]

theorem ins_len (lt : α → α → Bool) (x : α) : ∀ l, (ins lt x l).length = l.length + 1
  | [] => rfl
  | y :: l => by
    rw [ins_cons]
    split
    · simp
    · simp [ins_len lt x l]

theorem ins_sorted {lt : α → α → Bool} (h : Ord lt) (x : α) : ∀ l, Sorted lt l → Sorted lt (ins lt x l)
  | [], _ => by simp [ins, Sorted]
  | y :: l, hs => by
    rw [ins_sorted_cons h x y l hs]
    obtain ⟨h1, h2⟩ := List.pairwise_cons.1 hs
    split
    · rename_i e
      refine List.pairwise_cons.2 ⟨fun z hz => ?_, hs⟩
      rw [List.mem_cons] at hz
      rcases hz with rfl | hz
      · exact h.asymm _ _ e
      · exact h.asymm _ _ (h.lt_of_lt_le e (h1 z hz))
    · rename_i e
      refine List.pairwise_cons.2 ⟨fun z hz => ?_, ins_sorted h x l h2⟩
      rw [mem_ins] at hz
      rcases hz with rfl | hz
      · simpa using e
      · exact h1 z hz

/-- All, one behind the other. -/
def insAll (lt : α → α → Bool) (l : List α) : List α := l.foldl (fun acc x => ins lt x acc) []

theorem insAll_snoc (lt : α → α → Bool) (l : List α) (x : α) : insAll lt (l ++ [x]) = ins lt x (insAll lt l) := by simp [insAll]

theorem foldl_ins_sorted {lt : α → α → Bool} (h : Ord lt) : ∀ (l acc : List α), Sorted lt acc → Sorted lt (l.foldl (fun acc x => ins lt x acc) acc)
  | [], acc, hs => hs
  | x :: l, acc, hs => foldl_ins_sorted h l _ (ins_sorted h x acc hs)

theorem insAll_sorted {lt : α → α → Bool} (h : Ord lt) (l : List α) : Sorted lt (insAll lt l) := foldl_ins_sorted h l [] List.Pairwise.nil

theorem foldl_ins_len (lt : α → α → Bool) : ∀ (l acc : List α), (l.foldl (fun acc x => ins lt x acc) acc).length = acc.length + l.length
  | [], acc => rfl
  | x :: l, acc => by simp only [List.foldl_cons, foldl_ins_len lt l, ins_len, List.length_cons]; omega

theorem insAll_len (lt : α → α → Bool) (l : List α) : (insAll lt l).length = l.length := by simp [insAll, foldl_ins_len]

/-- Two rows, those of the first ahead of their likes. -/
def mrg (lt : α → α → Bool) : List α → List α → List α
  | [], r => r
  | x :: l, [] => x :: l
  | x :: l, y :: r => if lt y x = true then y :: mrg lt (x :: l) r else x :: mrg lt l (y :: r)
termination_by l r => l.length + r.length

theorem mrg_nil_right (lt : α → α → Bool) : ∀ l, mrg lt l [] = l
  | [] => by rw [mrg]
  | x :: l => by rw [mrg]

theorem mrg_nil_left (lt : α → α → Bool) (r : List α) : mrg lt [] r = r := by rw [mrg]

theorem mem_mrg (lt : α → α → Bool) (z : α) : ∀ l r, z ∈ mrg lt l r ↔ z ∈ l ∨ z ∈ r
  | [], r => by rw [mrg]; simp
  | x :: l, [] => by rw [mrg]; simp
  | x :: l, y :: r => by
    rw [mrg]
    split
    · simp only [List.mem_cons, mem_mrg lt z (x :: l) r]
      constructor
      · rintro (h | (h | h) | h) <;> simp [h]
      · rintro ((h | h) | h | h) <;> simp [h]
    · simp only [List.mem_cons, mem_mrg lt z l (y :: r)]
      constructor
      · rintro (h | h | h | h) <;> simp [h]
      · rintro ((h | h) | h | h) <;> simp [h]
termination_by l r => l.length + r.length

theorem mrg_len (lt : α → α → Bool) : ∀ l r, (mrg lt l r).length = l.length + r.length
  | [], r => by rw [mrg]; simp
  | x :: l, [] => by rw [mrg]; simp
  | x :: l, y :: r => by
    rw [mrg]
    split
    · simp only [List.length_cons, mrg_len lt (x :: l) r]; omega
    · simp only [List.length_cons, mrg_len lt l (y :: r)]; omega
termination_by l r => l.length + r.length

theorem mrg_sorted {lt : α → α → Bool} (h : Ord lt) : ∀ l r, Sorted lt l → Sorted lt r → Sorted lt (mrg lt l r)
  | [], r, _, hr => by rw [mrg]; exact hr
  | x :: l, [], hl, _ => by rw [mrg]; exact hl
  | x :: l, y :: r, hl, hr => by
    obtain ⟨l1, l2⟩ := List.pairwise_cons.1 hl
    obtain ⟨r1, r2⟩ := List.pairwise_cons.1 hr
    rw [mrg]
    split
    · rename_i e
      refine List.pairwise_cons.2 ⟨fun z hz => ?_, mrg_sorted h (x :: l) r hl r2⟩
      rw [mem_mrg, List.mem_cons] at hz
      rcases hz with (rfl | hz) | hz
      · exact h.asymm _ _ e
      · exact h.asymm _ _ (h.lt_of_lt_le e (l1 z hz))
      · exact r1 z hz
    · rename_i e
      have e : lt y x = false := by simpa using e
      refine List.pairwise_cons.2 ⟨fun z hz => ?_, mrg_sorted h l (y :: r) l2 hr⟩
      rw [mem_mrg, List.mem_cons] at hz
      rcases hz with hz | rfl | hz
      · exact l1 z hz
      · exact e
      · exact h.trans x y z e (r1 z hz)
termination_by l r => l.length + r.length

/-- Merged in two parts: what is ahead in both, and what is behind in both. -/
theorem mrg_append {lt : α → α → Bool} (h : Ord lt) (l2 r2 : List α) : ∀ l1 r1 : List α, (∀ x ∈ l1, ∀ y ∈ r2, lt y x = false) → (∀ y ∈ r1, ∀ x ∈ l2, lt y x = true) → mrg lt (l1 ++ l2) (r1 ++ r2) = mrg lt l1 r1 ++ mrg lt l2 r2
  | [], [], _, _ => by rw [mrg]; rfl
  | [], y :: r1, h1, h2 => by
    have ih := mrg_append h l2 r2 [] r1 h1 (fun y hy => h2 y (List.mem_cons_of_mem _ hy))
    rw [mrg_nil_left] at ih ⊢
    simp only [List.nil_append] at ih ⊢
    cases l2 with
    | nil => rw [mrg_nil_left, mrg_nil_left]
    | cons x l2 =>
      simp only [List.cons_append]
      rw [mrg, if_pos (h2 y List.mem_cons_self x List.mem_cons_self), ih]
  | x :: l1, [], h1, h2 => by
    have ih := mrg_append h l2 r2 l1 [] (fun x hx => h1 x (List.mem_cons_of_mem _ hx)) h2
    rw [mrg_nil_right] at ih ⊢
    simp only [List.nil_append, List.cons_append] at ih ⊢
    cases r2 with
    | nil => rw [mrg_nil_right] at ih ⊢; rw [mrg_nil_right]
    | cons y r2 =>
      have := h1 x List.mem_cons_self y List.mem_cons_self
      rw [mrg, if_neg (by simp [this]), ih]
  | x :: l1, y :: r1, h1, h2 => by
    simp only [List.cons_append]
    rw [mrg, mrg]
    split
    · rw [← List.cons_append, mrg_append h l2 r2 (x :: l1) r1 h1 (fun y hy => h2 y (List.mem_cons_of_mem _ hy))]
      rfl
    · rw [← List.cons_append, mrg_append h l2 r2 l1 (y :: r1) (fun x hx => h1 x (List.mem_cons_of_mem _ hx)) h2]
      rfl
termination_by l1 r1 => l1.length + r1.length

/-- One more at the end of the second row. -/
theorem mrg_ins {lt : α → α → Bool} (h : Ord lt) (z : α) : ∀ l r : List α, Sorted lt l → Sorted lt r → mrg lt l (ins lt z r) = ins lt z (mrg lt l r)
  | [], r, _, _ => by rw [mrg, mrg]
  | x :: l, [], hl, hr => by
    rw [mrg_nil_right, ins_sorted_cons h z x l hl]
    simp only [ins]
    rw [mrg]
    split
    · rw [mrg_nil_right]
    · have := mrg_ins h z l [] (List.pairwise_cons.1 hl).2 hr
      rw [mrg_nil_right] at this
      simp only [ins] at this
      rw [this]
  | x :: l, y :: r, hl, hr => by
    obtain ⟨l1, l2⟩ := List.pairwise_cons.1 hl
    obtain ⟨r1, r2⟩ := List.pairwise_cons.1 hr
    have hm := mrg_sorted h (x :: l) (y :: r) hl hr
    rw [ins_sorted_cons h z y r hr]
    by_cases e : lt y x = true
    · have ih := mrg_ins h z (x :: l) r hl r2
      rw [show mrg lt (x :: l) (y :: r) = y :: mrg lt (x :: l) r from by rw [mrg, if_pos e]] at hm ⊢
      rw [ins_sorted_cons h z y _ hm]
      by_cases f : lt z y = true
      · rw [if_pos f, if_pos f]
        have k : lt z x = true := h.lt_of_lt_le f (h.asymm _ _ e)
        rw [mrg, if_pos k, mrg, if_pos e]
      · rw [if_neg f, if_neg f, mrg, if_pos e, ih]
    · have ih := mrg_ins h z l (y :: r) l2 hr
      rw [ins_sorted_cons h z y r hr] at ih
      rw [show mrg lt (x :: l) (y :: r) = x :: mrg lt l (y :: r) from by rw [mrg, if_neg e]] at hm ⊢
      rw [ins_sorted_cons h z x _ hm]
      have e' : lt y x = false := by simpa using e
      by_cases k : lt z x = true
      · have f : lt z y = true := h.lt_of_lt_le k e'
        rw [if_pos f, if_pos k, mrg, if_pos k, mrg, if_neg e]
      · rw [if_neg k]
        by_cases f : lt z y = true
        · rw [if_pos f] at ih ⊢
          rw [mrg, if_neg k, ih]
        · rw [if_neg f] at ih ⊢
          rw [mrg, if_neg e, ih]
termination_by l r => l.length + r.length

theorem insAll_append {lt : α → α → Bool} (h : Ord lt) (l : List α) : ∀ r : List α, insAll lt (l ++ r) = mrg lt (insAll lt l) (insAll lt r) := by
  intro r
  generalize hn : r.length = n
  induction n generalizing r with
  | zero =>
    have : r = [] := List.eq_nil_of_length_eq_zero hn
    subst this
    rw [List.append_nil, show insAll lt ([] : List α) = [] from rfl, mrg_nil_right]
  | succ n ih =>
    obtain ⟨d, z, rfl⟩ : ∃ d z, r = d ++ [z] := by
      have hne : r ≠ [] := fun e => by rw [e] at hn; cases hn
      exact ⟨_, _, (List.dropLast_concat_getLast hne).symm⟩
    rw [← List.append_assoc, insAll_snoc, insAll_snoc, ih d (by simpa using hn), mrg_ins h _ _ _ (insAll_sorted h l) (insAll_sorted h _)]

/-- A row in order stays as it is. -/
theorem insAll_of_sorted {lt : α → α → Bool} (h : Ord lt) (l : List α) (hs : Sorted lt l) : insAll lt l = l := by
  generalize hn : l.length = n
  induction n generalizing l with
  | zero => rw [List.eq_nil_of_length_eq_zero hn]; rfl
  | succ n ih =>
    obtain ⟨d, z, rfl⟩ : ∃ d z, l = d ++ [z] := by
      have hne : l ≠ [] := fun e => by rw [e] at hn; cases hn
      exact ⟨_, _, (List.dropLast_concat_getLast hne).symm⟩
    obtain ⟨s1, _, s3⟩ := List.pairwise_append.1 hs
    rw [insAll_snoc, ih _ s1 (by simpa using hn)]
    clear hs hn ih
    induction d with
    | nil => rfl
    | cons y d ih =>
      rw [ins_cons, if_neg (by rw [s3 y List.mem_cons_self z (by simp)]; simp), ih (List.pairwise_cons.1 s1).2 (fun a ha => s3 a (List.mem_cons_of_mem _ ha))]
      rfl

end Go.Proofs.YtcjcinipfdameacGreatDoor.St
