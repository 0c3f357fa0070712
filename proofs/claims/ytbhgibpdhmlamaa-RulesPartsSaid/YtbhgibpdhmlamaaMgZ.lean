import Derived.Test.YtbhgibpdhmlamaaMrc
import Derived.Test.YtbhgibpdhmlamaaRuEnvN
import Derived.Test.YtbhgibpdhmlamaaSymRun
import Derived.KernelRfl
import Derived.Test.YtbhgibpdhmlamaaDat
import Derived.OpenShut
import Derived.ChangeArms
import Derived.DataReads
/- The document's Join: the groups' and the filters' loops, all. -/
section
set_option linter.unusedVariables false
set_option linter.unusedSimpArgs false
set_option maxRecDepth 100000
set_option maxHeartbeats 8000000
namespace Go.Proofs.Ytbhgibpdhmlamaa.Am
open St

end Go.Proofs.Ytbhgibpdhmlamaa.Am
end

/- One laid in among rows: what the three appends make; a loop that lays them in. -/
section
set_option linter.unusedVariables false
set_option linter.unusedSimpArgs false
set_option maxRecDepth 100000
set_option maxHeartbeats 8000000
namespace Go.Proofs.Ytbhgibpdhmlamaa.Am
open St

theorem flat_two (A : List (List PV)) (t : Nat) : A.flatten = (A.take t).flatten ++ (A.drop t).flatten := by
  rw [← List.flatten_append, List.take_append_drop]

theorem flat_tl {K : List Kd} {A : List (List PV)} (h : rowsOk K A = true) {t : Nat} (ht : t ≤ A.length) : (A.take t).flatten.length = t * K.length := by
  rw [rows_len (rowsOk_take h t), List.length_take, Nat.min_eq_left ht]

theorem rowsOk_drop {K : List Kd} {A : List (List PV)} (h : rowsOk K A = true) (t : Nat) : rowsOk K (A.drop t) = true := by
  unfold rowsOk at h ⊢
  rw [List.all_eq_true] at h ⊢
  exact fun x hx => h x (List.mem_of_mem_drop hx)

theorem flat_dl {K : List Kd} {A : List (List PV)} (h : rowsOk K A = true) (t : Nat) : (A.drop t).flatten.length = (A.length - t) * K.length := by
  rw [rows_len (rowsOk_drop h t), List.length_drop]

theorem flat_tk {K : List Kd} {A : List (List PV)} (h : rowsOk K A = true) {t : Nat} (ht : t ≤ A.length) : (A.flatten.drop 0).take (t * K.length) = (A.take t).flatten := by
  rw [List.drop_zero, flat_two A t, ← flat_tl h ht, List.take_left]

theorem flat_dr {K : List Kd} {A : List (List PV)} (h : rowsOk K A = true) {t : Nat} (ht : t ≤ A.length) : (A.flatten.drop (0 + t * K.length)).take ((A.length - t) * K.length) = (A.drop t).flatten := by
  rw [Nat.zero_add, flat_two A t, ← flat_tl h ht, List.drop_left, ← flat_dl h t, List.take_length]

theorem mul_split {n t e : Nat} (h : t ≤ n) : t * e + (n - t) * e = n * e := by
  rw [← Nat.add_mul, Nat.add_sub_cancel' h]

theorem tailT_ok {K : List Kd} {A : List (List PV)} {x : List PV} (hA : rowsOk K A = true) (hx : x.length = K.length) (hn : A.length + 1 ≤ 1000000) {t : Nat} (ht : t ≤ A.length) (h0 : 0 < A.length) (KK : List PV → Nat → Option PV) :
    tailT A.flatten A.length (t : Int) K.length ((A.take t).flatten ++ x) (t + 1) KK = KK (A.take t ++ x :: A.drop t).flatten (A.length + 1) := by
  have lA := rows_len hA
  have lT := flat_tl hA ht
  have lD := flat_dl hA t
  have e : (A.take t ++ x :: A.drop t).flatten = (A.take t).flatten ++ x ++ (A.drop t).flatten := by simp
  have eY : ((A.take t).flatten ++ x).length = (t + 1) * K.length := by rw [List.length_append, lT, hx, Nat.add_mul, Nat.one_mul]
  have ms := mul_split (e := K.length) ht
  unfold tailT
  rw [asks_of (by
    simp only [lA, Nat.zero_add, beq_self_eq_true, Bool.true_and, List.all_cons, List.all_nil, id, Bool.and_true, Bool.and_eq_true, decide_eq_true_eq]
    omega)]
  simp only [Int.toNat_natCast, flat_dr hA ht]
  by_cases h1 : t = A.length
  · rw [cond_t (by simp [h1, h0]), e, h1, List.drop_length]
    simp
  · rw [cond_f (by simp [h1]), asks_of (by
      simp only [lA, lD, Nat.zero_add, beq_self_eq_true, Bool.true_and, List.all_cons, List.all_nil, id, Bool.and_true, Bool.and_eq_true, decide_eq_true_eq]
      omega), cond_f (by simp; omega), asks_of (by
      simp only [eY, Nat.zero_add, beq_self_eq_true, Bool.true_and, List.all_cons, List.all_nil, id, Bool.and_true, Bool.and_eq_true, decide_eq_true_eq, Bool.not_eq_true', decide_eq_false_iff_not]
      omega), e, ← eY, List.take_length]
    exact congrArg (KK _) (by omega)

theorem insT2_ok {K : List Kd} {A : List (List PV)} {x : List PV} (hA : rowsOk K A = true) (hx : x.length = K.length) (hn : A.length + 1 ≤ 1000000) {t : Nat} (ht : t ≤ A.length) (h0 : 0 < A.length) {W0 W1 : List Bool} (w0 : W0.all id = true) (w1 : W1.all id = true) (KK : List PV → Nat → Option PV) :
    insT2 A.flatten A.length (t : Int) K.length x W0 W1 KK = KK (A.take t ++ x :: A.drop t).flatten (A.length + 1) := by
  have lA := rows_len hA
  have lT := flat_tl hA ht
  have ms := mul_split (e := K.length) ht
  unfold insT2
  simp only [Int.toNat_natCast, Nat.sub_zero, flat_tk hA ht]
  rw [asks_of (by
    simp only [lA, lT, Nat.zero_add, beq_self_eq_true, Bool.true_and, List.all_cons, List.all_nil, id, Bool.and_true, Bool.and_eq_true, decide_eq_true_eq]
    refine ⟨by omega, by omega, by simp, by omega⟩)]
  by_cases h1 : t = 0
  · subst h1
    rw [cond_t (by rfl), asks_of w0]
    exact tailT_ok (t := 0) hA hx hn ht h0 KK
  · rw [cond_f (by simpa using h1), asks_of (by simp; omega), asks_of w1]
    simp only [List.nil_append, Nat.zero_add]
    rw [asks_of (by simp [lT]; omega), ← lT, List.take_length]
    exact tailT_ok hA hx hn ht h0 KK

/-- From the end backwards to its place. -/
theorem at_loop {lt : List PV → List PV → Bool} {x : List PV} {A : List (List PV)} {L : Nat → Int → Option PV} {fin : Nat → Option PV} {v : Option PV}
    (hs : ∀ s t, t < A.length → L (s + 1) ((t + 1 : Nat) : Int) = bif lt x (A.getD t []) then L s (t : Int) else fin (t + 1))
    (h0 : ∀ s, L (s + 1) 0 = fin 0) (hf : fin (plc lt x A A.length) = v) (s : Nat) : L (s + A.length + 1) (A.length : Int) = v := by
  have key : ∀ t, t ≤ A.length → L (s + t + 1) (t : Int) = fin (plc lt x A t) := by
    intro t
    induction t with
    | zero => intro _; exact h0 s
    | succ t ih =>
      intro ht
      rw [show s + (t + 1) + 1 = (s + t + 1) + 1 from by omega, hs _ t (by omega), plc]
      cases hc : lt x (A.getD t [])
      · rfl
      · exact ih (by omega)
  rw [key _ (Nat.le_refl _), hf]

theorem wrap_pred {t : Nat} (h : t < 9223372036854775807) : IntKind.i64.wrap (((t + 1 : Nat) : Int) - 1) = (t : Int) := by
  rw [show ((t + 1 : Nat) : Int) - 1 = (t : Int) from by omega]
  exact wrap_nat (by omega)

theorem mid_loop {n : Nat} {L : Nat → Nat → Option PV} {v : Option PV} (hs : ∀ q i, i < n → L (q + 1) i = L q (i + 1)) (he : ∀ q, L (q + 1) n = v) (q : Nat) : L (q + n + 1) 0 = v := by
  have key : ∀ k i, i + k = n → L (q + k + 1) i = v := by
    intro k
    induction k with
    | zero => intro i h; rw [show i = n from by omega]; exact he _
    | succ k ih => intro i h; rw [show q + (k + 1) + 1 = (q + k + 1) + 1 from by omega, hs _ i (by omega)]; exact ih (i + 1) (by omega)
  exact key n 0 (by omega)

end Go.Proofs.Ytbhgibpdhmlamaa.Am
end

/- The document's Join: the loops over fronts, groups, filters. -/
section
set_option linter.unusedVariables false
set_option linter.unusedSimpArgs false
set_option maxRecDepth 100000
set_option maxHeartbeats 8000000
namespace Go.Proofs.Ytbhgibpdhmlamaa.Am
open St

/-- What a round stands on. -/
structure CX (J : JS) (r : Rw) (F G I : List (List PV)) : Prop where
  c : oldL 0 J.c = true
  ok : r.ok = true
  f : rowsOk KFr F = true
  g : rowsOk KGr G = true
  i : rowsOk KFi I = true
  bf : J.bf = !Nat.beq F.length 0
  bg : J.bg = !Nat.beq G.length 0
  bi : J.bi = !Nat.beq I.length 0
  af : J.af = F.flatten
  ag : J.ag = G.flatten
  ai : J.ai = I.flatten
  kf : J.kf = F.length
  kg : J.kg = G.length
  ki : J.ki = I.length
  mf : F.length + r.nf ≤ 1000000
  mg : G.length + r.ng ≤ 1000000
  mi : I.length + r.ni ≤ 1000000

theorem ask1 {b : Bool} (h : b = true) : ([b] : List Bool).all id = true := by rw [h]; rfl

end Go.Proofs.Ytbhgibpdhmlamaa.Am
end

/- The document's Join: all rows, laid in one by one. -/
section
set_option linter.unusedVariables false
set_option linter.unusedSimpArgs false
set_option maxRecDepth 100000
set_option maxHeartbeats 8000000
namespace Go.Proofs.Ytbhgibpdhmlamaa.Am
open St

/-- All rows laid in one by one. -/
def rj (L : List Rw) : Rw := Rw.mk' (insAll (ltOf rFr) (joF L)) (insAll (ltOf rGi) (joG L)) (insAll (ltOf rKy) (joI L))

end Go.Proofs.Ytbhgibpdhmlamaa.Am
end

/- law22.alive: the chapter's example. -/
section
set_option linter.unusedVariables false
set_option maxRecDepth 1000000
namespace Go.Proofs.Ytbhgibpdhmlamaa.Am

def isTrue : Option PV → Bool
  | some (.bool true) => true
  | _ => false
theorem isTrue_eq {x : Option PV} (h : isTrue x = true) : x = some (.bool true) := by
  unfold isTrue at h
  split at h
  · rfl
  · cases h

theorem alive22 : apartA EN (runA EN 1000009 60) 5 [] = some (.bool true) := isTrue_eq (by kernel_rfl)

end Go.Proofs.Ytbhgibpdhmlamaa.Am
end

/- The law's table: long rows, with no bound; alive. -/
section
set_option linter.unusedVariables false
set_option linter.unusedSimpArgs false
set_option maxRecDepth 100000
set_option maxHeartbeats 8000000
namespace Go.Proofs.Ytbhgibpdhmlamaa.Am
open St

def gYes (xs : List PV) : Option (Bool × PV) := match xs with
  | [] => some (true, .bool true)
  | _ => none

theorem TR.yes {T : Table} (hT : TR T) : TR (Tadd T 5 gYes) := by
  obtain ⟨K, hT⟩ := hT
  refine ⟨K + 60, Tadd_of (hT.le (runA_le' _ (by omega))) (fun xs v hg => ?_) rfl⟩
  unfold gYes at hg
  split at hg
  · cases hg
    exact apartA_le (runA_le' _ (by omega)) alive22
  · cases hg

/-- Too long? The lengths first. -/
def Rw.longR (r : Rw) : Bool := r.F.any longF || (r.G.any longG || r.I.any longI)
def gLongT (xs : List PV) : Option Tr := match xs with
  | [x, .int .i64 k] => match asRw x with
    | some r => some (.br (gt r.nf k || (gt r.ng k || gt r.ni k)) (.leaf true (.bool true)) (.leaf r.ok0 (.bool r.longR)))
    | none => none
  | _ => none

theorem runLongT (xs : List PV) (t : Tr) (v : PV) (hg : gLongT xs = some t) (hv : t.val = some v) : ∃ H, apartS EN T0 H 1000009 5 6 xs = some v := by
  unfold gLongT at hg
  split at hg
  · rename_i x k
    split at hg
    · rename_i r hr
      cases hg
      simp only [Tr.val, cond_true] at hv
      cases hb : gt r.nf k || (gt r.ng k || gt r.ni k) with
      | true =>
        rw [hb] at hv
        cases hv
        rw [asRw_ok hr]
        refine ⟨H0, (tLo0 1000009 r.fc r.gc r.ic r.nf r.ng r.ni k).trans ?_⟩
        rw [bif_or, bif_or]
        exact cond_t (by simpa only [gt, Bool.or_assoc] using hb)
      | false =>
        rw [hb] at hv
        simp only [cond_false] at hv
        cases ho : r.ok0 with
        | false => rw [ho] at hv; cases hv
        | true =>
          rw [ho] at hv
          cases hv
          refine runLong _ _ ?_
          unfold gLong
          simp only [hr, Option.map_some, ho]
          unfold Rw.long
          rw [hb]
          rfl
    · cases hg
  · cases hg

noncomputable def TL1 : Table := Tadd TQ2 5 gYes
noncomputable def TL2 : Table := TaddT TL1 6 gLongT
end Go.Proofs.Ytbhgibpdhmlamaa.Am
end

/- The law RulesJoin: its walk. -/
section
set_option linter.unusedVariables false
set_option linter.unusedSimpArgs false
set_option maxRecDepth 100000
set_option maxHeartbeats 8000000
namespace Go.Proofs.Ytbhgibpdhmlamaa.Am
open St

def o3 (x : Nat) (r : Rw) : List Bool := [oldL x r.fc, oldL x r.gc, oldL x r.ic]
end Go.Proofs.Ytbhgibpdhmlamaa.Am
end

/- RulesJoin holds at all rows that are well laid. -/
section
set_option linter.unusedVariables false
set_option linter.unusedSimpArgs false
set_option maxRecDepth 100000
set_option maxHeartbeats 8000000
namespace Go.Proofs.Ytbhgibpdhmlamaa.Am
open St

/-- A slice's rows. -/
def slR (K : List Kd) (y : PV) : Prop := ∃ R, rowsOk K R = true ∧ R.flatten = slCells y ∧ R.length = slLen y

theorem okSl_of {K : List Kd} {y : PV} (h : slR K y) (hn : slLen y ≤ 1000000) : okSl K y = true := by
  obtain ⟨R, h1, h2, h3⟩ := h
  unfold okSl
  rw [← h2, ← h3]
  exact rowsC_of h1 (by omega)

/-- Rows as they come in. -/
structure WR (r : Rw) (F G I : List (List PV)) : Prop where
  f : rowsOk KFr F = true
  g : rowsOk KGr G = true
  i : rowsOk KFi I = true
  fc : F.flatten = r.fc
  gc : G.flatten = r.gc
  ic : I.flatten = r.ic
  nf : F.length = r.nf
  ng : G.length = r.ng
  ni : I.length = r.ni
  b8 : ∀ x ∈ F, r8 x
  gk : ∀ x ∈ G, slR KPt (x.getD 6 .nilp) ∧ slR KIn (x.getD 7 .nilp)
  ik : ∀ x ∈ I, slR KPt (x.getD 2 .nilp)

section
variable {r s : Rw} {F G I : List (List PV)}

theorem WR.eF (W : WR r F G I) : r.F = F := by
  unfold Rw.F
  rw [← W.fc, ← W.nf]
  exact chunks_of (K := KFr) W.f
theorem WR.eG (W : WR r F G I) : r.G = G := by
  unfold Rw.G
  rw [← W.gc, ← W.ng]
  exact chunks_of (K := KGr) W.g
theorem WR.eI (W : WR r F G I) : r.I = I := by
  unfold Rw.I
  rw [← W.ic, ← W.ni]
  exact chunks_of (K := KFi) W.i

theorem WR.old (W : WR r F G I) (x : Nat) : (o3 x r).all id = true := by
  unfold o3
  rw [← W.fc, ← W.gc, ← W.ic, rows_oldn W.f, rows_oldn W.g, rows_oldn W.i]
  rfl

theorem gt_false {n : Nat} {k : Nat} (h : gt n (k : Int) = false) : n ≤ k := by
  unfold gt at h
  simp only [decide_eq_false_iff_not] at h
  omega

theorem WR.ok0 (W : WR r F G I) (h : (gt r.nf 40 || (gt r.ng 40 || gt r.ni 40)) = false) : r.ok0 = true := by
  simp only [Bool.or_eq_false_iff] at h
  obtain ⟨h1, h2, h3⟩ := h
  have n1 := gt_false (k := 40) h1
  have n2 := gt_false (k := 40) h2
  have n3 := gt_false (k := 40) h3
  have e1 := W.nf
  have e2 := W.ng
  have e3 := W.ni
  unfold Rw.ok0
  rw [← W.fc, ← W.gc, ← W.ic, ← W.nf, ← W.ng, ← W.ni, rowsC_of W.f (by omega), rowsC_of W.g (by omega), rowsC_of W.i (by omega)]
  rfl

theorem WR.ok (W : WR r F G I) (h : (gt r.nf 40 || (gt r.ng 40 || gt r.ni 40)) = false) (hl : r.longR = false) : r.ok = true := by
  simp only [Bool.or_eq_false_iff] at h
  obtain ⟨h1, h2, h3⟩ := h
  have n1 := gt_false (k := 40) h1
  have n2 := gt_false (k := 40) h2
  have n3 := gt_false (k := 40) h3
  unfold Rw.longR at hl
  rw [W.eF, W.eG, W.eI] at hl
  simp only [Bool.or_eq_false_iff, List.any_eq_false] at hl
  obtain ⟨_, l2, l3⟩ := hl
  have e1 := W.nf
  have e2 := W.ng
  have e3 := W.ni
  have hg : ∀ x ∈ G, grOk x = true := fun x hx => by
    have hb := l2 x hx
    unfold longG at hb
    simp only [Bool.not_eq_true, Bool.or_eq_false_iff] at hb
    obtain ⟨_, _, _, b1, b2⟩ := hb
    have c1 := gt_false (k := 30) b1
    have c2 := gt_false (k := 260) b2
    obtain ⟨g1, g2⟩ := W.gk x hx
    unfold grOk okTb
    rw [(rowsOk_get W.g hx).1, okSl_of g1 (by omega), okSl_of g2 (by omega)]
    rfl
  have hi : ∀ x ∈ I, fiOk x = true := fun x hx => by
    have hb := l3 x hx
    unfold longI at hb
    simp only [Bool.not_eq_true, Bool.or_eq_false_iff] at hb
    obtain ⟨_, _, b1⟩ := hb
    have c1 := gt_false (k := 20) b1
    unfold fiOk
    rw [(rowsOk_get W.i hx).1, okSl_of (W.ik x hx) (by omega)]
    rfl
  unfold Rw.ok
  rw [← W.fc, ← W.gc, ← W.ic, ← W.nf, ← W.ng, ← W.ni, rowsC_of W.f (by omega), rowsA_of W.g (by omega) hg, rowsA_of W.i (by omega) hi]
  rfl
end

theorem all_app {a b : List Bool} (ha : a.all id = true) (hb : b.all id = true) : (a ++ b).all id = true := by rw [List.all_append, ha, hb]; rfl

theorem o3_ok {r : Rw} (h : r.ok = true) (x : Nat) : (o3 x r).all id = true := by
  have lx := Rw.lists h
  unfold o3
  rw [← lx.fc, ← lx.gc, ← lx.ic, rows_oldn lx.f, rows_oldn lx.g, rows_oldn lx.i]
  rfl
theorem cons_ok {b : Bool} {l : List Bool} (h : b = true) (k : l.all id = true) : (b :: l).all id = true := by rw [List.all_cons, h, k]; rfl

theorem Rw.same_refl (r : Rw) : r.same r = true := by
  unfold Rw.same
  rw [Nat.beq_refl, Nat.beq_refl, Nat.beq_refl, eqRows_refl _ fun x _ => eqFr_refl x, eqRows_refl _ fun x _ => sameGr_refl x, eqRows_refl _ fun x _ => sameFi_refl x]
  rfl

end Go.Proofs.Ytbhgibpdhmlamaa.Am
end

/- From how Go's data read to the interpreter's values: numbers, truths, texts, slices, structs, arrays, at any depth. -/
section
set_option linter.unusedVariables false
set_option linter.unusedSimpArgs false
namespace Go.Proofs.Ytbhgibpdhmlamaa.Am

/-- A type, as its cells lie: 'st': parts one behind the other; 'sl': a slice of elements of so many cells. -/
inductive Sh where
  | int (k : IntKind)
  | bool
  | str
  | sl (e : Sh) (s : Nat)
  | st (fs : List Sh)
  deriving Inhabited

def shAll (f : TypeId → Option Sh) : List TypeId → Option (List Sh)
  | [] => some []
  | t :: ts => match f t, shAll f ts with
    | some s, some ss => some (s :: ss)
    | _, _ => none

/-- Where fields that lie one behind the other end. -/
def offsOk (P : Program) : List Field → Nat → Option Nat
  | [], o => some o
  | f :: r, o => if f.offset = o then offsOk P r (o + P.cellsOf f.type) else none

def shOf (P : Program) : Nat → TypeId → Option Sh
  | 0, _ => none
  | d + 1, t => match P.underlying t with
    | some (.int k) => some (.int k)
    | some .bool => some .bool
    | some .string => some .str
    | some (.slice e) => match shOf P d e with
      | some s => some (.sl s (P.cellsOf e))
      | none => none
    | some (.struct fs) => match shAll (shOf P d) (fs.toList.map (·.type)), offsOk P fs.toList 0 with
      | some ss, some o => if o = P.cellsOf t then some (.st ss) else none
      | _, _ => none
    | some (.array n e) => match shOf P d e with
      | some s => if n * P.cellsOf e = P.cellsOf t then some (.st (List.replicate n s)) else none
      | none => none
    | _ => none

mutual
/-- Values of a type, cell by cell. -/
def Sh.Has : Sh → List PV → Prop
  | .int k, xs => ∃ n, xs = [.int k n] ∧ (Lit.int k n).wf = true
  | .bool, xs => ∃ b, xs = [.bool b]
  | .str, xs => ∃ s : List UInt8, xs = [.str s] ∧ s.length ≤ maxLen
  | .sl e s, xs => ∃ rows : List {r : List PV // r.length = s}, xs = [.sl (rows.flatMap Subtype.val) s rows.length none] ∧ ∀ r ∈ rows, e.Has r.val
  | .st fs, xs => Sh.HasL fs xs
def Sh.HasL : List Sh → List PV → Prop
  | [], xs => xs = []
  | s :: ss, xs => ∃ a b, xs = a ++ b ∧ s.Has a ∧ Sh.HasL ss b
end

mutual
theorem Sh.Has.one : ∀ (s : Sh) (xs : List PV), s.Has xs → xs.all PV.oneCell = true
  | .int k, xs, h => by obtain ⟨n, rfl, _⟩ := (by simpa only [Sh.Has] using h); rfl
  | .bool, xs, h => by obtain ⟨b, rfl⟩ := (by simpa only [Sh.Has] using h); rfl
  | .str, xs, h => by obtain ⟨s, rfl, _⟩ := (by simpa only [Sh.Has] using h); rfl
  | .sl e s, xs, h => by obtain ⟨rows, rfl, _⟩ := (by simpa only [Sh.Has] using h); rfl
  | .st fs, xs, h => Sh.HasL.one fs xs (by simpa only [Sh.Has] using h)
theorem Sh.HasL.one : ∀ (ss : List Sh) (xs : List PV), Sh.HasL ss xs → xs.all PV.oneCell = true
  | [], xs, h => by have h : xs = [] := (by simpa only [Sh.HasL] using h); subst h; rfl
  | s :: ss, xs, h => by
    obtain ⟨a, b, rfl, h1, h2⟩ := (by simpa only [Sh.HasL] using h : ∃ a b, xs = a ++ b ∧ s.Has a ∧ Sh.HasL ss b)
    rw [List.all_append, Sh.Has.one s a h1, Sh.HasL.one ss b h2]
    rfl
end

section
variable {H : Type} {enc : TypeId × Value → H} {P : Program} {W : World} {sp : Nat → Bool} {held : Bool}

/-- What a world's cells say. -/
abbrev memG (W : World) : Sealed := fun b o => W.cell? ⟨b, o, none⟩

theorem shAll_cons {f : TypeId → Option Sh} {t : TypeId} {ts : List TypeId} {ss : List Sh} (h : shAll f (t :: ts) = some ss) : ∃ s r, ss = s :: r ∧ f t = some s ∧ shAll f ts = some r := by
  unfold shAll at h
  split at h
  · rename_i s r h1 h2
    cases h
    exact ⟨s, r, rfl, h1, h2⟩
  · cases h

theorem fields_rep {d n : Nat} {cs : List Value} (ih : ∀ (t : TypeId) (s : Sh) (l : List Value) (x : DataW H × List MemPlace), shOf P d t = some s → DataW.trod enc P W 0 sp held n t l = some x → ∃ xs, s.Has xs ∧ Reps (memG W) (fun _ => none) xs l) :
    ∀ (fl : List Field) (ss : List Sh) (o e : Nat), shAll (shOf P d) (fl.map (·.type)) = some ss → offsOk P fl o = some e → (∀ f ∈ fl, ∃ x, DataW.trod enc P W 0 sp held n f.type ((cs.drop f.offset).take (P.cellsOf f.type)) = some x) →
      o ≤ e ∧ ∃ ys, Sh.HasL ss ys ∧ Reps (memG W) (fun _ => none) ys ((cs.drop o).take (e - o))
  | [], ss, o, e, h1, h2, h3 => by
    cases h1
    cases h2
    refine ⟨Nat.le_refl _, [], by simp only [Sh.HasL], ?_⟩
    rw [Nat.sub_self]
    exact Reps.nil
  | f :: fl, ss, o, e, h1, h2, h3 => by
    obtain ⟨s, r, rfl, e1, e2⟩ := shAll_cons h1
    unfold offsOk at h2
    split at h2
    · rename_i ho
      obtain ⟨x, hx⟩ := h3 f (by simp)
      obtain ⟨k1, ys, k2, k3⟩ := fields_rep ih fl r _ e e2 h2 fun f hf => h3 f (by simp [hf])
      obtain ⟨xs, q1, q2⟩ := ih _ _ _ _ e1 hx
      refine ⟨by omega, xs ++ ys, by simp only [Sh.HasL]; exact ⟨xs, ys, rfl, q1, k2⟩, ?_⟩
      have : (cs.drop o).take (e - o) = (cs.drop o).take (P.cellsOf f.type) ++ (cs.drop (o + P.cellsOf f.type)).take (e - (o + P.cellsOf f.type)) := by
        rw [show e - o = P.cellsOf f.type + (e - (o + P.cellsOf f.type)) by omega, List.take_add, List.drop_drop]
      rw [this]
      rw [ho] at q2
      exact q2.append k3
    · cases h2

theorem elems_rep {n : Nat} {e : TypeId} {s : Sh} {cs : List Value} {c : Nat} (ih : ∀ (l : List Value) (x : DataW H × List MemPlace), DataW.trod enc P W 0 sp held n e l = some x → ∃ xs, s.Has xs ∧ Reps (memG W) (fun _ => none) xs l) :
    ∀ (k i : Nat), (∀ j, j < k → ∃ x, DataW.trod enc P W 0 sp held n e ((cs.drop ((i + j) * c)).take c) = some x) →
      ∃ ys, Sh.HasL (List.replicate k s) ys ∧ Reps (memG W) (fun _ => none) ys ((cs.drop (i * c)).take (k * c))
  | 0, i, h => ⟨[], by simp only [List.replicate_zero, Sh.HasL], by rw [Nat.zero_mul]; exact Reps.nil⟩
  | k + 1, i, h => by
    obtain ⟨x, hx⟩ := h 0 (by omega)
    obtain ⟨ys, k2, k3⟩ := elems_rep (s := s) ih k (i + 1) fun j hj => by
      obtain ⟨y, hy⟩ := h (j + 1) (by omega)
      exact ⟨y, by rw [show i + 1 + j = i + (j + 1) by omega]; exact hy⟩
    obtain ⟨xs, q1, q2⟩ := ih _ _ hx
    refine ⟨xs ++ ys, by simp only [List.replicate_succ, Sh.HasL]; exact ⟨xs, ys, rfl, q1, k2⟩, ?_⟩
    have : (cs.drop (i * c)).take ((k + 1) * c) = (cs.drop (i * c)).take c ++ (cs.drop ((i + 1) * c)).take (k * c) := by
      rw [show (k + 1) * c = c + k * c by rw [Nat.add_mul]; omega, List.take_add, List.drop_drop, show i * c + c = (i + 1) * c by rw [Nat.add_mul]; omega]
    rw [this]
    rw [Nat.add_zero] at q2
    exact q2.append k3

/-- A slice's rows, one by one. -/
theorem rows_rep {n : Nat} {e : TypeId} {s : Sh} {c : Nat} {a : Addr} (ih : ∀ (l : List Value) (x : DataW H × List MemPlace), DataW.trod enc P W 0 sp held n e l = some x → ∃ xs, s.Has xs ∧ Reps (memG W) (fun _ => none) xs l) :
    ∀ (k : Nat), (∀ j, j < k → ∃ l x, W.cells? 0 (a.add (j * c)) c = some l ∧ DataW.trod enc P W 0 sp held n e l = some x) →
      ∃ rows : List {r : List PV // r.length = c}, rows.length = k ∧ (∀ r ∈ rows, s.Has r.val) ∧
        ∀ (i : Nat) (hi : i < rows.length) (j : Nat) (x : PV), rows[i].val[j]? = some x → ∃ v, W.cell? ((a.add (i * c)).add j) = some v ∧ Rep (memG W) (fun _ => none) x v
  | 0, h => ⟨[], rfl, fun r hr => (by cases hr), fun i hi => (by simp at hi)⟩
  | k + 1, h => by
    obtain ⟨rows, h1, h2, h3⟩ := rows_rep ih k fun j hj => h j (by omega)
    obtain ⟨l, x, hl, hx⟩ := h k (by omega)
    obtain ⟨xs, q1, q2⟩ := ih _ _ hx
    unfold World.cells? at hl
    rw [if_pos (Nat.zero_le _)] at hl
    have hlen : l.length = c := by simpa using mapM_some_length hl
    have hxs : xs.length = c := by rw [← hlen, q2.1]
    refine ⟨rows ++ [⟨xs, hxs⟩], by simp [h1], fun r hr => ?_, fun i hi j y hy => ?_⟩
    · rcases List.mem_append.1 hr with hr | hr
      · exact h2 r hr
      · simp only [List.mem_singleton] at hr
        subst hr
        exact q1
    · by_cases hk : i < rows.length
      · have e1 : (rows ++ [⟨xs, hxs⟩])[i] = rows[i] := List.getElem_append_left hk
        rw [e1] at hy
        exact h3 i hk j y hy
      · have hik : i = rows.length := by simp at hi; omega
        subst hik
        have e1 : (rows ++ [(⟨xs, hxs⟩ : {r : List PV // r.length = c})])[rows.length] = ⟨xs, hxs⟩ := by simp
        rw [e1] at hy
        have hj : j < c := by rw [← hxs]; exact (List.getElem?_eq_some_iff.1 hy).1
        have hg := mapM_some_get hl j j (by simp [hj])
        have hjl : j < l.length := by omega
        rw [List.getElem?_eq_getElem hjl] at hg
        exact ⟨_, by rw [h1]; exact hg, q2.2 j y l[j] hy (by simp [hjl])⟩

/-- What is read is so, cell by cell. -/
theorem trod_rep : ∀ (n d : Nat) (t : TypeId) (s : Sh) (l : List Value) (x : DataW H × List MemPlace), shOf P d t = some s → DataW.trod enc P W 0 sp held n t l = some x → ∃ xs, s.Has xs ∧ Reps (memG W) (fun _ => none) xs l
  | 0, d, t, s, l, x, hs, h => by simp [DataW.trod] at h
  | n + 1, 0, t, s, l, x, hs, h => by cases hs
  | n + 1, d + 1, t, s, l, x, hs, h => by
    unfold shOf at hs
    split at hs
    · rename_i k hu
      cases hs
      obtain ⟨m, rfl, _, hw⟩ := DataW.trod_int hu h
      exact ⟨[.int k m], by simp only [Sh.Has]; exact ⟨m, rfl, hw⟩, Reps.cons (.int _ _) Reps.nil⟩
    · rename_i hu
      cases hs
      obtain ⟨b, rfl, _⟩ := DataW.trod_bool hu h
      exact ⟨[.bool b], by simp only [Sh.Has]; exact ⟨b, rfl⟩, Reps.cons (.bool _) Reps.nil⟩
    · rename_i hu
      cases hs
      obtain ⟨b, rfl, _, hz⟩ := DataW.trod_string hu h
      obtain ⟨⟨b⟩⟩ := b
      exact ⟨[.str b], by simp only [Sh.Has]; exact ⟨b, rfl, hz⟩, Reps.cons (.str _) Reps.nil⟩
    · rename_i e hu
      split at hs
      · rename_i se hse
        cases hs
        rcases DataW.trod_slice hu h with ⟨rfl, _⟩ | ⟨a, len, cap, elems, rest, n', hn', rfl, _, _, hlc, _, hel, hE, _, _⟩
        · exact ⟨[.sl [] (P.cellsOf e) 0 none], by simp only [Sh.Has]; exact ⟨[], rfl, fun r hr => by cases hr⟩, Reps.cons (.slNil (fun c hc => by cases hc)) Reps.nil⟩
        · have hn' : n' = n := by omega
          subst hn'
          obtain ⟨rows, h1, h2, h3⟩ := rows_rep (P := P) (enc := enc) (sp := sp) (held := held) (n := n') (e := e) (s := se) (c := P.cellsOf e) (a := a) (fun l x hx => trod_rep n' d e se l x hse hx) len fun j hj => by
            have hE := hE j hj
            have hjl : j < elems.length := by omega
            rw [List.getElem?_eq_getElem hjl] at hE
            obtain ⟨l, hl1, hl2⟩ := Option.bind_eq_some_iff.1 hE
            exact ⟨l, _, hl1, hl2⟩
          have he : ∀ r : {r : List PV // r.length = P.cellsOf e}, r.val.length = P.cellsOf e := fun r => r.2
          have hfl : (rows.flatMap Subtype.val).length = rows.length * P.cellsOf e := flat_length (enc := Subtype.val) he rows
          have cell : ∀ (j : Nat) (x : PV), (rows.flatMap Subtype.val)[j]? = some x → ∃ v, a.spot = none ∧ W.cell? ⟨a.block, a.off + j, none⟩ = some v ∧ Rep (memG W) (fun _ => none) x v := by
            intro j x hj
            have hlt := (List.getElem?_eq_some_iff.1 hj).1
            rw [hfl] at hlt
            have hc0 : 0 < P.cellsOf e := Nat.pos_of_ne_zero fun e0 => by
              have e1 : rows.length * P.cellsOf e = rows.length * 0 := congrArg (rows.length * ·) e0
              omega
            have hi : j / P.cellsOf e < rows.length := by rw [Nat.div_lt_iff_lt_mul hc0]; exact hlt
            have hm : j % P.cellsOf e < P.cellsOf e := Nat.mod_lt _ hc0
            have hjj : j = j / P.cellsOf e * P.cellsOf e + j % P.cellsOf e := by rw [Nat.mul_comm]; exact (Nat.div_add_mod _ _).symm
            rw [hjj, flat_get? (enc := Subtype.val) he hi hm] at hj
            obtain ⟨v, hv1, hv2⟩ := h3 _ hi _ x hj
            have hsp : a.spot = none := by
              obtain ⟨ab, ao, asp⟩ := a
              by_cases h0 : j / P.cellsOf e * P.cellsOf e = 0 ∧ j % P.cellsOf e = 0
              · have := World.cell?_spot hv1
                simpa [Addr.add, h0.1, h0.2] using this
              · -- the first element's first cell
                obtain ⟨l0, x0, hl0, _⟩ : ∃ l x, W.cells? 0 ((⟨ab, ao, asp⟩ : Addr).add (0 * P.cellsOf e)) (P.cellsOf e) = some l ∧ DataW.trod enc P W 0 sp held n' e l = some x := by
                  have h00 : 0 < len := by
                    have hi2 := hi
                    rw [h1] at hi2
                    exact Nat.lt_of_le_of_lt (Nat.zero_le _) hi2
                  have hE := hE 0 h00
                  have hjl : 0 < elems.length := by omega
                  rw [List.getElem?_eq_getElem hjl] at hE
                  obtain ⟨l, hl1, hl2⟩ := Option.bind_eq_some_iff.1 hE
                  exact ⟨l, _, hl1, hl2⟩
                unfold World.cells? at hl0
                rw [if_pos (Nat.zero_le _)] at hl0
                have hg := mapM_some_get hl0 0 0 (by simp [hc0])
                have hl0l : l0.length = P.cellsOf e := by simpa using mapM_some_length hl0
                rw [List.getElem?_eq_getElem (by omega)] at hg
                have := World.cell?_spot hg
                simpa [Addr.add] using this
            refine ⟨v, hsp, ?_, hv2⟩
            rw [← hv1]
            congr 1
            obtain ⟨ab, ao, asp⟩ := a
            simp only at hsp
            subst hsp
            have ad : ∀ (o k : Nat), (⟨ab, o, none⟩ : Addr).add k = ⟨ab, o + k, none⟩ := fun o k => by
              unfold Addr.add
              split
              · rename_i h0; subst h0; rfl
              · rfl
            rw [ad, ad]
            simp only [Addr.mk.injEq, and_true, true_and]
            omega
          refine ⟨[.sl (rows.flatMap Subtype.val) (P.cellsOf e) rows.length none], by simp only [Sh.Has]; exact ⟨rows, rfl, h2⟩, Reps.cons ?_ Reps.nil⟩
          rw [← h1] at hlc ⊢
          have one : (rows.flatMap Subtype.val).all PV.oneCell = true := by
            rw [List.all_eq_true]
            intro y hy
            obtain ⟨r, hr, hy⟩ := List.mem_flatMap.1 hy
            exact List.all_eq_true.1 (Sh.Has.one se r.val (h2 r hr)) y hy
          refine .sl a cap (fun j => (W.cell? ⟨a.block, a.off + j, none⟩).getD (.bool false)) hfl hlc (fun c hc => by cases hc) (fun j x hj => ?_) (fun j x hj => ?_)
          · obtain ⟨v, c1, c2, c3⟩ := cell j x hj
            refine ⟨c1, ?_, List.all_eq_true.1 one x (List.mem_of_getElem? hj)⟩
            show W.cell? ⟨a.block, a.off + j, none⟩ = _
            rw [c2]; rfl
          · obtain ⟨v, c1, c2, c3⟩ := cell j x hj
            rw [c2]
            exact c3
      · cases hs
    · rename_i fs hu
      split at hs
      · rename_i ss o h1 h2
        split at hs
        · rename_i ho
          cases hs
          obtain ⟨xs, n', hn', _, hlen, hxl, hF⟩ := DataW.trod_struct hu h
          have hn' : n' = n := by omega
          subst hn'
          obtain ⟨_, ys, k1, k2⟩ := fields_rep (n := n') (cs := l) (fun t s l x h1 h2 => trod_rep n' d t s l x h1 h2) fs.toList ss 0 o h1 h2 fun f hf => by
            obtain ⟨i, hi, rfl⟩ := List.getElem_of_mem hf
            have hi' : i < fs.size := by simpa using hi
            have := hF i (fs.toList[i]) (by simp [hi'])
            have hix : i < xs.length := by omega
            rw [List.getElem?_eq_getElem hix] at this
            exact ⟨_, this⟩
          refine ⟨ys, by simp only [Sh.Has]; exact k1, ?_⟩
          rw [List.drop_zero, Nat.sub_zero, ho, ← hlen, List.take_length] at k2
          exact k2
        · cases hs
      · cases hs
    · rename_i m e hu
      split at hs
      · rename_i se hse
        split at hs
        · rename_i hm
          cases hs
          obtain ⟨xs, n', hn', _, hlen, hxl, hF⟩ := DataW.trod_array hu h
          have hn' : n' = n := by omega
          subst hn'
          obtain ⟨ys, k1, k2⟩ := elems_rep (n := n') (cs := l) (c := P.cellsOf e) (s := se) (fun l x h2 => trod_rep n' d e se l x hse h2) m 0 fun j hj => by
            have := hF j hj
            have hix : j < xs.length := by omega
            rw [List.getElem?_eq_getElem hix] at this
            exact ⟨_, by rw [Nat.zero_add]; exact this⟩
          refine ⟨ys, by simp only [Sh.Has]; exact k1, ?_⟩
          rw [Nat.zero_mul, List.drop_zero, hm, ← hlen, List.take_length] at k2
          exact k2
        · cases hs
      · cases hs
    · cases hs

end

end Go.Proofs.Ytbhgibpdhmlamaa.Am
end

/- What the arguments read as: rows, each list's rows of their kinds; bytes in range. -/
section
set_option linter.unusedVariables false
set_option linter.unusedSimpArgs false
set_option maxRecDepth 100000
set_option maxHeartbeats 4000000
namespace Go.Proofs.Ytbhgibpdhmlamaa.Am
open St

mutual
def Sh.kd : Sh → List Kd
  | .int k => [.int k]
  | .bool => [.bool]
  | .str => [.str]
  | .sl _ s => [.sl s]
  | .st fs => Sh.kdL fs
def Sh.kdL : List Sh → List Kd
  | [] => []
  | s :: ss => s.kd ++ Sh.kdL ss
end

theorem wk_append : ∀ {K K' : List Kd} {xs ys : List PV}, wk K xs = true → wk K' ys = true → wk (K ++ K') (xs ++ ys) = true
  | [], K', [], ys, _, h => h
  | [], K', _ :: _, ys, h, _ => by cases h
  | _ :: _, K', [], ys, h, _ => by cases h
  | k :: K, K', x :: xs, ys, h, h' => by
    simp only [wk, Bool.and_eq_true, List.cons_append] at h ⊢
    exact ⟨h.1, wk_append h.2 h'⟩

theorem old_rows {c : Nat} : ∀ (rows : List {r : List PV // r.length = c}), (∀ r ∈ rows, oldL 0 r.val = true) → oldL 0 (rows.flatMap Subtype.val) = true
  | [], _ => rfl
  | r :: rows, h => by
    rw [List.flatMap_cons, oldL_append, h r (by simp), old_rows rows fun r hr => h r (by simp [hr])]
    rfl

mutual
theorem Sh.Has.wk : ∀ (s : Sh) (xs : List PV), s.Has xs → Am.wk s.kd xs = true ∧ oldL 0 xs = true
  | .int k, xs, h => by obtain ⟨n, rfl, _⟩ := (by simpa only [Sh.Has] using h); exact ⟨by simp [Sh.kd, Am.wk, Kd.wk], rfl⟩
  | .bool, xs, h => by obtain ⟨b, rfl⟩ := (by simpa only [Sh.Has] using h); exact ⟨rfl, rfl⟩
  | .str, xs, h => by obtain ⟨s, rfl, _⟩ := (by simpa only [Sh.Has] using h); exact ⟨rfl, rfl⟩
  | .sl e s, xs, h => by
    obtain ⟨rows, rfl, hr⟩ := (by simpa only [Sh.Has] using h)
    refine ⟨by simp [Sh.kd, Am.wk, Kd.wk], ?_⟩
    have := old_rows rows fun r hm => (Sh.Has.wk e r.val (hr r hm)).2
    simp only [oldL, oldV, this, Bool.and_self]
  | .st fs, xs, h => by
    simp only [Sh.Has] at h
    exact Sh.HasL.wk fs xs h
theorem Sh.HasL.wk : ∀ (ss : List Sh) (xs : List PV), Sh.HasL ss xs → Am.wk (Sh.kdL ss) xs = true ∧ oldL 0 xs = true
  | [], xs, h => by simp only [Sh.HasL] at h; subst h; exact ⟨rfl, rfl⟩
  | s :: ss, xs, h => by
    simp only [Sh.HasL] at h
    obtain ⟨a, b, rfl, h1, h2⟩ := h
    obtain ⟨k1, k2⟩ := Sh.Has.wk s a h1
    obtain ⟨k3, k4⟩ := Sh.HasL.wk ss b h2
    exact ⟨by simp only [Sh.kdL]; exact wk_append k1 k3, by rw [oldL_append, k2, k4]; rfl⟩
end

/-- A slice that came in: its rows. -/
theorem rows_has {s : Sh} {c : Nat} (rows : List {r : List PV // r.length = c}) (h : ∀ r ∈ rows, s.Has r.val) : rowsOk s.kd (rows.map Subtype.val) = true ∧ rows.flatMap Subtype.val = (rows.map Subtype.val).flatten ∧ (rows.map Subtype.val).length = rows.length := by
  refine ⟨?_, by rw [List.flatMap_def], by simp⟩
  unfold rowsOk
  rw [List.all_eq_true]
  intro r hr
  obtain ⟨x, hx, rfl⟩ := List.mem_map.1 hr
  have := Sh.Has.wk s x.val (h x hx)
  simp only [this.1, this.2, Bool.and_self]

/-! ### the cells' own slices, and their numbers' ranges -/

mutual
def Sh.sk : Sh → List (Option (List Kd))
  | .int _ => [none]
  | .bool => [none]
  | .str => [none]
  | .sl e _ => [some e.kd]
  | .st fs => Sh.skL fs
def Sh.skL : List Sh → List (Option (List Kd))
  | [] => []
  | s :: ss => s.sk ++ Sh.skL ss
end

def cellR : Option (List Kd) → PV → Prop
  | none, x => ∀ k n, x = .int k n → (Lit.int k n).wf = true
  | some K, x => slR K x
def wkS : List (Option (List Kd)) → List PV → Prop
  | [], [] => True
  | o :: os, x :: xs => cellR o x ∧ wkS os xs
  | _, _ => False

theorem wkS_append : ∀ {a b : List (Option (List Kd))} {xs ys : List PV}, wkS a xs → wkS b ys → wkS (a ++ b) (xs ++ ys)
  | [], b, [], ys, _, h => h
  | [], b, _ :: _, ys, h, _ => by cases h
  | _ :: _, b, [], ys, h, _ => by cases h
  | o :: a, b, x :: xs, ys, h, h' => ⟨h.1, wkS_append h.2 h'⟩

theorem wkS_get : ∀ {os : List (Option (List Kd))} {xs : List PV} {j : Nat} {o : Option (List Kd)}, wkS os xs → os[j]? = some o → cellR o (xs.getD j .nilp)
  | [], _, j, o, _, h => by cases j <;> cases h
  | _ :: _, [], _, _, h, _ => by cases h
  | p :: os, x :: xs, 0, o, h, e => by
    cases e
    exact h.1
  | p :: os, x :: xs, j + 1, o, h, e => by
    have := wkS_get (j := j) h.2 (by simpa using e)
    simpa using this

theorem slR_rows {s : Sh} {c : Nat} (rows : List {r : List PV // r.length = c}) (h : ∀ r ∈ rows, s.Has r.val) : slR s.kd (.sl (rows.flatMap Subtype.val) c rows.length none) := by
  obtain ⟨h1, h2, h3⟩ := rows_has rows h
  exact ⟨rows.map Subtype.val, h1, h2.symm, h3⟩

mutual
theorem Sh.Has.wkS : ∀ (s : Sh) (xs : List PV), s.Has xs → Am.wkS s.sk xs
  | .int k, xs, h => by
    obtain ⟨n, rfl, hw⟩ := (by simpa only [Sh.Has] using h)
    refine ⟨fun k' n' e => ?_, trivial⟩
    cases e
    exact hw
  | .bool, xs, h => by
    obtain ⟨b, rfl⟩ := (by simpa only [Sh.Has] using h)
    exact ⟨fun k' n' e => (by cases e), trivial⟩
  | .str, xs, h => by
    obtain ⟨s, rfl, _⟩ := (by simpa only [Sh.Has] using h)
    exact ⟨fun k' n' e => (by cases e), trivial⟩
  | .sl e s, xs, h => by
    obtain ⟨rows, rfl, hr⟩ := (by simpa only [Sh.Has] using h)
    exact ⟨slR_rows rows hr, trivial⟩
  | .st fs, xs, h => by
    simp only [Sh.Has] at h
    exact Sh.HasL.wkS fs xs h
theorem Sh.HasL.wkS : ∀ (ss : List Sh) (xs : List PV), Sh.HasL ss xs → Am.wkS (Sh.skL ss) xs
  | [], xs, h => by simp only [Sh.HasL] at h; subst h; exact trivial
  | s :: ss, xs, h => by
    simp only [Sh.HasL] at h
    obtain ⟨a, b, rfl, h1, h2⟩ := h
    exact wkS_append (Sh.Has.wkS s a h1) (Sh.HasL.wkS ss b h2)
end

theorem wk_get : ∀ {K : List Kd} {xs : List PV} {j : Nat} {k : Kd}, wk K xs = true → K[j]? = some k → k.wk (xs.getD j .nilp) = true
  | [], _, j, k, _, h => by cases j <;> cases h
  | _ :: _, [], _, _, h, _ => by cases h
  | p :: K, x :: xs, 0, k, h, e => by
    cases e
    simp only [wk, Bool.and_eq_true] at h
    exact h.1
  | p :: K, x :: xs, j + 1, k, h, e => by
    simp only [wk, Bool.and_eq_true] at h
    have := wk_get (j := j) h.2 (by simpa using e)
    simpa using this

theorem r8_of {x : List PV} (h : wk KFr x = true) (hs : wkS (List.replicate 26 none) x) : r8 x := by
  intro i hi
  have hk : KFr[2 + i]? = some (.int .u8) := by
    have key : ∀ i, i < 16 → KFr[2 + i]? = some (.int .u8) := by
      intro i hi
      match i, hi with
      | 0, _ => rfl
      | 1, _ => rfl
      | 2, _ => rfl
      | 3, _ => rfl
      | 4, _ => rfl
      | 5, _ => rfl
      | 6, _ => rfl
      | 7, _ => rfl
      | 8, _ => rfl
      | 9, _ => rfl
      | 10, _ => rfl
      | 11, _ => rfl
      | 12, _ => rfl
      | 13, _ => rfl
      | 14, _ => rfl
      | 15, _ => rfl
      | i + 16, h => exact absurd h (by omega)
    exact key i hi
  have hn : (List.replicate 26 (none : Option (List Kd)))[2 + i]? = some none := by
    rw [List.getElem?_replicate]
    rw [if_pos (by omega)]
  have h1 := wk_get h hk
  have h2 := wkS_get hs hn
  show 0 ≤ asI (x.getD (1 + 1 + i) .nilp) ∧ asI (x.getD (1 + 1 + i) .nilp) < 256
  rw [show 1 + 1 + i = 2 + i from by omega]
  generalize x.getD (2 + i) .nilp = y at h1 h2 ⊢
  cases y with
  | int k n =>
    have hkk : k = .u8 := by
      have : IntKind.u8 = k := by simpa [Kd.wk] using h1
      exact this.symm
    subst hkk
    have hw := h2 _ _ rfl
    simp only [Lit.wf, Bool.and_eq_true, decide_eq_true_eq] at hw
    obtain ⟨w1, w2⟩ := hw
    simp [IntKind.min, IntKind.max, IntKind.signed, IntKind.bits] at w1 w2
    show 0 ≤ n ∧ n < 256
    omega
  | _ => simp [Kd.wk] at h1

end Go.Proofs.Ytbhgibpdhmlamaa.Am
end

/- The document's order of keys, each once: its walk. -/
section
set_option linter.unusedVariables false
set_option linter.unusedSimpArgs false
set_option maxRecDepth 100000
set_option maxHeartbeats 8000000
namespace Go.Proofs.Ytbhgibpdhmlamaa.Am
open St

def HKs : FuncId → Hint := fun f t => bif Nat.beq f 17 then (bif Nat.beq t 44 then [some false] else bif Nat.beq t 45 || (Nat.beq t 48 || Nat.beq t 52) then [none, some false] else []) else []

def curK (b : Bool) (k : Nat) : PV := bif b then .osl 0 k 0 2 k none else .sl [] 2 0 (some 0)
def slK (c : List PV) (n : Nat) (b : Bool) (k : Nat) (i : Int) : List (Nat × PV) := [(0, .sl c 2 n none), (2, .nils), (3, curK b k), (7, .sl [] 2 0 (some 0)), (8, .sl c 2 n none), (9, vI n), (10, vI i)]
def obK (b : Bool) (a : List PV) (k : Nat) : Store := accO b a 2 k
noncomputable def LK (N m : Nat) (c : List PV) (n : Nat) (b : Bool) (a : List PV) (k : Nat) (i : Int) : Option PV := loopS EN TRA HKs N 5 17 Try.f17 [1, 1, 0, 1, 0] (patOf (sparse 55 0 (slK [] 0 false 0 0))) 0 m (sparse 55 0 (slK c n b k i)) (obK b a k)

noncomputable def recK (N : Nat) : RecS PV := recS EN TRA HKs N 5
noncomputable def cK (N : Nat) (c : Code) : Slots → Store → KC PV → Option PV := codeS EN TRA (recK N) (HKs 17) 0 N c
noncomputable def aK (N : Nat) (c : Code) (p : List Nat) (k : KC PV) : KC PV := afterS EN TRA (recK N) (HKs 17) 0 N c p k
noncomputable def contK (N : Nat) (pat : List Bool) (n0 : Nat) (body : Code) (q : Nat) (e : KC PV) : KC PV := fun o s1 σ1 => match o with
  | .norm => trimS EN 0 pat n0 s1 σ1 fun s2 σ2 => iterS EN 0 pat n0 (cK N body) q s2 σ2 e
  | .exit j => e (.exit j) s1 σ1
  | .ret => e .ret s1 σ1
  | .goto l => e (.goto l) s1 σ1
noncomputable def endKs (N : Nat) : KC PV := aK N (bodyOf Try.f17) [1, 1, 0, 1, 0] (endK EN Try.f17 (lastK EN 17))
noncomputable def bodyK : Code := subC (bodyOf Try.f17) [1, 1, 0, 1, 0, 0]
noncomputable def patK : List Bool := patOf (sparse 55 0 (slK [] 0 false 0 0))
def slKa (c : List PV) (n : Nat) (b : Bool) (k : Nat) (i : Int) (row : List PV) (at' : Int) : List (Nat × PV) := [(0, .sl c 2 n none), (2, .nils), (3, curK b k), (5, .ptr (nb b) 1 0), (6, vI at'), (7, .sl [] 2 0 (some 0)), (8, .sl c 2 n none), (9, vI n), (10, vI i), (11, .bool true), (12, .eptr c (i.toNat * 2)), (13, .agg row), (14, curK b k), (15, vI k)]
noncomputable def LKa (N m q : Nat) (c : List PV) (n : Nat) (b : Bool) (a : List PV) (k : Nat) (i : Int) (row : List PV) (at' : Int) : Option PV :=
  iterS EN 0 (patOf (sparse 55 0 (slKa [] 0 false 0 0 [] 0))) (nb b + 1) (cK N (subC bodyK [1, 1, 0, 0, 1, 1, 0, 0, 0])) q (sparse 55 0 (slKa c n b k i row at')) (obK b a k ++ [bxN row 2])
    (aK N bodyK [1, 1, 0, 0, 1, 1, 0, 0] (contK N patK 0 bodyK m (endKs N)))
def rowKk (c : List PV) (i : Int) : List PV := shapeAt KKy c (i.toNat * 2)

def eqK2 (x y : List PV) : Bool := asS (x.getD 0 .nilp) == asS (y.getD 0 .nilp) && (asS (x.getD 1 .nilp) == asS (y.getD 1 .nilp) && true)
def exitK (b : Bool) (a : List PV) (k : Nat) : Option PV := asks (ifb b (sealAsk a k 2)) <| asks (ifb b [oldL 0 ((a.drop 0).take (k * 2))]) <| some (.sl (bif b then (a.drop 0).take (k * 2) else []) 2 (bif b then k else 0) none)

theorem k00 (N : Nat) (c : List PV) (n : Nat) : apartS EN TRA HKs N 5 17 [.sl c 2 n none] = LK N N c n false [] 0 0 := by kernel_rfl

theorem kK (N m : Nat) (c : List PV) (n : Nat) (a : List PV) (k : Nat) (i : Int) : LK N (m + 1) c n true a k i =
  (bif decide (i < (n : Int)) then
    (asks [decide (0 ≤ i) && decide (i < (n : Int)), okAt KKy c (i.toNat * 2)] <| LKa N m N c n true a k i (rowKk c i) k)
  else exitK true a k) := by kernel_rfl

theorem kK0 (N m : Nat) (c : List PV) (n : Nat) (i : Int) : LK N (m + 1) c n false [] 0 i =
  (bif decide (i < (n : Int)) then
    (asks [decide (0 ≤ i) && decide (i < (n : Int)), okAt KKy c (i.toNat * 2)] <| LKa N m N c n false [] 0 i (rowKk c i) 0)
  else exitK false [] 0) := by kernel_rfl

noncomputable def insK (N m : Nat) (c : List PV) (n : Nat) (a : List PV) (k : Nat) (i at' : Int) : Option PV :=
  insT a k at' 2 (rowKk c i) fun ac k' => asks [oldL 0 c, oldL 0 c] <| asks [oldL 0 ac] <| LK N m c n true ac k' (IntKind.i64.wrap (i + 1))
noncomputable def restK (N m : Nat) (c : List PV) (n : Nat) (a : List PV) (k : Nat) (i at' : Int) : Option PV :=
  bif decide (at' > 0) then
    (asks [decide (0 ≤ IntKind.i64.wrap (at' - 1)) && decide (IntKind.i64.wrap (at' - 1) < (k : Int)), k == k, okAt KKy a (0 + (IntKind.i64.wrap (at' - 1)).toNat * 2)] <|
    bif eqK2 (shapeAt KKy a (0 + (IntKind.i64.wrap (at' - 1)).toNat * 2)) (rowKk c i) then
      (asks [oldL 0 c, oldL 0 c] <| asks [oldL 0 a] <| LK N m c n true a k (IntKind.i64.wrap (i + 1)))
    else insK N m c n a k i at')
  else insK N m c n a k i at'

theorem kA (N m q : Nat) (c : List PV) (n : Nat) (a : List PV) (k : Nat) (i at' : Int) : LKa N m (q + 1) c n true a k i (rowKk c i) at' =
  (bif decide (at' > 0) then
    (asks [decide (0 ≤ IntKind.i64.wrap (at' - 1)) && decide (IntKind.i64.wrap (at' - 1) < (k : Int)), k == k, okAt KKy a (0 + (IntKind.i64.wrap (at' - 1)).toNat * 2)] <|
    bif decide (rKy (rowKk c i) (shapeAt KKy a (0 + (IntKind.i64.wrap (at' - 1)).toNat * 2)) < 0) then
      (asks [oldL 2 c, oldL 2 c, oldL 2 c] <| asks [oldL 0 a] <| LKa N m q c n true a k i (rowKk c i) (IntKind.i64.wrap (at' - 1)))
    else restK N m c n a k i at')
  else restK N m c n a k i at') := by kernel_rfl

theorem kA0 (N m q : Nat) (c : List PV) (n : Nat) (i : Int) : LKa N m (q + 1) c n false [] 0 i (rowKk c i) 0 =
  (asks [oldL 0 c, oldL 0 c] <| asks [oldL 0 (rowKk c i)] <| LK N m c n true (rowKk c i) 1 (IntKind.i64.wrap (i + 1))) := by kernel_rfl

end Go.Proofs.Ytbhgibpdhmlamaa.Am
end

/- The document's order of keys, each once: what it answers. -/
section
set_option linter.unusedVariables false
set_option linter.unusedSimpArgs false
set_option maxRecDepth 100000
set_option maxHeartbeats 8000000
namespace Go.Proofs.Ytbhgibpdhmlamaa.Am
open St

/-- A key among keys, unless it is there. -/
def insU (x : List PV) (A : List (List PV)) : List (List PV) :=
  bif decide (0 < plc (ltOf rKy) x A A.length) && eqK2 (A.getD (plc (ltOf rKy) x A A.length - 1) []) x then A
  else A.take (plc (ltOf rKy) x A A.length) ++ x :: A.drop (plc (ltOf rKy) x A A.length)
def sortU (R : List (List PV)) : List (List PV) := R.foldl (fun A x => insU x A) []

theorem sortU_snoc (R : List (List PV)) (x : List PV) : sortU (R ++ [x]) = insU x (sortU R) := by simp [sortU]

theorem insU_mem {x y : List PV} {A : List (List PV)} (h : y ∈ insU x A) : y = x ∨ y ∈ A := by
  unfold insU at h
  cases hc : decide (0 < plc (ltOf rKy) x A A.length) && eqK2 (A.getD (plc (ltOf rKy) x A A.length - 1) []) x with
  | true => rw [hc] at h; exact Or.inr h
  | false =>
    rw [hc, cond_false, List.mem_append, List.mem_cons] at h
    rcases h with h | h | h
    · exact Or.inr (List.mem_of_mem_take h)
    · exact Or.inl h
    · exact Or.inr (List.mem_of_mem_drop h)

theorem sortU_mem : ∀ (R A : List (List PV)) (y : List PV), y ∈ R.foldl (fun A x => insU x A) A → y ∈ R ∨ y ∈ A
  | [], A, y, h => Or.inr h
  | x :: R, A, y, h => by
    rcases sortU_mem R (insU x A) y h with h | h
    · exact Or.inl (List.mem_cons_of_mem _ h)
    · rcases insU_mem h with rfl | h
      · exact Or.inl List.mem_cons_self
      · exact Or.inr h

theorem insU_len (x : List PV) (A : List (List PV)) : (insU x A).length ≤ A.length + 1 := by
  unfold insU
  cases decide (0 < plc (ltOf rKy) x A A.length) && eqK2 (A.getD (plc (ltOf rKy) x A A.length - 1) []) x with
  | true => exact Nat.le_succ _
  | false =>
    rw [cond_false, List.length_append, List.length_cons, List.length_take, List.length_drop]
    have := plc_le (ltOf rKy) x A A.length
    omega

theorem sortU_len : ∀ (R A : List (List PV)), (R.foldl (fun A x => insU x A) A).length ≤ A.length + R.length
  | [], A => by simp
  | x :: R, A => by
    have h1 := sortU_len R (insU x A)
    have h2 := insU_len x A
    rw [List.foldl_cons, List.length_cons]
    omega

theorem sortU_ok {R : List (List PV)} (h : rowsOk KKy R = true) : rowsOk KKy (sortU R) = true := by
  unfold rowsOk at h ⊢
  rw [List.all_eq_true] at h ⊢
  intro y hy
  rcases sortU_mem R [] y hy with hy | hy
  · exact h y hy
  · cases hy

theorem sk_loop {N n : Nat} {R : List (List PV)} (hN : 1000002 ≤ N) (hR : rowsOk KKy R = true) (hl : R.length = n) (hn : n ≤ 1000000) (q : Nat) :
    LK N (q + n + 1) R.flatten n false [] 0 0 = some (.sl (sortU R).flatten 2 (sortU R).length none) := by
  have hO : ∀ x, oldL x R.flatten = true := rows_oldn hR
  refine mid_loop (L := fun q i => LK N q R.flatten n (!Nat.beq (sortU (R.take i)).length 0) (sortU (R.take i)).flatten (sortU (R.take i)).length (i : Int)) ?_ ?_ q
  · intro q i hi
    have hi' : i < R.length := by omega
    have hA : rowsOk KKy (sortU (R.take i)) = true := sortU_ok (rowsOk_take hR i)
    have hlen : (sortU (R.take i)).length ≤ i := by
      have := sortU_len (R.take i) []
      rw [List.length_take, List.length_nil] at this
      exact Nat.le_trans this (by omega)
    have hnx : sortU (R.take (i + 1)) = insU R[i] (sortU (R.take i)) := by rw [List.take_succ_eq_append_getElem hi', sortU_snoc]
    have hAn : rowsOk KKy (sortU (R.take (i + 1))) = true := sortU_ok (rowsOk_take hR (i + 1))
    have hrow : rowKk R.flatten (i : Int) = R[i] := by
      unfold rowKk
      rw [Int.toNat_natCast, show (2 : Nat) = KKy.length from rfl]
      exact (rows_at0 hR hi').2
    have hxl : R[i].length = KKy.length := wk_len (rowsOk_get hR (List.getElem_mem hi')).1
    have hask : ([decide (0 ≤ (i : Int)) && decide ((i : Int) < (n : Int)), okAt KKy R.flatten ((i : Int).toNat * 2)]).all id = true := by
      rw [Int.toNat_natCast, show (2 : Nat) = KKy.length from rfl]
      exact cons_ok (inside hi) (cons_ok (rows_at0 hR hi').1 rfl)
    show LK N (q + 1) R.flatten n (!Nat.beq (sortU (R.take i)).length 0) (sortU (R.take i)).flatten (sortU (R.take i)).length (i : Int) = LK N q R.flatten n (!Nat.beq (sortU (R.take (i + 1))).length 0) (sortU (R.take (i + 1))).flatten (sortU (R.take (i + 1))).length ((i + 1 : Nat) : Int)
    generalize hAe : sortU (R.take i) = A at *
    obtain ⟨s0, rfl⟩ : ∃ s0, N = s0 + 1 := ⟨N - 1, by omega⟩
    cases A with
    | nil =>
      have e1 : insU R[i] [] = [R[i]] := by simp [insU, plc]
      rw [hnx, e1]
      show LK (s0 + 1) (q + 1) R.flatten n false [] 0 (i : Int) = LK (s0 + 1) q R.flatten n true [R[i]].flatten 1 ((i + 1 : Nat) : Int)
      rw [kK0, cond_t (show decide ((i : Int) < (n : Int)) = true from by simp; omega), asks_of hask, kA0, hrow, asks_of (cons_ok (hO 0) (cons_ok (hO 0) rfl)), asks_of (ask1 (rowsOk_get hR (List.getElem_mem hi')).2), wrap_succ (by omega : i < 9223372036854775807)]
      simp
    | cons y A =>
      have hb : (!Nat.beq (y :: A).length 0) = true := rfl
      rw [hb, kK, cond_t (show decide ((i : Int) < (n : Int)) = true from by simp; omega), asks_of hask]
      obtain ⟨s, hs⟩ : ∃ s, s0 + 1 = s + (y :: A).length + 1 := ⟨s0 - (y :: A).length, by omega⟩
      have hpl := plc_le (ltOf rKy) R[i] (y :: A) (y :: A).length
      have hins : ∀ t, t ≤ (y :: A).length → ∀ v, (fun (ac : List PV) (k' : Nat) => LK (s0 + 1) q R.flatten n true ac k' ((i + 1 : Nat) : Int)) ((y :: A).take t ++ R[i] :: (y :: A).drop t).flatten ((y :: A).length + 1) = v → oldL 0 ((y :: A).take t ++ R[i] :: (y :: A).drop t).flatten = true → insK (s0 + 1) q R.flatten n (y :: A).flatten (y :: A).length (i : Int) (t : Int) = v := by
        intro t ht v hv ho
        unfold insK
        rw [insT_eq, hrow, show (2 : Nat) = KKy.length from rfl, insT2_ok (K := KKy) hA hxl (by omega) ht (by simp) rfl rfl, asks_of (cons_ok (hO 0) (cons_ok (hO 0) rfl)), asks_of (ask1 ho), wrap_succ (by omega : i < 9223372036854775807)]
        exact hv
      have main := at_loop (lt := ltOf rKy) (x := R[i]) (A := y :: A) (L := fun s t => LKa (s0 + 1) q s R.flatten n true (y :: A).flatten (y :: A).length (i : Int) (rowKk R.flatten (i : Int)) t) (fin := fun t => restK (s0 + 1) q R.flatten n (y :: A).flatten (y :: A).length (i : Int) (t : Int)) (v := LK (s0 + 1) q R.flatten n (!Nat.beq (sortU (R.take (i + 1))).length 0) (sortU (R.take (i + 1))).flatten (sortU (R.take (i + 1))).length ((i + 1 : Nat) : Int)) ?_ ?_ ?_ s
      · rw [← hs] at main
        exact main
      · intro s t ht
        have pa := rows_at hA ht
        show LKa (s0 + 1) q (s + 1) R.flatten n true (y :: A).flatten (y :: A).length (i : Int) (rowKk R.flatten (i : Int)) ((t + 1 : Nat) : Int) = _
        rw [kA, cond_t (show decide (((t + 1 : Nat) : Int) > 0) = true from by simp), wrap_pred (by omega : t < 9223372036854775807)]
        simp only [Int.toNat_natCast]
        have e2 : (2 : Nat) = KKy.length := rfl
        rw [asks_of (l := [decide (0 ≤ (t : Int)) && decide ((t : Int) < ((y :: A).length : Int)), (y :: A).length == (y :: A).length, okAt KKy (y :: A).flatten (0 + t * 2)]) (cons_ok (inside ht) (cons_ok (by simp) (cons_ok pa.1 rfl)))]
        have hcell : rKy (rowKk R.flatten (i : Int)) (shapeAt KKy (y :: A).flatten (0 + t * 2)) = rKy R[i] (y :: A)[t] := by rw [hrow, e2, pa.2]
        simp only [hcell]
        rw [getD_at ht, show ltOf rKy R[i] (y :: A)[t] = decide (rKy R[i] (y :: A)[t] < 0) from rfl]
        generalize decide (rKy R[i] (y :: A)[t] < 0) = b
        cases b
        · rfl
        · simp only [cond_true]
          rw [asks_of (cons_ok (hO 2) (cons_ok (hO 2) (cons_ok (hO 2) rfl))), asks_of (ask1 (rows_old hA))]
      · intro s
        show LKa (s0 + 1) q (s + 1) R.flatten n true (y :: A).flatten (y :: A).length (i : Int) (rowKk R.flatten (i : Int)) ((0 : Nat) : Int) = _
        rw [kA, cond_f (by simp)]
      · have hAn' := hAn
        rw [hnx] at hAn' ⊢
        unfold insU at hAn' ⊢
        generalize hp : plc (ltOf rKy) R[i] (y :: A) (y :: A).length = p at *
        cases p with
        | zero =>
          have : (decide (0 < 0) && eqK2 ((y :: A).getD (0 - 1) []) R[i]) = false := by simp
          rw [this, cond_false] at hAn' ⊢
          unfold restK
          rw [cond_f (by simp)]
          refine hins 0 (by omega) _ ?_ (rows_old hAn')
          simp
          try rfl
        | succ t =>
          have ht : t < (y :: A).length := by omega
          have pa := rows_at hA ht
          have e2 : (2 : Nat) = KKy.length := rfl
          unfold restK
          rw [cond_t (show decide (((t + 1 : Nat) : Int) > 0) = true from by simp), wrap_pred (by omega : t < 9223372036854775807)]
          simp only [Int.toNat_natCast]
          rw [asks_of (l := [decide (0 ≤ (t : Int)) && decide ((t : Int) < ((y :: A).length : Int)), (y :: A).length == (y :: A).length, okAt KKy (y :: A).flatten (0 + t * 2)]) (cons_ok (inside ht) (cons_ok (by simp) (cons_ok pa.1 rfl)))]
          have hcell : eqK2 (shapeAt KKy (y :: A).flatten (0 + t * 2)) (rowKk R.flatten (i : Int)) = eqK2 ((y :: A).getD (t + 1 - 1) []) R[i] := by rw [hrow, e2, pa.2, Nat.add_sub_cancel, getD_at ht]
          rw [hcell]
          have h0 : decide (0 < t + 1) = true := by simp
          rw [h0, Bool.true_and] at hAn' ⊢
          cases he : eqK2 ((y :: A).getD (t + 1 - 1) []) R[i] with
          | true =>
            rw [cond_true, cond_true, asks_of (cons_ok (hO 0) (cons_ok (hO 0) rfl)), asks_of (ask1 (rows_old hA)), wrap_succ (by omega : i < 9223372036854775807)]
            rfl
          | false =>
            rw [he, cond_false] at hAn'
            rw [cond_false, cond_false]
            refine hins (t + 1) (by omega) _ ?_ (rows_old hAn')
            have e3 : ((y :: A).take (t + 1) ++ R[i] :: (y :: A).drop (t + 1)).length = (y :: A).length + 1 := by
              rw [List.length_append, List.length_cons, List.length_take, List.length_drop]
              omega
            rw [e3]
            rfl
  · intro q
    show LK N (q + 1) R.flatten n (!Nat.beq (sortU (R.take n)).length 0) (sortU (R.take n)).flatten (sortU (R.take n)).length (n : Int) = _
    have e : R.take n = R := by rw [List.take_of_length_le (by omega)]
    rw [e]
    have hA := sortU_ok hR
    obtain ⟨s1, s2, s3⟩ := seal_ok hA (by decide)
    generalize sortU R = A at *
    cases A with
    | nil =>
      show LK N (q + 1) R.flatten n false [] 0 (n : Int) = _
      rw [kK0, cond_f (by simp)]
      rfl
    | cons y A =>
      have hb : (!Nat.beq (y :: A).length 0) = true := rfl
      rw [hb] at s1 s2 ⊢
      rw [kK, cond_f (by simp)]
      unfold exitK
      rw [show (2 : Nat) = KKy.length from rfl, asks_of s1, asks_of s2, cond_true, cond_true, take_all _ (rows_len hA)]

def gSortK (xs : List PV) : Option (Bool × PV) := match xs with
  | [.sl c e n none] => some (Nat.beq e 2 && rowsC KKy n c, .sl (sortU (chunks 2 n c)).flatten 2 (sortU (chunks 2 n c)).length none)
  | _ => none

theorem runSortK (xs : List PV) (v : PV) (h : gSortK xs = some (true, v)) : ∃ H, apartS EN TRA H 1000009 5 17 xs = some v := by
  unfold gSortK at h
  split at h
  · rename_i c e n
    simp only [Option.some.injEq, Prod.mk.injEq, Bool.and_eq_true] at h
    obtain ⟨⟨h1, h2⟩, rfl⟩ := h
    rw [Nat.eq_of_beq_eq_true h1]
    obtain ⟨r1, r2, r3, r4⟩ := rowsC_ok h2
    refine ⟨HKs, (k00 1000009 c n).trans ?_⟩
    have := sk_loop (N := 1000009) (by omega) r2 r4 r1 (1000008 - n)
    rw [show 1000008 - n + n + 1 = 1000009 from by omega, r3] at this
    exact this
  · cases h

end Go.Proofs.Ytbhgibpdhmlamaa.Am
end
