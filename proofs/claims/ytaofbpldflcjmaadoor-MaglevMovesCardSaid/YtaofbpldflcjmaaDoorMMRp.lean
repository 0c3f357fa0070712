/- What a value of the interpreter says of a value of the machine; what its store says of the world; how the world moves on. -/
import Derived.Test.YtaofbpldflcjmaaDoorMMAm
import Derived.Laws.Cells
import Derived.Laws.CopyRow
import Derived.Laws.Rows
import Derived.Laws.Unary
import Derived.Laws.Strings
import Derived.Below
set_option linter.unusedVariables false
set_option linter.unusedSimpArgs false
namespace Go.Proofs.YtaofbpldflcjmaaDoor.Am
section
structure Loc where
  block : Nat
  cap : Nat
  len : Nat
  size : Nat
abbrev Ren := Nat -> Option Loc
abbrev Sealed := Nat -> Nat -> Option Value
inductive Rep (Γ : Sealed) (ρ : Ren) : PV -> Value -> Prop
  | bool (b : Bool) : Rep Γ ρ (.bool b) (.bool b)
  | int (k : IntKind) (n : Int) : Rep Γ ρ (.int k n) (.int k n)
  | str (l : List UInt8) : Rep Γ ρ (.str l) (.string ⟨⟨l⟩⟩)
  | nilp : Rep Γ ρ .nilp (.pointer none)
  | ptr {id blen off : Nat} (l : Loc) (h : ρ id = some l) (hl : blen = l.len) : Rep Γ ρ (.ptr id blen off) (.pointer (some ⟨l.block, off, none⟩))
  | ptrOld {id blen off : Nat} (l : Loc) (h : ρ id = some l) (hl : blen < l.len) (a : Addr) : Rep Γ ρ (.ptr id blen off) (.pointer (some a))
  | eptr {cells : List PV} {off : Nat} (b o : Nat) (vs : Nat -> Value) (h : ∀ (j : Nat) (x : PV), cells[j]? = some x -> Γ b (o + j) = some (vs j) /\ x.oneCell = true)
      (hr : ∀ (j : Nat) (x : PV), cells[j]? = some x -> Rep Γ ρ x (vs j)) : Rep Γ ρ (.eptr cells off) (.pointer (some ⟨b, o + off, none⟩))
  | glob (g off : Nat) : Rep Γ ρ (.glob g off) (.pointer (some ⟨g, off, none⟩))
  | gptr {g : Nat} (t : TypeId) (a : Addr) (h : Γ g 0 = some (.iface t (.pointer (some a)))) : Rep Γ ρ (.gptr g) (.pointer (some a))
  | nils : Rep Γ ρ .nils (.slice none 0 0)
  | sl {cells : List PV} {es len : Nat} {xc : Option Nat} (a : Addr) (cap : Nat) (vs : Nat -> Value) (hn : cells.length = len * es) (hc : len <= cap) (hx : ∀ c, xc = some c -> cap = c)
      (h : ∀ (j : Nat) (x : PV), cells[j]? = some x -> a.spot = none /\ Γ a.block (a.off + j) = some (vs j) /\ x.oneCell = true)
      (hr : ∀ (j : Nat) (x : PV), cells[j]? = some x -> Rep Γ ρ x (vs j)) : Rep Γ ρ (.sl cells es len xc) (.slice (some a) len cap)
  | slNil {es : Nat} {xc : Option Nat} (hx : ∀ c, xc = some c -> c = 0) : Rep Γ ρ (.sl [] es 0 xc) (.slice none 0 0)
  | sln {es : Nat} (a : Addr) (cap : Nat) : Rep Γ ρ (.sln es) (.slice (some a) 0 cap)
  | osl {id blen coff es len : Nat} {xc : Option Nat} (l : Loc) (cap : Nat) (h : ρ id = some l) (hl : blen = l.len)
      (hc : len <= cap) (hx : ∀ c, xc = some c -> cap = c) (ho : xc = none -> es = l.size /\ cap * es + coff = l.cap * es) : Rep Γ ρ (.osl id blen coff es len xc) (.slice (some ⟨l.block, coff, none⟩) len cap)
  | oslOld {id blen coff es len : Nat} {xc : Option Nat} (l : Loc) (h : ρ id = some l) (hl : blen < l.len) (a : Addr) (cap : Nat) (hc : len <= cap) (hx : ∀ c, xc = some c -> cap = c) : Rep Γ ρ (.osl id blen coff es len xc) (.slice (some a) len cap)
  | agg {xs : List PV} {vs : Array Value} (hn : vs.size = xs.length) (h : ∀ (j : Nat) (x : PV) (v : Value), xs[j]? = some x -> vs[j]? = some v -> Rep Γ ρ x v) : Rep Γ ρ (.agg xs) (.agg vs)
  | fn (f : Fn) {xs ys : List PV} {vs us : Array Value} (hn : vs.size = xs.length) (hm : us.size = ys.length) (h : ∀ (j : Nat) (x : PV) (v : Value), xs[j]? = some x -> vs[j]? = some v -> Rep Γ ρ x v)
      (h' : ∀ (j : Nat) (x : PV) (v : Value), ys[j]? = some x -> us[j]? = some v -> Rep Γ ρ x v) : Rep Γ ρ (.fn f xs ys) (.func f vs us)
  | nilfn : Rep Γ ρ .nilfn .nilFunc
  | iface (t : TypeId) {x : PV} {v : Value} (h : Rep Γ ρ x v) : Rep Γ ρ (.iface t x) (.iface t v)
  | nilif : Rep Γ ρ .nilif .nilIface
  | tup {xs : List PV} {vs : Array Value} (hn : vs.size = xs.length) (h : ∀ (j : Nat) (x : PV) (v : Value), xs[j]? = some x -> vs[j]? = some v -> Rep Γ ρ x v) : Rep Γ ρ (.tup xs) (.tuple vs)
  | nilm : Rep Γ ρ .nilm (.map none)
  | yld (l : Nat) : Rep Γ ρ .yld (.func (.yield l) #[] #[])
  | mp {id : Nat} (l : Loc) (h : ρ id = some l) (hz : l.size = 0) : Rep Γ ρ (.mp id) (.map (some l.block))
structure Le (Γ : Sealed) (ρ : Ren) (Γ' : Sealed) (ρ' : Ren) : Prop where
  fix : ∀ b o v, Γ b o = some v -> Γ' b o = some v
  ren : ∀ id l, ρ id = some l -> ∃ l' : Loc, ρ' id = some l' /\ (l' = l ∨ (l.len < l'.len /\ l'.size = l.size /\ 0 < l.size))
theorem Le.refl (Γ : Sealed) (ρ : Ren) : Le Γ ρ Γ ρ := ⟨fun _ _ _ h => h, fun _ l h => ⟨l, h, .inl rfl⟩⟩
theorem Le.trans {Γ ρ Γ' ρ' Γ'' ρ''} (h : Le Γ ρ Γ' ρ') (k : Le Γ' ρ' Γ'' ρ'') : Le Γ ρ Γ'' ρ'' := by
  refine ⟨fun b o v hv => k.fix b o v (h.fix b o v hv), fun id l hl => ?_⟩
  obtain ⟨l1, h1, e1⟩ := h.ren id l hl
  obtain ⟨l2, h2, e2⟩ := k.ren id l1 h1
  refine ⟨l2, h2, ?_⟩
  rcases e1 with rfl | ⟨e1, s1, z1⟩
  . exact e2
  . rcases e2 with rfl | ⟨e2, s2, z2⟩
    . exact .inr ⟨e1, s1, z1⟩
    . exact .inr ⟨by omega, s2.trans s1, z1⟩
theorem Rep.mono {Γ ρ Γ' ρ'} (hle : Le Γ ρ Γ' ρ') {x : PV} {v : Value} (h : Rep Γ ρ x v) : Rep Γ' ρ' x v := by
  induction h with
  | bool b => exact .bool b
  | int k n => exact .int k n
  | str l => exact .str l
  | nilp => exact .nilp
  | ptr l h hl =>
    obtain ⟨l', h', e⟩ := hle.ren _ _ h
    rcases e with rfl | ⟨e, _⟩
    . exact .ptr _ h' hl
    . exact .ptrOld l' h' (by omega) _
  | ptrOld l h hl a =>
    obtain ⟨l', h', e⟩ := hle.ren _ _ h
    exact .ptrOld l' h' (by rcases e with rfl | ⟨e, _⟩ <;> omega) _
  | eptr b o vs h hr ih => exact .eptr b o vs (fun j x hx => ⟨hle.fix _ _ _ (h j x hx).1, (h j x hx).2⟩) ih
  | glob g off => exact .glob g off
  | gptr t a h => exact .gptr t a (hle.fix _ _ _ h)
  | nils => exact .nils
  | sl a cap vs hn hc hx h hr ih => exact .sl a cap vs hn hc hx (fun j x hj => ⟨(h j x hj).1, hle.fix _ _ _ (h j x hj).2.1, (h j x hj).2.2⟩) ih
  | slNil hx => exact .slNil hx
  | sln a cap => exact .sln a cap
  | osl l cap h hl hc hx ho =>
    obtain ⟨l', h', e⟩ := hle.ren _ _ h
    rcases e with rfl | ⟨e, _⟩
    . exact .osl _ cap h' hl hc hx ho
    . exact .oslOld l' h' (by omega) _ _ hc hx
  | oslOld l h hl a cap hc hx =>
    obtain ⟨l', h', e⟩ := hle.ren _ _ h
    exact .oslOld l' h' (by rcases e with rfl | ⟨e, _⟩ <;> omega) _ _ hc hx
  | agg hn h ih => exact .agg hn ih
  | fn f hn hm h h' ih ih' => exact .fn f hn hm ih ih'
  | nilfn => exact .nilfn
  | iface t h ih => exact .iface t ih
  | nilif => exact .nilif
  | tup hn h ih => exact .tup hn ih
  | nilm => exact .nilm
  | yld l => exact .yld l
  | mp l h hz =>
    obtain ⟨l', h', e⟩ := hle.ren _ _ h
    rcases e with rfl | ⟨e, _, z⟩
    . exact .mp _ h' hz
    . omega
theorem Rep.oneCell {Γ ρ} {x : PV} {v : Value} (h : Rep Γ ρ x v) : v.oneCell' = x.oneCell := by cases h <;> rfl
def Reps (Γ : Sealed) (ρ : Ren) (xs : List PV) (vs : List Value) : Prop := vs.length = xs.length /\ ∀ (j : Nat) (x : PV) (v : Value), xs[j]? = some x -> vs[j]? = some v -> Rep Γ ρ x v
theorem Reps.nil {Γ ρ} : Reps Γ ρ [] [] := ⟨rfl, fun j x v h => by simp at h⟩
theorem Reps.cons {Γ ρ x v xs vs} (h : Rep Γ ρ x v) (hs : Reps Γ ρ xs vs) : Reps Γ ρ (x :: xs) (v :: vs) := by
  refine ⟨by simp [hs.1], fun j y u hy hu => ?_⟩
  cases j with
  | zero => simp at hy hu; subst hy hu; exact h
  | succ j => simp at hy hu; exact hs.2 j y u hy hu
theorem Reps.inv_nil {Γ ρ vs} (h : Reps Γ ρ [] vs) : vs = [] := by simpa using h.1
theorem Reps.inv_cons {Γ ρ x xs vs} (h : Reps Γ ρ (x :: xs) vs) : ∃ v ws, vs = v :: ws /\ Rep Γ ρ x v /\ Reps Γ ρ xs ws := by
  obtain ⟨hn, h⟩ := h
  cases vs with
  | nil => simp at hn
  | cons v ws =>
    refine ⟨v, ws, rfl, h 0 x v rfl rfl, by simpa using hn, fun j y u hy hu => h (j + 1) y u (by simpa using hy) (by simpa using hu)⟩
theorem Reps.append {Γ ρ xs vs ys us} (h : Reps Γ ρ xs vs) (k : Reps Γ ρ ys us) : Reps Γ ρ (xs ++ ys) (vs ++ us) := by
  refine ⟨by simp [h.1, k.1], fun j x v hx hv => ?_⟩
  by_cases hj : j < xs.length
  . rw [List.getElem?_append_left hj] at hx
    rw [List.getElem?_append_left (by have := h.1; omega)] at hv
    exact h.2 j x v hx hv
  . rw [List.getElem?_append_right (by omega)] at hx
    rw [List.getElem?_append_right (by have := h.1; omega), h.1] at hv
    exact k.2 _ x v hx hv
theorem Reps.take {Γ ρ xs vs} (n : Nat) (h : Reps Γ ρ xs vs) : Reps Γ ρ (xs.take n) (vs.take n) := by
  refine ⟨by simp [h.1], fun j x v hx hv => ?_⟩
  rw [List.getElem?_take] at hx hv
  split at hx
  . rename_i hj; rw [if_pos hj] at hv; exact h.2 j x v hx hv
  . simp at hx
theorem Reps.drop {Γ ρ xs vs} (n : Nat) (h : Reps Γ ρ xs vs) : Reps Γ ρ (xs.drop n) (vs.drop n) := by
  refine ⟨by simp [h.1], fun j x v hx hv => ?_⟩
  rw [List.getElem?_drop] at hx hv
  exact h.2 _ x v hx hv
theorem Reps.mono {Γ ρ Γ' ρ' xs vs} (hle : Le Γ ρ Γ' ρ') (h : Reps Γ ρ xs vs) : Reps Γ' ρ' xs vs := ⟨h.1, fun j x v hx hv => (h.2 j x v hx hv).mono hle⟩
theorem Reps.splice {Γ ρ xs vs ys us} {off : Nat} (h : Reps Γ ρ xs vs) (k : Reps Γ ρ ys us) : Reps Γ ρ (splice xs off ys) (vs.take off ++ (us ++ vs.drop (off + us.length))) := by
  unfold Am.splice
  rw [k.1]
  exact (h.take off).append (k.append (h.drop _))
theorem Reps.agg {Γ ρ xs vs} (h : Reps Γ ρ xs vs) : Rep Γ ρ (.agg xs) (.agg vs.toArray) := .agg (by simp [h.1]) (fun j x v hx hv => h.2 j x v hx (by simpa using hv))
theorem Reps.of_agg {Γ ρ xs v} (h : Rep Γ ρ (.agg xs) v) : ∃ vs : Array Value, v = .agg vs /\ Reps Γ ρ xs vs.toList := by
  cases h with
  | agg hn h => exact ⟨_, rfl, by simpa using hn, fun j x v hx hv => h j x v hx (by simpa using hv)⟩
theorem Rep.cells {Γ ρ x v} (h : Rep Γ ρ x v) : Reps Γ ρ x.cells v.cells.toList := by
  cases h with
  | agg hn h => exact ⟨by simpa [Value.cells, PV.cells] using hn, fun j x v hx hv => h j x v hx (by simpa [Value.cells] using hv)⟩
  | _ => exact Reps.cons (by constructor <;> assumption) Reps.nil
theorem Reps.oneCell {Γ ρ xs vs} (h : Reps Γ ρ xs vs) (ho : xs.all PV.oneCell = true) : ∀ v ∈ vs, v.oneCell' = true := by
  intro v hv
  obtain ⟨j, hj, rfl⟩ := List.getElem_of_mem hv
  have hlt : j < xs.length := by have := h.1; omega
  rw [(h.2 j xs[j] vs[j] (by simp [hlt]) (by simp [hj])).oneCell]
  exact List.all_eq_true.1 ho _ (List.getElem_mem hlt)
end
section
def MemOk (Γ : Sealed) (ρ : Ren) (w : World) (l : Loc) (m : Mem) : Prop :=
  l.len = m.len /\ l.size = m.size /\ m.cells.length = m.len * m.size /\ m.len <= l.cap /\ (m.exact = true -> l.cap = m.len) /\ m.cells.all PV.oneCell = true /\
  ∃ (C : Array Value) (T : TypeId), w.heap[l.block]? = some (.cells C T (0, 0)) /\ C.size = l.cap * m.size /\ Reps Γ ρ m.cells (C.toList.take m.cells.length)
def OverOk (ρ : Ren) : Option Nat -> Option Nat -> Prop
  | none, mo => mo = none
  | some id, mo => ∃ l : Loc, ρ id = some l /\ l.size = 0 /\ mo = some l.block
def EntsOk (Γ : Sealed) (ρ : Ren) (es : List (PV × PV)) (A : List MapEntry) : Prop :=
  A.length = es.length /\ ∀ (j : Nat) (e : PV × PV) (a : MapEntry), es[j]? = some e -> A[j]? = some a -> Rep Γ ρ e.1 a.key /\ Rep Γ ρ e.2 a.val
def MapOk (Γ : Sealed) (ρ : Ren) (w : World) (l : Loc) (m : MapO) : Prop :=
  l.size = 0 /\ l.len = 0 /\ match m.iter with
  | none => ∃ A : Array MapEntry, w.heap[l.block]? = some (.map A m.clock) /\ A.toList.map MapEntry.born = m.born /\ EntsOk Γ ρ m.es A.toList
  | some (o, since, seen, last) => ∃ mo, w.heap[l.block]? = some (.mapIter mo since seen.toArray last) /\ OverOk ρ o mo
def ObOk (Γ : Sealed) (ρ : Ren) (w : World) (l : Loc) : Ob -> Prop
  | .mem m => MemOk Γ ρ w l m
  | .map m => MapOk Γ ρ w l m
theorem MemOk.move {Γ ρ w Γ' ρ' w'} {l : Loc} {m : Mem} (h : MemOk Γ ρ w l m) (hle : Le Γ ρ Γ' ρ') (hh : w'.heap[l.block]? = w.heap[l.block]?) : MemOk Γ' ρ' w' l m := by
  obtain ⟨k1, k2, k3, k4, k5, k6, C, T, k7, k8, k9⟩ := h
  exact ⟨k1, k2, k3, k4, k5, k6, C, T, hh.trans k7, k8, k9.mono hle⟩
theorem OverOk.move {Γ ρ Γ' ρ'} {o mo : Option Nat} (h : OverOk ρ o mo) (hle : Le Γ ρ Γ' ρ') : OverOk ρ' o mo := by
  cases o with
  | none => exact h
  | some id =>
    obtain ⟨l, h1, h2, h3⟩ := h
    obtain ⟨l', h4, h5⟩ := hle.ren id l h1
    rcases h5 with rfl | ⟨_, _, h6⟩
    . exact ⟨_, h4, h2, h3⟩
    . omega
theorem EntsOk.move {Γ ρ Γ' ρ'} {es : List (PV × PV)} {A : List MapEntry} (h : EntsOk Γ ρ es A) (hle : Le Γ ρ Γ' ρ') : EntsOk Γ' ρ' es A :=
  ⟨h.1, fun j e a h1 h2 => ⟨(h.2 j e a h1 h2).1.mono hle, (h.2 j e a h1 h2).2.mono hle⟩⟩
theorem MapOk.move {Γ ρ w Γ' ρ' w'} {l : Loc} {m : MapO} (h : MapOk Γ ρ w l m) (hle : Le Γ ρ Γ' ρ') (hh : w'.heap[l.block]? = w.heap[l.block]?) : MapOk Γ' ρ' w' l m := by
  obtain ⟨k1, k2, k3⟩ := h
  refine ⟨k1, k2, ?_⟩
  split at k3
  . rename_i hi
    obtain ⟨A, a1, a2, a3⟩ := k3
    exact ⟨A, hh.trans a1, a2, a3.move hle⟩
  . rename_i hi
    obtain ⟨mo, a1, a2⟩ := k3
    exact ⟨mo, hh.trans a1, a2.move hle⟩
theorem ObOk.move {Γ ρ w Γ' ρ' w'} {l : Loc} {ob : Ob} (h : ObOk Γ ρ w l ob) (hle : Le Γ ρ Γ' ρ') (hh : w'.heap[l.block]? = w.heap[l.block]?) : ObOk Γ' ρ' w' l ob := by
  cases ob with
  | mem m => exact MemOk.move h hle hh
  | map m => exact MapOk.move h hle hh
theorem ObOk.alive {Γ ρ w} {l : Loc} {ob : Ob} (h : ObOk Γ ρ w l ob) : l.block < w.heap.size := by
  cases ob with
  | mem m =>
    obtain ⟨_, _, _, _, _, _, C, T, hC, _⟩ := h
    exact (Array.getElem?_eq_some_iff.1 hC).1
  | map m =>
    obtain ⟨_, _, k3⟩ := h
    split at k3
    . obtain ⟨A, a1, _⟩ := k3
      exact (Array.getElem?_eq_some_iff.1 a1).1
    . obtain ⟨mo, a1, _⟩ := k3
      exact (Array.getElem?_eq_some_iff.1 a1).1
theorem ObOk.isMem {Γ ρ w} {l : Loc} {ob : Ob} (h : ObOk Γ ρ w l ob) (hl : 0 < l.size ∨ 0 < l.len) : ∃ m, ob = .mem m := by
  cases ob with
  | mem m => exact ⟨m, rfl⟩
  | map m =>
    obtain ⟨k1, k2, _⟩ := h
    omega
def Rock (E : Env) (Γ : Sealed) (b : Nat) : Prop := ∃ (g : Nat) (t : TypeId) (a : Addr), E.G g = some [.iface t (.gptr g)] /\ Γ g 0 = some (.iface t (.pointer (some a))) /\ a.block = b
structure Rocks (E : Env) (Γ : Sealed) (ρ : Ren) (w : World) : Prop where
  stay : ∀ b, Rock E Γ b -> (∃ (C : Array Value) (T : TypeId), w.heap[b]? = some (.cells C T (0, 0))) /\ ∀ (id : Nat) (l : Loc), ρ id = some l -> l.block ≠ b
  uniq : ∀ (g g' : Nat) (t t' : TypeId) (a : Addr), E.G g = some [.iface t (.gptr g)] -> E.G g' = some [.iface t' (.gptr g')] -> Γ g 0 = some (.iface t (.pointer (some a))) -> Γ g' 0 = some (.iface t' (.pointer (some a))) -> g = g'
theorem Rocks.move {E : Env} {Γ Γ' : Sealed} {ρ ρ' : Ren} {w w' : World} (h : Rocks E Γ ρ w)
    (hg : ∀ g cells, E.G g = some cells -> ∃ vs : Nat -> Value, ∀ (j : Nat) (x : PV), cells[j]? = some x -> Γ g j = some (vs j) /\ x.oneCell = true /\ Rep Γ ρ x (vs j))
    (hf : ∀ b o v, Γ b o = some v -> Γ' b o = some v) (hh : ∀ b, b < w.heap.size -> (∀ (id : Nat) (l : Loc), ρ id = some l -> l.block ≠ b) -> w'.heap[b]? = w.heap[b]?)
    (hr : ∀ (b id : Nat) (l : Loc), b < w.heap.size -> (∀ (id : Nat) (l : Loc), ρ id = some l -> l.block ≠ b) -> ρ' id = some l -> l.block ≠ b) : Rocks E Γ' ρ' w' := by
  have back : ∀ (g : Nat) (t : TypeId) (v : Value), E.G g = some [.iface t (.gptr g)] -> Γ' g 0 = some v -> Γ g 0 = some v := by
    intro g t v h1 h2
    obtain ⟨vs, hv⟩ := hg g _ h1
    have h3 := (hv 0 _ rfl).1
    rw [hf _ _ _ h3] at h2
    rw [h3, h2]
  refine ⟨fun b hb => ?_, fun g g' t t' a h1 h2 h3 h4 => h.uniq g g' t t' a h1 h2 (back _ _ _ h1 h3) (back _ _ _ h2 h4)⟩
  obtain ⟨g, t, a, h1, h2, h3⟩ := hb
  obtain ⟨⟨C, T, h4⟩, h5⟩ := h.stay b ⟨g, t, a, h1, back _ _ _ h1 h2, h3⟩
  have hlt := (Array.getElem?_eq_some_iff.1 h4).1
  exact ⟨⟨C, T, (hh b hlt h5).trans h4⟩, fun id l hl => hr b id l hlt h5 hl⟩
structure Rel (E : Env) (fl : Nat) (Γ : Sealed) (ρ : Ren) (σ : Store) (w : World) : Prop where
  fix : ∀ b o v, Γ b o = some v -> w.cell? ⟨b, o, none⟩ = some v
  mem : ∀ id l, ρ id = some l -> ∃ ob, σ[id]? = some ob /\ ObOk Γ ρ w l ob
  apart : ∀ (id : Nat) (l : Loc) (m : Mem), ρ id = some l -> fl <= id -> σ[id]? = some (.mem m) -> m.ice = false -> ∀ o, Γ l.block o = none
  inj : ∀ i j li lj, ρ i = some li -> ρ j = some lj -> li.block = lj.block -> i = j
  glob : ∀ g cells, E.G g = some cells -> ∃ vs : Nat -> Value, ∀ (j : Nat) (x : PV), cells[j]? = some x -> Γ g j = some (vs j) /\ x.oneCell = true /\ Rep Γ ρ x (vs j)
  rock : Rocks E Γ ρ w
def SameOb : Option Ob -> Option Ob -> Prop
  | some (.mem m), some (.mem m') => m'.cells = m.cells /\ m'.size = m.size /\ m'.len = m.len /\ m'.exact = m.exact
  | a, b => a = b
theorem SameOb.refl (a : Option Ob) : SameOb a a := by
  unfold SameOb; split
  . rename_i h; simp_all
  . rfl
theorem SameOb.trans {a b c : Option Ob} (h : SameOb a b) (k : SameOb b c) : SameOb a c := by
  cases a with
  | none => cases b with
    | none => exact k
    | some b => simp [SameOb] at h
  | some a => cases b with
    | none => cases a <;> simp [SameOb] at h
    | some b => cases a <;> cases b <;> cases c with
      | none => simp_all [SameOb]
      | some c => cases c <;> simp_all [SameOb]
theorem SameOb.mem {m : Mem} {b : Option Ob} (h : SameOb (some (.mem m)) b) : ∃ m' : Mem, b = some (.mem m') /\ m'.cells = m.cells /\ m'.size = m.size /\ m'.len = m.len /\ m'.exact = m.exact := by
  cases b with
  | none => simp [SameOb] at h
  | some b => cases b with
    | mem m' => exact ⟨m', rfl, h⟩
    | map es => simp [SameOb] at h
theorem SameOb.mem' {m' : Mem} {a : Option Ob} (h : SameOb a (some (.mem m'))) : ∃ m : Mem, a = some (.mem m) /\ m'.cells = m.cells /\ m'.size = m.size /\ m'.len = m.len /\ m'.exact = m.exact := by
  cases a with
  | none => simp [SameOb] at h
  | some b => cases b with
    | mem m => exact ⟨m, rfl, h⟩
    | map es => simp [SameOb] at h
def toldA : Bool := true
def toldB : Bool := true
def drawsTold : Bool := toldA && toldB
structure OutOk (w w' : World) : Prop where
  out : w'.output = w.output
  drawn : drawsTold = true -> w.drawn <= w'.drawn
theorem OutOk.refl (w : World) : OutOk w w := ⟨rfl, fun _ => Nat.le_refl _⟩
theorem OutOk.trans {a b c : World} (h : OutOk a b) (k : OutOk b c) : OutOk a c := ⟨k.out.trans h.out, fun e => Nat.le_trans (h.drawn e) (k.drawn e)⟩
structure Post (fl : Nat) (Γ : Sealed) (ρ : Ren) (σ : Store) (w : World) (Γ' : Sealed) (ρ' : Ren) (σ' : Store) (w' : World) : Prop where
  le : Le Γ ρ Γ' ρ'
  blocks : ∀ id l', ρ' id = some l' -> (∃ l : Loc, ρ id = some l /\ l.block = l'.block) ∨ w.heap.size <= l'.block
  low : ∀ id, id < fl -> ρ' id = ρ id
  lowS : ∀ id, id < fl -> SameOb σ[id]? σ'[id]?
  fresh : ∀ b o, Γ b o = none -> Γ' b o ≠ none -> w.heap.size <= b ∨ ∃ (id : Nat) (l : Loc) (m : Mem), ρ id = some l /\ l.block = b /\ σ'[id]? = some (.mem m) /\ m.ice = true
  frame : ∀ b, b < w.heap.size -> (∀ id l, ρ id = some l -> l.block = b -> id < fl) -> w'.heap[b]? = w.heap[b]?
  size : w.heap.size <= w'.heap.size
  os : w'.os = w.os
  tape : w'.tape = w.tape
  output : OutOk w w'
  len : σ.length <= σ'.length
  ice : ∀ (id : Nat) (m : Mem), σ[id]? = some (.mem m) -> m.ice = true -> ∃ m' : Mem, σ'[id]? = some (.mem m') /\ m'.ice = true
theorem Post.refl (fl : Nat) (Γ : Sealed) (ρ : Ren) (σ : Store) (w : World) : Post fl Γ ρ σ w Γ ρ σ w where
  le := .refl _ _
  blocks := fun _ l h => .inl ⟨l, h, rfl⟩
  low := fun _ _ => rfl
  lowS := fun _ _ => .refl _
  fresh := fun b o h k => absurd h k
  frame := fun _ _ _ => rfl
  size := Nat.le_refl _
  os := rfl
  tape := rfl
  output := .refl _
  len := Nat.le_refl _
  ice := fun _ m h k => ⟨m, h, k⟩
theorem Post.trans {fl Γ ρ σ w Γ' ρ' σ' w' Γ'' ρ'' σ'' w''} (h : Post fl Γ ρ σ w Γ' ρ' σ' w') (k : Post fl Γ' ρ' σ' w' Γ'' ρ'' σ'' w'') : Post fl Γ ρ σ w Γ'' ρ'' σ'' w'' where
  le := h.le.trans k.le
  blocks := fun id l hl => by
    rcases k.blocks id l hl with ⟨l1, h1, e1⟩ | h1
    . rcases h.blocks id l1 h1 with ⟨l0, h0, e0⟩ | h0
      . exact .inl ⟨l0, h0, e0.trans e1⟩
      . exact .inr (by omega)
    . exact .inr (Nat.le_trans h.size h1)
  low := fun id hi => (k.low id hi).trans (h.low id hi)
  lowS := fun id hi => (h.lowS id hi).trans (k.lowS id hi)
  fresh := fun b o hn hs => by
    by_cases h1 : Γ' b o = none
    . rcases k.fresh b o h1 hs with h2 | ⟨id, l1, m, hl, hb, hm, hi⟩
      . exact .inl (Nat.le_trans h.size h2)
      . rcases h.blocks id l1 hl with ⟨l0, h0, e0⟩ | h0
        . exact .inr ⟨id, l0, m, h0, e0.trans hb, hm, hi⟩
        . exact .inl (by omega)
    . rcases h.fresh b o hn h1 with h2 | ⟨id, l1, m, hl, hb, hm, hi⟩
      . exact .inl h2
      . obtain ⟨m', hm', hi'⟩ := k.ice id m hm hi
        exact .inr ⟨id, l1, m', hl, hb, hm', hi'⟩
  frame := fun b hb hc => by
    rw [k.frame b (Nat.lt_of_lt_of_le hb h.size) fun id l hl he => ?_, h.frame b hb hc]
    rcases h.blocks id l hl with ⟨l0, h0, e0⟩ | h0
    . exact hc id l0 h0 (e0.trans he)
    . omega
  size := Nat.le_trans h.size k.size
  os := k.os.trans h.os
  tape := k.tape.trans h.tape
  output := h.output.trans k.output
  len := Nat.le_trans h.len k.len
  ice := fun id m hm hi => by
    obtain ⟨m1, h1, i1⟩ := h.ice id m hm hi
    exact k.ice id m1 h1 i1
theorem Post.mono {fl fl' Γ ρ σ w Γ' ρ' σ' w'} (h : Post fl' Γ ρ σ w Γ' ρ' σ' w') (hf : fl <= fl') : Post fl Γ ρ σ w Γ' ρ' σ' w' :=
  { h with
    low := fun id hi => h.low id (Nat.lt_of_lt_of_le hi hf)
    lowS := fun id hi => h.lowS id (Nat.lt_of_lt_of_le hi hf)
    frame := fun b hb hc => h.frame b hb fun id l hl he => Nat.lt_of_lt_of_le (hc id l hl he) hf }
section
variable {E : Env} {fl : Nat} {Γ : Sealed} {ρ : Ren} {σ : Store} {w : World}
theorem getMem_get {σ : Store} {id : Nat} {m : Mem} (hm : getMem σ id = some m) : σ[id]? = some (.mem m) := by
  unfold getMem at hm
  split at hm
  . rename_i m' h; cases hm; exact h
  . cases hm
theorem getMap_get {σ : Store} {id : Nat} {m : MapO} (hm : getMap σ id = some m) : σ[id]? = some (.map m) /\ m.iter = none := by
  unfold getMap at hm
  split at hm
  . rename_i m' h
    split at hm
    . rename_i hi
      cases hm
      exact ⟨h, hi⟩
    . cases hm
  . cases hm
theorem Rel.memAt (h : Rel E fl Γ ρ σ w) {id : Nat} {l : Loc} (hl : ρ id = some l) {m : Mem} (hm : getMem σ id = some m) : σ[id]? = some (.mem m) /\ MemOk Γ ρ w l m := by
  obtain ⟨ob, ho, hk⟩ := h.mem id l hl
  have := getMem_get hm
  rw [ho] at this
  cases this
  exact ⟨ho, hk⟩
theorem Rel.mapAt (h : Rel E fl Γ ρ σ w) {id : Nat} {l : Loc} (hl : ρ id = some l) {m : MapO} (hm : getMap σ id = some m) :
    σ[id]? = some (.map m) /\ l.size = 0 /\ l.len = 0 /\ m.iter = none /\ ∃ A : Array MapEntry, w.heap[l.block]? = some (.map A m.clock) /\ A.toList.map MapEntry.born = m.born /\ EntsOk Γ ρ m.es A.toList := by
  obtain ⟨ob, ho, hk⟩ := h.mem id l hl
  obtain ⟨h1, h2⟩ := getMap_get hm
  rw [ho] at h1
  cases h1
  obtain ⟨k1, k2, k3⟩ := hk
  rw [h2] at k3
  exact ⟨ho, k1, k2, h2, k3⟩
theorem Rel.block_lt (h : Rel E fl Γ ρ σ w) {id : Nat} {l : Loc} (hl : ρ id = some l) : l.block < w.heap.size := by
  obtain ⟨ob, _, hk⟩ := h.mem id l hl
  exact hk.alive
theorem Rel.id_lt (h : Rel E fl Γ ρ σ w) {id : Nat} {l : Loc} (hl : ρ id = some l) : id < σ.length := by
  obtain ⟨ob, ho, _⟩ := h.mem id l hl
  exact (List.getElem?_eq_some_iff.1 ho).1
theorem Rel.seal_lt (h : Rel E fl Γ ρ σ w) {b o : Nat} (hs : Γ b o ≠ none) : b < w.heap.size := by
  cases hv : Γ b o with
  | none => exact absurd hv hs
  | some v => exact World.block_lt_of_cell? _ _ (h.fix b o v hv)
theorem Rel.widen {fl' : Nat} {Γ' : Sealed} {ρ' : Ren} {σ' : Store} {w' : World} (h : Rel E fl Γ ρ σ w) (h' : Rel E fl' Γ' ρ' σ' w') (hp : Post fl' Γ ρ σ w Γ' ρ' σ' w') : Rel E fl Γ' ρ' σ' w' := by
  refine { h' with apart := fun id l m hl hf hm hi o => ?_ }
  by_cases hlt : fl' <= id
  . exact h'.apart id l m hl hlt hm hi o
  . have e := hp.low id (by omega)
    rw [e] at hl
    obtain ⟨m0, hm0, _⟩ := (hm ▸ hp.lowS id (by omega) : SameOb σ[id]? (some (.mem m))).mem'
    have hi0 : m0.ice = false := by
      cases hc : m0.ice with
      | false => rfl
      | true =>
        obtain ⟨m1, h1, h2⟩ := hp.ice id m0 hm0 hc
        rw [hm] at h1; cases h1; rw [hi] at h2; cases h2
    have h0 := h.apart id l m0 hl hf hm0 hi0 o
    cases hg : Γ' l.block o with
    | none => rfl
    | some v =>
      rcases hp.fresh l.block o h0 (by simp [hg]) with hb | ⟨id2, l2, m2, hl2, hb, hm2, hi2⟩
      . have := h.block_lt hl; omega
      . have := h.inj id2 id l2 l hl2 hl hb
        subst this
        rw [hm] at hm2; cases hm2; rw [hi] at hi2; cases hi2
theorem Rel.world (h : Rel E fl Γ ρ σ w) {w' : World} (hh : ∀ b, b < w.heap.size -> w'.heap[b]? = w.heap[b]?) : Rel E fl Γ ρ σ w' := by
  refine { h with fix := fun b o v hv => ?_, mem := fun id l hl => ?_, rock := h.rock.move h.glob (fun _ _ _ h => h) (fun b hb _ => hh b hb) (fun _ id l _ hn hl => hn id l hl) }
  . have hc := h.fix b o v hv
    rw [<- hc]
    exact World.cell?_of_block (w := w) (hh b (World.block_lt_of_cell? _ _ hc))
  . obtain ⟨ob, ho, hk⟩ := h.mem id l hl
    exact ⟨ob, ho, hk.move (.refl _ _) (hh l.block (h.block_lt hl))⟩
end
end
section
section
variable {E : Env} {fl : Nat} {Γ : Sealed} {ρ : Ren} {σ : Store} {w : World}
structure Same (w w' : World) : Prop where
  size : w.heap.size <= w'.heap.size
  os : w'.os = w.os
  tape : w'.tape = w.tape
  output : OutOk w w'
theorem cell?_heap {w w' : World} {a : Addr} (h : w'.heap[a.block]? = w.heap[a.block]?) : w'.cell? a = w.cell? a := by unfold World.cell?; rw [h]
theorem post_world (h : Rel E fl Γ ρ σ w) {w' : World} (hs : Same w w') (hh : ∀ b, b < w.heap.size -> w'.heap[b]? = w.heap[b]?) :
    Rel E fl Γ ρ σ w' /\ Post fl Γ ρ σ w Γ ρ σ w' :=
  ⟨h.world hh, { Post.refl fl Γ ρ σ w with frame := fun b hb _ => hh b hb, size := hs.size, os := hs.os, tape := hs.tape, output := hs.output }⟩
theorem new_ok (h : Rel E fl Γ ρ σ w) (hfl : fl <= σ.length) {w' : World} (hs : Same w w') (hh : ∀ b, b < w.heap.size -> w'.heap[b]? = w.heap[b]?)
    {m : Mem} {C : Array Value} {T : TypeId} {cap blk : Nat} (hb : w.heap.size <= blk) (hC : w'.heap[blk]? = some (.cells C T (0, 0))) (hsz : C.size = cap * m.size)
    (hlen : m.cells.length = m.len * m.size) (hcap : m.len <= cap) (hex : m.exact = true -> cap = m.len) (h1 : m.cells.all PV.oneCell = true) (hr : Reps Γ ρ m.cells (C.toList.take m.cells.length)) :
    let ρ' : Ren := fun j => if j = σ.length then some ⟨blk, cap, m.len, m.size⟩ else ρ j
    Rel E fl Γ ρ' (σ ++ [.mem m]) w' /\ Post fl Γ ρ σ w Γ ρ' (σ ++ [.mem m]) w' /\ ρ' σ.length = some ⟨blk, cap, m.len, m.size⟩ := by
  intro ρ'
  have hnone : ρ σ.length = none := by
    cases hc : ρ σ.length with
    | none => rfl
    | some l => exact absurd (h.id_lt hc) (Nat.lt_irrefl _)
  have hle : Le Γ ρ Γ ρ' := ⟨fun _ _ _ hv => hv, fun id l hl => ⟨l, by
    have : id ≠ σ.length := fun e => by rw [e, hnone] at hl; cases hl
    simp [ρ', this, hl], .inl rfl⟩⟩
  refine ⟨?_, ?_, by simp [ρ']⟩
  . refine ⟨fun b o v hv => ?_, fun id l hl => ?_, fun id l m2 hl hf hm hi o => ?_, fun i j li lj hi hj e => ?_, fun g cells hg => ?_, ?_⟩
    . rw [<- h.fix b o v hv]
      exact cell?_heap (hh b (World.block_lt_of_cell? _ _ (h.fix b o v hv)))
    . by_cases hid : id = σ.length
      . subst hid
        simp only [ρ', if_true, Option.some.injEq] at hl
        subst hl
        exact ⟨.mem m, by simp, rfl, rfl, hlen, hcap, hex, h1, C, T, hC, hsz, hr.mono hle⟩
      . simp only [ρ', hid, if_false] at hl
        obtain ⟨ob, ho, hk⟩ := h.mem id l hl
        have hlt := h.id_lt hl
        exact ⟨ob, by rw [List.getElem?_append_left hlt]; exact ho, hk.move hle (hh _ (h.block_lt hl))⟩
    . by_cases hid : id = σ.length
      . subst hid
        simp only [ρ', if_true, Option.some.injEq] at hl
        subst hl
        cases hg : Γ blk o with
        | none => rfl
        | some v => have := h.seal_lt (b := blk) (o := o) (by simp [hg]); omega
      . simp only [ρ', hid, if_false] at hl
        rw [List.getElem?_append_left (h.id_lt hl)] at hm
        exact h.apart id l m2 hl hf hm hi o
    . by_cases hii : i = σ.length <;> by_cases hjj : j = σ.length
      . omega
      . simp only [ρ', hii, hjj, if_true, if_false, Option.some.injEq] at hi hj
        have := h.block_lt hj
        rw [<- hi] at e
        simp at e
        omega
      . simp only [ρ', hii, hjj, if_true, if_false, Option.some.injEq] at hi hj
        have := h.block_lt hi
        rw [<- hj] at e
        simp at e
        omega
      . simp only [ρ', hii, hjj, if_false] at hi hj
        exact h.inj i j li lj hi hj e
    . obtain ⟨vs, hv⟩ := h.glob g cells hg
      exact ⟨vs, fun j x hx => ⟨(hv j x hx).1, (hv j x hx).2.1, (hv j x hx).2.2.mono hle⟩⟩
    . refine h.rock.move h.glob (fun _ _ _ h => h) (fun b hb _ => hh b hb) (fun rb id l hlt r2 hl => ?_)
      by_cases hid : id = σ.length
      . simp only [ρ', hid, if_true, Option.some.injEq] at hl
        subst hl
        exact fun e => by simp only at e; omega
      . simp only [ρ', hid, if_false] at hl
        exact r2 id l hl
  . refine ⟨hle, fun id l hl => ?_, fun id hi => ?_, fun id hi => ?_, fun b o hn hs => absurd hn hs, fun b hb _ => hh b hb, hs.size, hs.os, hs.tape, hs.output, by simp, fun id m2 hm hi => ?_⟩
    . by_cases hid : id = σ.length
      . simp only [ρ', hid, if_true, Option.some.injEq] at hl
        subst hl
        exact .inr hb
      . simp only [ρ', hid, if_false] at hl
        exact .inl ⟨l, hl, rfl⟩
    . simp only [ρ', if_neg (show id ≠ σ.length by omega)]
    . rw [List.getElem?_append_left (by omega)]; exact .refl _
    . exact ⟨m2, by rw [List.getElem?_append_left (List.getElem?_eq_some_iff.1 hm).1]; exact hm, hi⟩
theorem change_ok (h : Rel E fl Γ ρ σ w) {id : Nat} {l : Loc} {m m' : Mem} (hl : ρ id = some l) (hm : σ[id]? = some (.mem m)) (hid : fl <= id) (hice : m.ice = false)
    {w' : World} (hs : Same w w') (hh : ∀ b, b < w.heap.size -> b ≠ l.block -> w'.heap[b]? = w.heap[b]?)
    {C : Array Value} {T : TypeId} {cap blk : Nat} (hb : blk = l.block /\ cap = l.cap ∨ w.heap.size <= blk /\ m.len < m'.len) (hC : w'.heap[blk]? = some (.cells C T (0, 0))) (hsz : C.size = cap * m'.size)
    (hsize : m'.size = m.size) (hice' : m'.ice = false) (hgrow : m'.len = m.len ∨ (m.len < m'.len /\ 0 < m.size))
    (hlen : m'.cells.length = m'.len * m'.size) (hcap : m'.len <= cap) (hex : m'.exact = true -> cap = m'.len) (h1 : m'.cells.all PV.oneCell = true) (hr : Reps Γ ρ m'.cells (C.toList.take m'.cells.length)) :
    let ρ' : Ren := fun j => if j = id then some ⟨blk, cap, m'.len, m'.size⟩ else ρ j
    Rel E fl Γ ρ' (σ.set id (.mem m')) w' /\ Post fl Γ ρ σ w Γ ρ' (σ.set id (.mem m')) w' /\ ρ' id = some ⟨blk, cap, m'.len, m'.size⟩ := by
  intro ρ'
  obtain ⟨e1, e2, e3, e4, e5, e6, C0, T0, e7, e8, e9⟩ := (h.memAt hl (by simp [getMem, hm] : getMem σ id = some m)).2
  have hidlt := h.id_lt hl
  have hloc : (⟨blk, cap, m'.len, m'.size⟩ : Loc) = l ∨ (l.len < m'.len /\ m'.size = l.size /\ 0 < l.size) := by
    rcases hgrow with hg | ⟨hg, hz⟩
    . rcases hb with ⟨hb1, hb2⟩ | ⟨_, hb2⟩
      . left
        cases l
        simp_all
      . omega
    . exact .inr ⟨by omega, by rw [hsize, e2], by rw [e2]; exact hz⟩
  have hle : Le Γ ρ Γ ρ' := ⟨fun _ _ _ hv => hv, fun j l2 hl2 => by
    by_cases hj : j = id
    . subst hj
      rw [hl] at hl2
      cases hl2
      exact ⟨_, by simp [ρ'], hloc⟩
    . exact ⟨l2, by simp [ρ', hj, hl2], .inl rfl⟩⟩
  have happ := h.apart id l m hl hid hm hice
  have hblk : blk = l.block ∨ w.heap.size <= blk := by rcases hb with ⟨hb, _⟩ | ⟨hb, _⟩ <;> simp [hb]
  have hgblk : ∀ o, Γ blk o = none := fun o => by
    rcases hblk with e | e
    . rw [e]; exact happ o
    . cases hg : Γ blk o with
      | none => rfl
      | some v => have := h.seal_lt (b := blk) (o := o) (by simp [hg]); omega
  refine ⟨?_, ?_, by simp [ρ']⟩
  . refine ⟨fun b o v hv => ?_, fun j l2 hl2 => ?_, fun j l2 m2 hl2 hf hm2 hi o => ?_, fun i j li lj hi hj e => ?_, fun g cells hg => ?_, ?_⟩
    . rw [<- h.fix b o v hv]
      refine cell?_heap (hh b (World.block_lt_of_cell? _ _ (h.fix b o v hv)) fun e => ?_)
      subst e
      rw [happ o] at hv
      cases hv
    . by_cases hj : j = id
      . subst hj
        simp only [ρ', if_true, Option.some.injEq] at hl2
        subst hl2
        exact ⟨.mem m', by simp [hidlt], rfl, rfl, hlen, hcap, hex, h1, C, T, hC, hsz, hr.mono hle⟩
      . simp only [ρ', hj, if_false] at hl2
        obtain ⟨ob, ho, hk⟩ := h.mem j l2 hl2
        have hne : l2.block ≠ l.block := fun e => hj (h.inj j id l2 l hl2 hl e)
        exact ⟨ob, by rw [List.getElem?_set_ne (Ne.symm hj)]; exact ho, hk.move hle (hh _ (h.block_lt hl2) hne)⟩
    . by_cases hj : j = id
      . subst hj
        simp only [ρ', if_true, Option.some.injEq] at hl2
        subst hl2
        exact hgblk o
      . simp only [ρ', hj, if_false] at hl2
        rw [List.getElem?_set_ne (Ne.symm hj)] at hm2
        exact h.apart j l2 m2 hl2 hf hm2 hi o
    . by_cases hii : i = id <;> by_cases hjj : j = id
      . rw [hii, hjj]
      . simp only [ρ', hii, hjj, if_true, if_false, Option.some.injEq] at hi hj
        have hlt := h.block_lt hj
        rw [<- hi] at e
        simp only at e
        rcases hblk with e' | e'
        . exact absurd (h.inj j id lj l hj hl (by rw [<- e, e'])) hjj
        . omega
      . simp only [ρ', hii, hjj, if_true, if_false, Option.some.injEq] at hi hj
        have hlt := h.block_lt hi
        rw [<- hj] at e
        simp only at e
        rcases hblk with e' | e'
        . exact absurd (h.inj i id li l hi hl (by rw [e, e'])) hii
        . omega
      . simp only [ρ', hii, hjj, if_false] at hi hj
        exact h.inj i j li lj hi hj e
    . obtain ⟨vs, hv⟩ := h.glob g cells hg
      exact ⟨vs, fun j x hx => ⟨(hv j x hx).1, (hv j x hx).2.1, (hv j x hx).2.2.mono hle⟩⟩
    . refine h.rock.move h.glob (fun _ _ _ h => h) (fun b hb hn => hh b hb (Ne.symm (hn id l hl))) (fun rb j l2 hlt r2 hl2 => ?_)
      by_cases hj : j = id
      . simp only [ρ', hj, if_true, Option.some.injEq] at hl2
        subst hl2
        intro e
        simp only at e
        rcases hblk with e' | e'
        . exact r2 id l hl (by rw [<- e', e])
        . omega
      . simp only [ρ', hj, if_false] at hl2
        exact r2 j l2 hl2
  . refine ⟨hle, fun j l2 hl2 => ?_, fun j hi => ?_, fun j hi => ?_, fun b o hn hs => absurd hn hs, fun b hb hc => ?_, hs.size, hs.os, hs.tape, hs.output, by simp, fun j m2 hm2 hi => ?_⟩
    . by_cases hj : j = id
      . simp only [ρ', hj, if_true, Option.some.injEq] at hl2
        subst hl2
        rcases hblk with e | e
        . exact .inl ⟨l, by rw [hj]; exact hl, e.symm⟩
        . exact .inr e
      . simp only [ρ', hj, if_false] at hl2
        exact .inl ⟨l2, hl2, rfl⟩
    . simp only [ρ', if_neg (show j ≠ id by omega)]
    . rw [List.getElem?_set_ne (by omega)]; exact .refl _
    . exact hh b hb fun e => by have := hc id l hl e.symm; omega
    . by_cases hj : j = id
      . subst hj; rw [hm] at hm2; cases hm2; rw [hice] at hi; cases hi
      . exact ⟨m2, by rw [List.getElem?_set_ne (Ne.symm hj)]; exact hm2, hi⟩
theorem seal_new (h : Rel E fl Γ ρ σ w) {w' : World} (hs : Same w w') (hh : ∀ b, b < w.heap.size -> w'.heap[b]? = w.heap[b]?)
    {C : Array Value} {T : TypeId} {blk : Nat} {fr : Nat × Nat} (hb : w.heap.size <= blk) (hC : w'.heap[blk]? = some (.cells C T fr)) :
    let Γ' : Sealed := fun b o => if b = blk then C[o]? else Γ b o
    Rel E fl Γ' ρ σ w' /\ Post fl Γ ρ σ w Γ' ρ σ w' /\ ∀ o, Γ' blk o = C[o]? := by
  intro Γ'
  have hnone : ∀ o, Γ blk o = none := fun o => by
    cases hg : Γ blk o with
    | none => rfl
    | some v => have := h.seal_lt (b := blk) (o := o) (by simp [hg]); omega
  have hle : Le Γ ρ Γ' ρ := ⟨fun b o v hv => by
    have : b ≠ blk := fun e => by rw [e, hnone o] at hv; cases hv
    simp [Γ', this, hv], fun id l hl => ⟨l, hl, .inl rfl⟩⟩
  refine ⟨?_, ?_, fun o => by simp [Γ']⟩
  . refine ⟨fun b o v hv => ?_, fun id l hl => ?_, fun id l m hl hf hm hi o => ?_, h.inj, fun g cells hg => ?_, h.rock.move h.glob hle.fix (fun b hb _ => hh b hb) (fun _ id l _ hn hl => hn id l hl)⟩
    . by_cases e : b = blk
      . subst e
        simp only [Γ', if_true] at hv
        simp [World.cell?, hC, hv]
      . simp only [Γ', e, if_false] at hv
        rw [<- h.fix b o v hv]
        exact cell?_heap (hh b (World.block_lt_of_cell? _ _ (h.fix b o v hv)))
    . obtain ⟨ob, ho, hk⟩ := h.mem id l hl
      exact ⟨ob, ho, hk.move hle (hh _ (h.block_lt hl))⟩
    . have : l.block ≠ blk := by have := h.block_lt hl; omega
      simp only [Γ', this, if_false]
      exact h.apart id l m hl hf hm hi o
    . obtain ⟨vs, hv⟩ := h.glob g cells hg
      exact ⟨vs, fun j x hx => ⟨hle.fix _ _ _ (hv j x hx).1, (hv j x hx).2.1, (hv j x hx).2.2.mono hle⟩⟩
  . refine { Post.refl fl Γ ρ σ w with le := hle, fresh := fun b o hn hc => ?_, frame := fun b hb _ => hh b hb, size := hs.size, os := hs.os, tape := hs.tape, output := hs.output }
    by_cases e : b = blk
    . exact .inl (by omega)
    . simp only [Γ', e, if_false] at hc
      exact absurd hn hc
theorem ice_ok (h : Rel E fl Γ ρ σ w) {id : Nat} {l : Loc} {m : Mem} (hl : ρ id = some l) (hm : σ[id]? = some (.mem m)) :
    ∃ Γ', Rel E fl Γ' ρ (σ.set id (.mem { m with ice := true })) w /\ Post fl Γ ρ σ w Γ' ρ (σ.set id (.mem { m with ice := true })) w /\
      ∀ (j : Nat) (x : PV), m.cells[j]? = some x -> ∃ v, Γ' l.block j = some v /\ Rep Γ' ρ x v /\ x.oneCell = true := by
  obtain ⟨e1, e2, e3, e4, e5, e6, C, T, e7, e8, e9⟩ := (h.memAt hl (by simp [getMem, hm] : getMem σ id = some m)).2
  have hidlt := h.id_lt hl
  have hcell : ∀ o, w.cell? ⟨l.block, o, none⟩ = C[o]? := fun o => by simp [World.cell?, e7]
  refine ⟨fun b o => if b = l.block then C[o]? else Γ b o, ?_⟩
  generalize hΓ : (fun b o => if b = l.block then C[o]? else Γ b o : Sealed) = Γ'
  have hle : Le Γ ρ Γ' ρ := ⟨fun b o v hv => by
    subst hΓ
    by_cases e : b = l.block
    . subst e
      have := h.fix _ o v hv
      rw [hcell] at this
      simp [this]
    . simp [e, hv], fun id l hl => ⟨l, hl, .inl rfl⟩⟩
  refine ⟨?_, ?_, fun j x hx => ?_⟩
  . refine ⟨fun b o v hv => ?_, fun j l2 hl2 => ?_, fun j l2 m2 hl2 hf hm2 hi o => ?_, h.inj, fun g cells hg => ?_, h.rock.move h.glob hle.fix (fun _ _ _ => rfl) (fun _ id l _ hn hl => hn id l hl)⟩
    . subst hΓ
      by_cases e : b = l.block
      . subst e; simp only [if_true] at hv; rw [hcell, hv]
      . simp only [e, if_false] at hv; exact h.fix b o v hv
    . by_cases hj : j = id
      . subst hj
        rw [hl] at hl2
        cases hl2
        exact ⟨.mem { m with ice := true }, by simp [hidlt], e1, e2, e3, e4, e5, e6, C, T, e7, e8, e9.mono hle⟩
      . obtain ⟨ob, ho, hk⟩ := h.mem j l2 hl2
        exact ⟨ob, by rw [List.getElem?_set_ne (Ne.symm hj)]; exact ho, hk.move hle rfl⟩
    . by_cases hj : j = id
      . subst hj
        simp [hidlt] at hm2
        rw [<- hm2] at hi
        cases hi
      . rw [List.getElem?_set_ne (Ne.symm hj)] at hm2
        subst hΓ
        have hne : l2.block ≠ l.block := fun e => hj (h.inj j id l2 l hl2 hl e)
        simp only [hne, if_false]
        exact h.apart j l2 m2 hl2 hf hm2 hi o
    . obtain ⟨vs, hv⟩ := h.glob g cells hg
      exact ⟨vs, fun j x hx => ⟨hle.fix _ _ _ (hv j x hx).1, (hv j x hx).2.1, (hv j x hx).2.2.mono hle⟩⟩
  . refine { Post.refl fl Γ ρ σ w with le := hle, fresh := fun b o hn hc => ?_, lowS := fun j hj => ?_, len := by simp, ice := fun j m2 hm2 hi => ?_ }
    . by_cases hj : j = id
      . subst hj
        rw [hm]
        simp [hidlt, SameOb]
      . rw [List.getElem?_set_ne (Ne.symm hj)]; exact .refl _
    . subst hΓ
      by_cases e : b = l.block
      . exact .inr ⟨id, l, { m with ice := true }, hl, e.symm, by simp [hidlt], rfl⟩
      . simp only [e, if_false] at hc
        exact absurd hn hc
    . by_cases hj : j = id
      . subst hj
        exact ⟨{ m with ice := true }, by simp [hidlt], rfl⟩
      . exact ⟨m2, by rw [List.getElem?_set_ne (Ne.symm hj)]; exact hm2, hi⟩
  . have hj : j < m.cells.length := (List.getElem?_eq_some_iff.1 hx).1
    have hjC : j < (C.toList.take m.cells.length).length := by have := e9.1; omega
    have hv : (C.toList.take m.cells.length)[j]? = some (C.toList.take m.cells.length)[j] := List.getElem?_eq_getElem hjC
    refine ⟨_, ?_, (e9.2 j x _ hx hv).mono hle, List.all_eq_true.1 e6 x (List.mem_of_getElem? hx)⟩
    subst hΓ
    rw [List.getElem?_take, if_pos hj, Array.getElem?_toList] at hv
    simp only [if_true]
    exact hv
end
end
end Go.Proofs.YtaofbpldflcjmaaDoor.Am
