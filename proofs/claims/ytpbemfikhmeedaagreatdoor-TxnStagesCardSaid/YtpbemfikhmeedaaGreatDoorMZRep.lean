/- What a value of the interpreter says of a value of the machine; what its store says of the world; how the world moves on. -/
import Derived.Test.YtpbemfikhmeedaaGreatDoorMZAm
import Derived.Laws.Cells
import Derived.Laws.CopyRow
import Derived.Laws.Rows
import Derived.Laws.Unary
import Derived.Laws.Strings
set_option linter.unusedVariables false
set_option linter.unusedSimpArgs false
namespace Go.Proofs.YtpbemfikhmeedaaGreatDoor.Am
structure Loc where
  block : Nat
  cap : Nat
  len : Nat
  size : Nat
abbrev Ren := Nat -> Option Loc
abbrev Sealed := Nat -> Nat -> Option Value
inductive Rep (Γ : Sealed) (ρ : Ren) : PV -> Value -> Prop
  | bool (b : Bool) : Rep Γ ρ (.bool b) (.bool b)
  | int (k : IntKind) (n : Int) : Rep Γ ρ (.int k n) (.int k n)
  | str (l : List UInt8) : Rep Γ ρ (.str l) (.string ⟨⟨l⟩⟩)
  | nilp : Rep Γ ρ .nilp (.pointer none)
  | ptr {id blen off : Nat} (l : Loc) (h : ρ id = some l) (hl : blen = l.len) : Rep Γ ρ (.ptr id blen off) (.pointer (some ⟨l.block, off, none⟩))
  | ptrOld {id blen off : Nat} (l : Loc) (h : ρ id = some l) (hl : blen < l.len) (a : Addr) : Rep Γ ρ (.ptr id blen off) (.pointer (some a))
  | eptr {cells : List PV} {off : Nat} (b o : Nat) (vs : Nat -> Value) (h : ∀ (j : Nat) (x : PV), cells[j]? = some x -> Γ b (o + j) = some (vs j) /\ x.oneCell = true)
      (hr : ∀ (j : Nat) (x : PV), cells[j]? = some x -> Rep Γ ρ x (vs j)) : Rep Γ ρ (.eptr cells off) (.pointer (some ⟨b, o + off, none⟩))
  | glob (g off : Nat) : Rep Γ ρ (.glob g off) (.pointer (some ⟨g, off, none⟩))
  | gptr {g : Nat} (t : TypeId) (a : Addr) (h : Γ g 0 = some (.iface t (.pointer (some a)))) : Rep Γ ρ (.gptr g) (.pointer (some a))
  | nils : Rep Γ ρ .nils (.slice none 0 0)
  | sl {cells : List PV} {es len : Nat} {xc : Option Nat} (a : Addr) (cap : Nat) (vs : Nat -> Value) (hn : cells.length = len * es) (hc : len <= cap) (hx : ∀ c, xc = some c -> cap = c)
      (h : ∀ (j : Nat) (x : PV), cells[j]? = some x -> a.spot = none /\ Γ a.block (a.off + j) = some (vs j) /\ x.oneCell = true)
      (hr : ∀ (j : Nat) (x : PV), cells[j]? = some x -> Rep Γ ρ x (vs j)) : Rep Γ ρ (.sl cells es len xc) (.slice (some a) len cap)
  | slNil {es : Nat} {xc : Option Nat} (hx : ∀ c, xc = some c -> c = 0) : Rep Γ ρ (.sl [] es 0 xc) (.slice none 0 0)
  | sln {es : Nat} (a : Addr) (cap : Nat) : Rep Γ ρ (.sln es) (.slice (some a) 0 cap)
  | osl {id blen coff es len : Nat} {xc : Option Nat} (l : Loc) (cap : Nat) (h : ρ id = some l) (hl : blen = l.len)
      (hc : len <= cap) (hx : ∀ c, xc = some c -> cap = c) (ho : xc = none -> es = l.size /\ cap * es + coff = l.cap * es) : Rep Γ ρ (.osl id blen coff es len xc) (.slice (some ⟨l.block, coff, none⟩) len cap)
  | oslOld {id blen coff es len : Nat} {xc : Option Nat} (l : Loc) (h : ρ id = some l) (hl : blen < l.len) (a : Addr) (cap : Nat) (hc : len <= cap) (hx : ∀ c, xc = some c -> cap = c) : Rep Γ ρ (.osl id blen coff es len xc) (.slice (some a) len cap)
  | agg {xs : List PV} {vs : Array Value} (hn : vs.size = xs.length) (h : ∀ (j : Nat) (x : PV) (v : Value), xs[j]? = some x -> vs[j]? = some v -> Rep Γ ρ x v) : Rep Γ ρ (.agg xs) (.agg vs)
  | fn (f : Fn) {xs ys : List PV} {vs us : Array Value} (hn : vs.size = xs.length) (hm : us.size = ys.length) (h : ∀ (j : Nat) (x : PV) (v : Value), xs[j]? = some x -> vs[j]? = some v -> Rep Γ ρ x v)
      (h' : ∀ (j : Nat) (x : PV) (v : Value), ys[j]? = some x -> us[j]? = some v -> Rep Γ ρ x v) : Rep Γ ρ (.fn f xs ys) (.func f vs us)
  | nilfn : Rep Γ ρ .nilfn .nilFunc
  | iface (t : TypeId) {x : PV} {v : Value} (h : Rep Γ ρ x v) : Rep Γ ρ (.iface t x) (.iface t v)
  | nilif : Rep Γ ρ .nilif .nilIface
  | tup {xs : List PV} {vs : Array Value} (hn : vs.size = xs.length) (h : ∀ (j : Nat) (x : PV) (v : Value), xs[j]? = some x -> vs[j]? = some v -> Rep Γ ρ x v) : Rep Γ ρ (.tup xs) (.tuple vs)
  | nilm : Rep Γ ρ .nilm (.map none)
  | yld (l : Nat) : Rep Γ ρ .yld (.func (.yield l) #[] #[])
  | mp {id : Nat} (l : Loc) (h : ρ id = some l) (hz : l.size = 0) : Rep Γ ρ (.mp id) (.map (some l.block))
structure Le (Γ : Sealed) (ρ : Ren) (Γ' : Sealed) (ρ' : Ren) : Prop where
  fix : ∀ b o v, Γ b o = some v -> Γ' b o = some v
  ren : ∀ id l, ρ id = some l -> ∃ l' : Loc, ρ' id = some l' /\ (l' = l ∨ (l.len < l'.len /\ l'.size = l.size /\ 0 < l.size))
theorem Le.refl (Γ : Sealed) (ρ : Ren) : Le Γ ρ Γ ρ := ⟨fun _ _ _ h => h, fun _ l h => ⟨l, h, .inl rfl⟩⟩
theorem Le.trans {Γ ρ Γ' ρ' Γ'' ρ''} (h : Le Γ ρ Γ' ρ') (k : Le Γ' ρ' Γ'' ρ'') : Le Γ ρ Γ'' ρ'' := by
  refine ⟨fun b o v hv => k.fix b o v (h.fix b o v hv), fun id l hl => ?_⟩
  obtain ⟨l1, h1, e1⟩ := h.ren id l hl
  obtain ⟨l2, h2, e2⟩ := k.ren id l1 h1
  refine ⟨l2, h2, ?_⟩
  rcases e1 with rfl | ⟨e1, s1, z1⟩
  . exact e2
  . rcases e2 with rfl | ⟨e2, s2, z2⟩
    . exact .inr ⟨e1, s1, z1⟩
    . exact .inr ⟨by omega, s2.trans s1, z1⟩
theorem Rep.mono {Γ ρ Γ' ρ'} (hle : Le Γ ρ Γ' ρ') {x : PV} {v : Value} (h : Rep Γ ρ x v) : Rep Γ' ρ' x v := by
  induction h with
  | bool b => exact .bool b
  | int k n => exact .int k n
  | str l => exact .str l
  | nilp => exact .nilp
  | ptr l h hl =>
    obtain ⟨l', h', e⟩ := hle.ren _ _ h
    rcases e with rfl | ⟨e, _⟩
    . exact .ptr _ h' hl
    . exact .ptrOld l' h' (by omega) _
  | ptrOld l h hl a =>
    obtain ⟨l', h', e⟩ := hle.ren _ _ h
    exact .ptrOld l' h' (by rcases e with rfl | ⟨e, _⟩ <;> omega) _
  | eptr b o vs h hr ih => exact .eptr b o vs (fun j x hx => ⟨hle.fix _ _ _ (h j x hx).1, (h j x hx).2⟩) ih
  | glob g off => exact .glob g off
  | gptr t a h => exact .gptr t a (hle.fix _ _ _ h)
  | nils => exact .nils
  | sl a cap vs hn hc hx h hr ih => exact .sl a cap vs hn hc hx (fun j x hj => ⟨(h j x hj).1, hle.fix _ _ _ (h j x hj).2.1, (h j x hj).2.2⟩) ih
  | slNil hx => exact .slNil hx
  | sln a cap => exact .sln a cap
  | osl l cap h hl hc hx ho =>
    obtain ⟨l', h', e⟩ := hle.ren _ _ h
    rcases e with rfl | ⟨e, _⟩
    . exact .osl _ cap h' hl hc hx ho
    . exact .oslOld l' h' (by omega) _ _ hc hx
  | oslOld l h hl a cap hc hx =>
    obtain ⟨l', h', e⟩ := hle.ren _ _ h
    exact .oslOld l' h' (by rcases e with rfl | ⟨e, _⟩ <;> omega) _ _ hc hx
  | agg hn h ih => exact .agg hn ih
  | fn f hn hm h h' ih ih' => exact .fn f hn hm ih ih'
  | nilfn => exact .nilfn
  | iface t h ih => exact .iface t ih
  | nilif => exact .nilif
  | tup hn h ih => exact .tup hn ih
  | nilm => exact .nilm
  | yld l => exact .yld l
  | mp l h hz =>
    obtain ⟨l', h', e⟩ := hle.ren _ _ h
    rcases e with rfl | ⟨e, _, z⟩
    . exact .mp _ h' hz
    . omega
theorem Rep.oneCell {Γ ρ} {x : PV} {v : Value} (h : Rep Γ ρ x v) : v.oneCell' = x.oneCell := by cases h <;> rfl
def Reps (Γ : Sealed) (ρ : Ren) (xs : List PV) (vs : List Value) : Prop := vs.length = xs.length /\ ∀ (j : Nat) (x : PV) (v : Value), xs[j]? = some x -> vs[j]? = some v -> Rep Γ ρ x v
theorem Reps.nil {Γ ρ} : Reps Γ ρ [] [] := ⟨rfl, fun j x v h => by simp at h⟩
theorem Reps.cons {Γ ρ x v xs vs} (h : Rep Γ ρ x v) (hs : Reps Γ ρ xs vs) : Reps Γ ρ (x :: xs) (v :: vs) := by
  refine ⟨by simp [hs.1], fun j y u hy hu => ?_⟩
  cases j with
  | zero => simp at hy hu; subst hy hu; exact h
  | succ j => simp at hy hu; exact hs.2 j y u hy hu
theorem Reps.inv_nil {Γ ρ vs} (h : Reps Γ ρ [] vs) : vs = [] := by simpa using h.1
theorem Reps.inv_cons {Γ ρ x xs vs} (h : Reps Γ ρ (x :: xs) vs) : ∃ v ws, vs = v :: ws /\ Rep Γ ρ x v /\ Reps Γ ρ xs ws := by
  obtain ⟨hn, h⟩ := h
  cases vs with
  | nil => simp at hn
  | cons v ws =>
    refine ⟨v, ws, rfl, h 0 x v rfl rfl, by simpa using hn, fun j y u hy hu => h (j + 1) y u (by simpa using hy) (by simpa using hu)⟩
theorem Reps.append {Γ ρ xs vs ys us} (h : Reps Γ ρ xs vs) (k : Reps Γ ρ ys us) : Reps Γ ρ (xs ++ ys) (vs ++ us) := by
  refine ⟨by simp [h.1, k.1], fun j x v hx hv => ?_⟩
  by_cases hj : j < xs.length
  . rw [List.getElem?_append_left hj] at hx
    rw [List.getElem?_append_left (by have := h.1; omega)] at hv
    exact h.2 j x v hx hv
  . rw [List.getElem?_append_right (by omega)] at hx
    rw [List.getElem?_append_right (by have := h.1; omega), h.1] at hv
    exact k.2 _ x v hx hv
theorem Reps.take {Γ ρ xs vs} (n : Nat) (h : Reps Γ ρ xs vs) : Reps Γ ρ (xs.take n) (vs.take n) := by
  refine ⟨by simp [h.1], fun j x v hx hv => ?_⟩
  rw [List.getElem?_take] at hx hv
  split at hx
  . rename_i hj; rw [if_pos hj] at hv; exact h.2 j x v hx hv
  . simp at hx
theorem Reps.drop {Γ ρ xs vs} (n : Nat) (h : Reps Γ ρ xs vs) : Reps Γ ρ (xs.drop n) (vs.drop n) := by
  refine ⟨by simp [h.1], fun j x v hx hv => ?_⟩
  rw [List.getElem?_drop] at hx hv
  exact h.2 _ x v hx hv
theorem Reps.mono {Γ ρ Γ' ρ' xs vs} (hle : Le Γ ρ Γ' ρ') (h : Reps Γ ρ xs vs) : Reps Γ' ρ' xs vs := ⟨h.1, fun j x v hx hv => (h.2 j x v hx hv).mono hle⟩
theorem Reps.splice {Γ ρ xs vs ys us} {off : Nat} (h : Reps Γ ρ xs vs) (k : Reps Γ ρ ys us) : Reps Γ ρ (splice xs off ys) (vs.take off ++ (us ++ vs.drop (off + us.length))) := by
  unfold Am.splice
  rw [k.1]
  exact (h.take off).append (k.append (h.drop _))
theorem Reps.agg {Γ ρ xs vs} (h : Reps Γ ρ xs vs) : Rep Γ ρ (.agg xs) (.agg vs.toArray) := .agg (by simp [h.1]) (fun j x v hx hv => h.2 j x v hx (by simpa using hv))
theorem Reps.of_agg {Γ ρ xs v} (h : Rep Γ ρ (.agg xs) v) : ∃ vs : Array Value, v = .agg vs /\ Reps Γ ρ xs vs.toList := by
  cases h with
  | agg hn h => exact ⟨_, rfl, by simpa using hn, fun j x v hx hv => h j x v hx (by simpa using hv)⟩
theorem Rep.cells {Γ ρ x v} (h : Rep Γ ρ x v) : Reps Γ ρ x.cells v.cells.toList := by
  cases h with
  | agg hn h => exact ⟨by simpa [Value.cells, PV.cells] using hn, fun j x v hx hv => h j x v hx (by simpa [Value.cells] using hv)⟩
  | _ => exact Reps.cons (by constructor <;> assumption) Reps.nil
theorem Reps.oneCell {Γ ρ xs vs} (h : Reps Γ ρ xs vs) (ho : xs.all PV.oneCell = true) : ∀ v ∈ vs, v.oneCell' = true := by
  intro v hv
  obtain ⟨j, hj, rfl⟩ := List.getElem_of_mem hv
  have hlt : j < xs.length := by have := h.1; omega
  rw [(h.2 j xs[j] vs[j] (by simp [hlt]) (by simp [hj])).oneCell]
  exact List.all_eq_true.1 ho _ (List.getElem_mem hlt)
end Go.Proofs.YtpbemfikhmeedaaGreatDoor.Am
