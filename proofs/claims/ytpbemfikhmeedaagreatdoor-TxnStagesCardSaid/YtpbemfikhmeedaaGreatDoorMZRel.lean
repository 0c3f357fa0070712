/- The store and the world: what holds of both, and what a step may do. -/
import Derived.Test.YtpbemfikhmeedaaGreatDoorMZRep
import Derived.Below
set_option linter.unusedVariables false
set_option linter.unusedSimpArgs false
namespace Go.Proofs.YtpbemfikhmeedaaGreatDoor.Am
def MemOk (Γ : Sealed) (ρ : Ren) (w : World) (l : Loc) (m : Mem) : Prop :=
  l.len = m.len /\ l.size = m.size /\ m.cells.length = m.len * m.size /\ m.len <= l.cap /\ (m.exact = true -> l.cap = m.len) /\ m.cells.all PV.oneCell = true /\
  ∃ (C : Array Value) (T : TypeId), w.heap[l.block]? = some (.cells C T (0, 0)) /\ C.size = l.cap * m.size /\ Reps Γ ρ m.cells (C.toList.take m.cells.length)
def OverOk (ρ : Ren) : Option Nat -> Option Nat -> Prop
  | none, mo => mo = none
  | some id, mo => ∃ l : Loc, ρ id = some l /\ l.size = 0 /\ mo = some l.block
def EntsOk (Γ : Sealed) (ρ : Ren) (es : List (PV × PV)) (A : List MapEntry) : Prop :=
  A.length = es.length /\ ∀ (j : Nat) (e : PV × PV) (a : MapEntry), es[j]? = some e -> A[j]? = some a -> Rep Γ ρ e.1 a.key /\ Rep Γ ρ e.2 a.val
def MapOk (Γ : Sealed) (ρ : Ren) (w : World) (l : Loc) (m : MapO) : Prop :=
  l.size = 0 /\ l.len = 0 /\ match m.iter with
  | none => ∃ A : Array MapEntry, w.heap[l.block]? = some (.map A m.clock) /\ A.toList.map MapEntry.born = m.born /\ EntsOk Γ ρ m.es A.toList
  | some (o, since, seen, last) => ∃ mo, w.heap[l.block]? = some (.mapIter mo since seen.toArray last) /\ OverOk ρ o mo
def ObOk (Γ : Sealed) (ρ : Ren) (w : World) (l : Loc) : Ob -> Prop
  | .mem m => MemOk Γ ρ w l m
  | .map m => MapOk Γ ρ w l m
theorem MemOk.move {Γ ρ w Γ' ρ' w'} {l : Loc} {m : Mem} (h : MemOk Γ ρ w l m) (hle : Le Γ ρ Γ' ρ') (hh : w'.heap[l.block]? = w.heap[l.block]?) : MemOk Γ' ρ' w' l m := by
  obtain ⟨k1, k2, k3, k4, k5, k6, C, T, k7, k8, k9⟩ := h
  exact ⟨k1, k2, k3, k4, k5, k6, C, T, hh.trans k7, k8, k9.mono hle⟩
theorem OverOk.move {Γ ρ Γ' ρ'} {o mo : Option Nat} (h : OverOk ρ o mo) (hle : Le Γ ρ Γ' ρ') : OverOk ρ' o mo := by
  cases o with
  | none => exact h
  | some id =>
    obtain ⟨l, h1, h2, h3⟩ := h
    obtain ⟨l', h4, h5⟩ := hle.ren id l h1
    rcases h5 with rfl | ⟨_, _, h6⟩
    . exact ⟨_, h4, h2, h3⟩
    . omega
theorem EntsOk.move {Γ ρ Γ' ρ'} {es : List (PV × PV)} {A : List MapEntry} (h : EntsOk Γ ρ es A) (hle : Le Γ ρ Γ' ρ') : EntsOk Γ' ρ' es A :=
  ⟨h.1, fun j e a h1 h2 => ⟨(h.2 j e a h1 h2).1.mono hle, (h.2 j e a h1 h2).2.mono hle⟩⟩
theorem MapOk.move {Γ ρ w Γ' ρ' w'} {l : Loc} {m : MapO} (h : MapOk Γ ρ w l m) (hle : Le Γ ρ Γ' ρ') (hh : w'.heap[l.block]? = w.heap[l.block]?) : MapOk Γ' ρ' w' l m := by
  obtain ⟨k1, k2, k3⟩ := h
  refine ⟨k1, k2, ?_⟩
  split at k3
  . rename_i hi
    obtain ⟨A, a1, a2, a3⟩ := k3
    exact ⟨A, hh.trans a1, a2, a3.move hle⟩
  . rename_i hi
    obtain ⟨mo, a1, a2⟩ := k3
    exact ⟨mo, hh.trans a1, a2.move hle⟩
theorem ObOk.move {Γ ρ w Γ' ρ' w'} {l : Loc} {ob : Ob} (h : ObOk Γ ρ w l ob) (hle : Le Γ ρ Γ' ρ') (hh : w'.heap[l.block]? = w.heap[l.block]?) : ObOk Γ' ρ' w' l ob := by
  cases ob with
  | mem m => exact MemOk.move h hle hh
  | map m => exact MapOk.move h hle hh
theorem ObOk.alive {Γ ρ w} {l : Loc} {ob : Ob} (h : ObOk Γ ρ w l ob) : l.block < w.heap.size := by
  cases ob with
  | mem m =>
    obtain ⟨_, _, _, _, _, _, C, T, hC, _⟩ := h
    exact (Array.getElem?_eq_some_iff.1 hC).1
  | map m =>
    obtain ⟨_, _, k3⟩ := h
    split at k3
    . obtain ⟨A, a1, _⟩ := k3
      exact (Array.getElem?_eq_some_iff.1 a1).1
    . obtain ⟨mo, a1, _⟩ := k3
      exact (Array.getElem?_eq_some_iff.1 a1).1
def Rock (E : Env) (Γ : Sealed) (b : Nat) : Prop := ∃ (g : Nat) (t : TypeId) (a : Addr), E.G g = some [.iface t (.gptr g)] /\ Γ g 0 = some (.iface t (.pointer (some a))) /\ a.block = b
structure Rocks (E : Env) (Γ : Sealed) (ρ : Ren) (w : World) : Prop where
  stay : ∀ b, Rock E Γ b -> (∃ (C : Array Value) (T : TypeId), w.heap[b]? = some (.cells C T (0, 0))) /\ ∀ (id : Nat) (l : Loc), ρ id = some l -> l.block ≠ b
  uniq : ∀ (g g' : Nat) (t t' : TypeId) (a : Addr), E.G g = some [.iface t (.gptr g)] -> E.G g' = some [.iface t' (.gptr g')] -> Γ g 0 = some (.iface t (.pointer (some a))) -> Γ g' 0 = some (.iface t' (.pointer (some a))) -> g = g'
theorem Rocks.move {E : Env} {Γ Γ' : Sealed} {ρ ρ' : Ren} {w w' : World} (h : Rocks E Γ ρ w)
    (hg : ∀ g cells, E.G g = some cells -> ∃ vs : Nat -> Value, ∀ (j : Nat) (x : PV), cells[j]? = some x -> Γ g j = some (vs j) /\ x.oneCell = true /\ Rep Γ ρ x (vs j))
    (hf : ∀ b o v, Γ b o = some v -> Γ' b o = some v) (hh : ∀ b, b < w.heap.size -> (∀ (id : Nat) (l : Loc), ρ id = some l -> l.block ≠ b) -> w'.heap[b]? = w.heap[b]?)
    (hr : ∀ (b id : Nat) (l : Loc), b < w.heap.size -> (∀ (id : Nat) (l : Loc), ρ id = some l -> l.block ≠ b) -> ρ' id = some l -> l.block ≠ b) : Rocks E Γ' ρ' w' := by
  have back : ∀ (g : Nat) (t : TypeId) (v : Value), E.G g = some [.iface t (.gptr g)] -> Γ' g 0 = some v -> Γ g 0 = some v := by
    intro g t v h1 h2
    obtain ⟨vs, hv⟩ := hg g _ h1
    have h3 := (hv 0 _ rfl).1
    rw [hf _ _ _ h3] at h2
    rw [h3, h2]
  refine ⟨fun b hb => ?_, fun g g' t t' a h1 h2 h3 h4 => h.uniq g g' t t' a h1 h2 (back _ _ _ h1 h3) (back _ _ _ h2 h4)⟩
  obtain ⟨g, t, a, h1, h2, h3⟩ := hb
  obtain ⟨⟨C, T, h4⟩, h5⟩ := h.stay b ⟨g, t, a, h1, back _ _ _ h1 h2, h3⟩
  have hlt := (Array.getElem?_eq_some_iff.1 h4).1
  exact ⟨⟨C, T, (hh b hlt h5).trans h4⟩, fun id l hl => hr b id l hlt h5 hl⟩
structure Rel (E : Env) (fl : Nat) (Γ : Sealed) (ρ : Ren) (σ : Store) (w : World) : Prop where
  fix : ∀ b o v, Γ b o = some v -> w.cell? ⟨b, o, none⟩ = some v
  mem : ∀ id l, ρ id = some l -> ∃ ob, σ[id]? = some ob /\ ObOk Γ ρ w l ob
  apart : ∀ (id : Nat) (l : Loc) (m : Mem), ρ id = some l -> fl <= id -> σ[id]? = some (.mem m) -> m.ice = false -> ∀ o, Γ l.block o = none
  inj : ∀ i j li lj, ρ i = some li -> ρ j = some lj -> li.block = lj.block -> i = j
  glob : ∀ g cells, E.G g = some cells -> ∃ vs : Nat -> Value, ∀ (j : Nat) (x : PV), cells[j]? = some x -> Γ g j = some (vs j) /\ x.oneCell = true /\ Rep Γ ρ x (vs j)
  rock : Rocks E Γ ρ w
def SameOb : Option Ob -> Option Ob -> Prop
  | some (.mem m), some (.mem m') => m'.cells = m.cells /\ m'.size = m.size /\ m'.len = m.len /\ m'.exact = m.exact
  | a, b => a = b
theorem SameOb.refl (a : Option Ob) : SameOb a a := by
  unfold SameOb; split
  . rename_i h; simp_all
  . rfl
theorem SameOb.trans {a b c : Option Ob} (h : SameOb a b) (k : SameOb b c) : SameOb a c := by
  cases a with
  | none => cases b with
    | none => exact k
    | some b => simp [SameOb] at h
  | some a => cases b with
    | none => cases a <;> simp [SameOb] at h
    | some b => cases a <;> cases b <;> cases c with
      | none => simp_all [SameOb]
      | some c => cases c <;> simp_all [SameOb]
theorem SameOb.mem {m : Mem} {b : Option Ob} (h : SameOb (some (.mem m)) b) : ∃ m' : Mem, b = some (.mem m') /\ m'.cells = m.cells /\ m'.size = m.size /\ m'.len = m.len /\ m'.exact = m.exact := by
  cases b with
  | none => simp [SameOb] at h
  | some b => cases b with
    | mem m' => exact ⟨m', rfl, h⟩
    | map es => simp [SameOb] at h
theorem SameOb.mem' {m' : Mem} {a : Option Ob} (h : SameOb a (some (.mem m'))) : ∃ m : Mem, a = some (.mem m) /\ m'.cells = m.cells /\ m'.size = m.size /\ m'.len = m.len /\ m'.exact = m.exact := by
  cases a with
  | none => simp [SameOb] at h
  | some b => cases b with
    | mem m => exact ⟨m, rfl, h⟩
    | map es => simp [SameOb] at h
def toldA : Bool := true
def toldB : Bool := true
def drawsTold : Bool := toldA && toldB
structure OutOk (w w' : World) : Prop where
  out : w'.output = w.output
  drawn : drawsTold = true -> w.drawn <= w'.drawn
theorem OutOk.refl (w : World) : OutOk w w := ⟨rfl, fun _ => Nat.le_refl _⟩
theorem OutOk.trans {a b c : World} (h : OutOk a b) (k : OutOk b c) : OutOk a c := ⟨k.out.trans h.out, fun e => Nat.le_trans (h.drawn e) (k.drawn e)⟩
structure Post (fl : Nat) (Γ : Sealed) (ρ : Ren) (σ : Store) (w : World) (Γ' : Sealed) (ρ' : Ren) (σ' : Store) (w' : World) : Prop where
  le : Le Γ ρ Γ' ρ'
  blocks : ∀ id l', ρ' id = some l' -> (∃ l : Loc, ρ id = some l /\ l.block = l'.block) ∨ w.heap.size <= l'.block
  low : ∀ id, id < fl -> ρ' id = ρ id
  lowS : ∀ id, id < fl -> SameOb σ[id]? σ'[id]?
  fresh : ∀ b o, Γ b o = none -> Γ' b o ≠ none -> w.heap.size <= b ∨ ∃ (id : Nat) (l : Loc) (m : Mem), ρ id = some l /\ l.block = b /\ σ'[id]? = some (.mem m) /\ m.ice = true
  frame : ∀ b, b < w.heap.size -> (∀ id l, ρ id = some l -> l.block = b -> id < fl) -> w'.heap[b]? = w.heap[b]?
  size : w.heap.size <= w'.heap.size
  os : w'.os = w.os
  tape : w'.tape = w.tape
  output : OutOk w w'
  len : σ.length <= σ'.length
  ice : ∀ (id : Nat) (m : Mem), σ[id]? = some (.mem m) -> m.ice = true -> ∃ m' : Mem, σ'[id]? = some (.mem m') /\ m'.ice = true
theorem Post.refl (fl : Nat) (Γ : Sealed) (ρ : Ren) (σ : Store) (w : World) : Post fl Γ ρ σ w Γ ρ σ w where
  le := .refl _ _
  blocks := fun _ l h => .inl ⟨l, h, rfl⟩
  low := fun _ _ => rfl
  lowS := fun _ _ => .refl _
  fresh := fun b o h k => absurd h k
  frame := fun _ _ _ => rfl
  size := Nat.le_refl _
  os := rfl
  tape := rfl
  output := .refl _
  len := Nat.le_refl _
  ice := fun _ m h k => ⟨m, h, k⟩
theorem Post.trans {fl Γ ρ σ w Γ' ρ' σ' w' Γ'' ρ'' σ'' w''} (h : Post fl Γ ρ σ w Γ' ρ' σ' w') (k : Post fl Γ' ρ' σ' w' Γ'' ρ'' σ'' w'') : Post fl Γ ρ σ w Γ'' ρ'' σ'' w'' where
  le := h.le.trans k.le
  blocks := fun id l hl => by
    rcases k.blocks id l hl with ⟨l1, h1, e1⟩ | h1
    . rcases h.blocks id l1 h1 with ⟨l0, h0, e0⟩ | h0
      . exact .inl ⟨l0, h0, e0.trans e1⟩
      . exact .inr (by omega)
    . exact .inr (Nat.le_trans h.size h1)
  low := fun id hi => (k.low id hi).trans (h.low id hi)
  lowS := fun id hi => (h.lowS id hi).trans (k.lowS id hi)
  fresh := fun b o hn hs => by
    by_cases h1 : Γ' b o = none
    . rcases k.fresh b o h1 hs with h2 | ⟨id, l1, m, hl, hb, hm, hi⟩
      . exact .inl (Nat.le_trans h.size h2)
      . rcases h.blocks id l1 hl with ⟨l0, h0, e0⟩ | h0
        . exact .inr ⟨id, l0, m, h0, e0.trans hb, hm, hi⟩
        . exact .inl (by omega)
    . rcases h.fresh b o hn h1 with h2 | ⟨id, l1, m, hl, hb, hm, hi⟩
      . exact .inl h2
      . obtain ⟨m', hm', hi'⟩ := k.ice id m hm hi
        exact .inr ⟨id, l1, m', hl, hb, hm', hi'⟩
  frame := fun b hb hc => by
    rw [k.frame b (Nat.lt_of_lt_of_le hb h.size) fun id l hl he => ?_, h.frame b hb hc]
    rcases h.blocks id l hl with ⟨l0, h0, e0⟩ | h0
    . exact hc id l0 h0 (e0.trans he)
    . omega
  size := Nat.le_trans h.size k.size
  os := k.os.trans h.os
  tape := k.tape.trans h.tape
  output := h.output.trans k.output
  len := Nat.le_trans h.len k.len
  ice := fun id m hm hi => by
    obtain ⟨m1, h1, i1⟩ := h.ice id m hm hi
    exact k.ice id m1 h1 i1
theorem Post.mono {fl fl' Γ ρ σ w Γ' ρ' σ' w'} (h : Post fl' Γ ρ σ w Γ' ρ' σ' w') (hf : fl <= fl') : Post fl Γ ρ σ w Γ' ρ' σ' w' :=
  { h with
    low := fun id hi => h.low id (Nat.lt_of_lt_of_le hi hf)
    lowS := fun id hi => h.lowS id (Nat.lt_of_lt_of_le hi hf)
    frame := fun b hb hc => h.frame b hb fun id l hl he => Nat.lt_of_lt_of_le (hc id l hl he) hf }
section
variable {E : Env} {fl : Nat} {Γ : Sealed} {ρ : Ren} {σ : Store} {w : World}
theorem getMem_get {σ : Store} {id : Nat} {m : Mem} (hm : getMem σ id = some m) : σ[id]? = some (.mem m) := by
  unfold getMem at hm
  split at hm
  . rename_i m' h; cases hm; exact h
  . cases hm
theorem getMap_get {σ : Store} {id : Nat} {m : MapO} (hm : getMap σ id = some m) : σ[id]? = some (.map m) /\ m.iter = none := by
  unfold getMap at hm
  split at hm
  . rename_i m' h
    split at hm
    . rename_i hi
      cases hm
      exact ⟨h, hi⟩
    . cases hm
  . cases hm
theorem Rel.memAt (h : Rel E fl Γ ρ σ w) {id : Nat} {l : Loc} (hl : ρ id = some l) {m : Mem} (hm : getMem σ id = some m) : σ[id]? = some (.mem m) /\ MemOk Γ ρ w l m := by
  obtain ⟨ob, ho, hk⟩ := h.mem id l hl
  have := getMem_get hm
  rw [ho] at this
  cases this
  exact ⟨ho, hk⟩
theorem Rel.mapAt (h : Rel E fl Γ ρ σ w) {id : Nat} {l : Loc} (hl : ρ id = some l) {m : MapO} (hm : getMap σ id = some m) :
    σ[id]? = some (.map m) /\ l.size = 0 /\ l.len = 0 /\ m.iter = none /\ ∃ A : Array MapEntry, w.heap[l.block]? = some (.map A m.clock) /\ A.toList.map MapEntry.born = m.born /\ EntsOk Γ ρ m.es A.toList := by
  obtain ⟨ob, ho, hk⟩ := h.mem id l hl
  obtain ⟨h1, h2⟩ := getMap_get hm
  rw [ho] at h1
  cases h1
  obtain ⟨k1, k2, k3⟩ := hk
  rw [h2] at k3
  exact ⟨ho, k1, k2, h2, k3⟩
theorem Rel.block_lt (h : Rel E fl Γ ρ σ w) {id : Nat} {l : Loc} (hl : ρ id = some l) : l.block < w.heap.size := by
  obtain ⟨ob, _, hk⟩ := h.mem id l hl
  exact hk.alive
theorem Rel.id_lt (h : Rel E fl Γ ρ σ w) {id : Nat} {l : Loc} (hl : ρ id = some l) : id < σ.length := by
  obtain ⟨ob, ho, _⟩ := h.mem id l hl
  exact (List.getElem?_eq_some_iff.1 ho).1
theorem Rel.seal_lt (h : Rel E fl Γ ρ σ w) {b o : Nat} (hs : Γ b o ≠ none) : b < w.heap.size := by
  cases hv : Γ b o with
  | none => exact absurd hv hs
  | some v => exact World.block_lt_of_cell? _ _ (h.fix b o v hv)
theorem Rel.widen {fl' : Nat} {Γ' : Sealed} {ρ' : Ren} {σ' : Store} {w' : World} (h : Rel E fl Γ ρ σ w) (h' : Rel E fl' Γ' ρ' σ' w') (hp : Post fl' Γ ρ σ w Γ' ρ' σ' w') : Rel E fl Γ' ρ' σ' w' := by
  refine { h' with apart := fun id l m hl hf hm hi o => ?_ }
  by_cases hlt : fl' <= id
  . exact h'.apart id l m hl hlt hm hi o
  . have e := hp.low id (by omega)
    rw [e] at hl
    obtain ⟨m0, hm0, _⟩ := (hm ▸ hp.lowS id (by omega) : SameOb σ[id]? (some (.mem m))).mem'
    have hi0 : m0.ice = false := by
      cases hc : m0.ice with
      | false => rfl
      | true =>
        obtain ⟨m1, h1, h2⟩ := hp.ice id m0 hm0 hc
        rw [hm] at h1; cases h1; rw [hi] at h2; cases h2
    have h0 := h.apart id l m0 hl hf hm0 hi0 o
    cases hg : Γ' l.block o with
    | none => rfl
    | some v =>
      rcases hp.fresh l.block o h0 (by simp [hg]) with hb | ⟨id2, l2, m2, hl2, hb, hm2, hi2⟩
      . have := h.block_lt hl; omega
      . have := h.inj id2 id l2 l hl2 hl hb
        subst this
        rw [hm] at hm2; cases hm2; rw [hi] at hi2; cases hi2
theorem Rel.world (h : Rel E fl Γ ρ σ w) {w' : World} (hh : ∀ b, b < w.heap.size -> w'.heap[b]? = w.heap[b]?) : Rel E fl Γ ρ σ w' := by
  refine { h with fix := fun b o v hv => ?_, mem := fun id l hl => ?_, rock := h.rock.move h.glob (fun _ _ _ h => h) (fun b hb _ => hh b hb) (fun _ id l _ hn hl => hn id l hl) }
  . have hc := h.fix b o v hv
    rw [<- hc]
    exact World.cell?_of_block (w := w) (hh b (World.block_lt_of_cell? _ _ hc))
  . obtain ⟨ob, ho, hk⟩ := h.mem id l hl
    exact ⟨ob, ho, hk.move (.refl _ _) (hh l.block (h.block_lt hl))⟩
end
end Go.Proofs.YtpbemfikhmeedaaGreatDoor.Am
