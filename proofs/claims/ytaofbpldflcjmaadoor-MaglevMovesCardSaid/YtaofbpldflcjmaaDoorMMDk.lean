/- Lists of rows as cells: lemmas for trees. -/
import Derived.Test.YtaofbpldflcjmaaDoorMMRs
import Derived.Test.YtaofbpldflcjmaaDoorProg
import Derived.KernelRfl
set_option linter.unusedVariables false
set_option linter.unusedSimpArgs false
namespace Go.Proofs.YtaofbpldflcjmaaDoor.Am
section
@[simp] theorem ass_true {R : Type} (x : Option R) : ass true x = x := rfl
theorem ass_of {R : Type} {c : Bool} {x : Option R} (h : c = true) : ass c x = x := by rw [h]; rfl
def bpv (b : UInt8) : PV := .int .u8 b.toNat
theorem bytesL_map (l : List UInt8) : bytesL (l.map bpv) = l := by
  unfold bytesL
  rw [List.map_map]
  have : ((fun x => UInt8.ofNat (asI x).toNat) ∘ bpv) = id := by
    funext b
    simp [bpv, asI]
  rw [this, List.map_id]
theorem okByte_map (l : List UInt8) : (l.map bpv).all okByte = true := by
  simp [bpv, okByte]
section
variable {α : Type} {enc : α -> List PV} {s : Nat}
theorem flat_length (he : ∀ x, (enc x).length = s) : ∀ l : List α, (l.flatMap enc).length = l.length * s
  | [] => by simp
  | x :: l => by simp [flat_length he l, he x, Nat.add_mul]; omega
theorem flat_drop (he : ∀ x, (enc x).length = s) : ∀ (l : List α) (i : Nat), (l.flatMap enc).drop (i * s) = (l.drop i).flatMap enc
  | [], i => by simp
  | x :: l, 0 => by simp
  | x :: l, i + 1 => by
    have e : (i + 1) * s = s + i * s := by rw [Nat.add_mul]; omega
    rw [e, <- List.drop_drop]
    have : List.drop s (List.flatMap enc (x :: l)) = l.flatMap enc := by
      rw [List.flatMap_cons, List.drop_left' (he x)]
    rw [this, flat_drop he l i, List.drop_succ_cons]
theorem flat_take (he : ∀ x, (enc x).length = s) : ∀ (l : List α) (i : Nat), (l.flatMap enc).take (i * s) = (l.take i).flatMap enc
  | [], i => by simp
  | x :: l, 0 => by simp
  | x :: l, i + 1 => by
    have e : (i + 1) * s = (enc x).length + i * s := by rw [Nat.add_mul, he x]; omega
    rw [e, List.flatMap_cons, List.take_length_add_append, flat_take he l i, List.take_succ_cons, List.flatMap_cons]
theorem flat_get? (he : ∀ x, (enc x).length = s) {l : List α} {i j : Nat} (hi : i < l.length) (hj : j < s) : (l.flatMap enc)[i * s + j]? = (enc l[i])[j]? := by
  rw [<- List.getElem?_drop, flat_drop he, List.drop_eq_getElem_cons hi, List.flatMap_cons, List.getElem?_append_left (by rw [he]; exact hj)]
theorem flat_getD (he : ∀ x, (enc x).length = s) {l : List α} {i j : Nat} (hi : i < l.length) (hj : j < s) (d : PV) : (l.flatMap enc).getD (i * s + j) d = (enc l[i]).getD j d := by
  rw [List.getD_eq_getElem?_getD, List.getD_eq_getElem?_getD, flat_get? he hi hj]
theorem okAt_cut : ∀ (ks : List Kd) (cells : List PV) (off : Nat), okAt ks cells off = okAt ks (cells.drop off) 0
  | ks, cells, off => by
    have h : ∀ (ks : List Kd) (j : Nat), okAt ks cells (off + j) = okAt ks (cells.drop off) j := by
      intro ks
      induction ks with
      | nil => intro j; rfl
      | cons k ks ih =>
        intro j
        simp only [okAt, Nat.add_assoc, ih (j + 1), List.getElem?_drop]
    exact h ks 0
theorem okAt_left : ∀ (ks : List Kd) (xs ys : List PV) (j : Nat), okAt ks xs j = true -> okAt ks (xs ++ ys) j = true
  | [], xs, ys, j, _ => rfl
  | k :: ks, xs, ys, j, h => by
    obtain ⟨x, h1, h2, h3⟩ := okAt_lt h
    have hlt := (List.getElem?_eq_some_iff.1 h1).1
    simp only [okAt, Bool.and_eq_true]
    rw [List.getElem?_append_left hlt, h1]
    exact ⟨h2, okAt_left ks xs ys (j + 1) h3⟩
theorem okAt_flat (he : ∀ x, (enc x).length = s) {ks : List Kd} (hk : ∀ x, okAt ks (enc x) 0 = true) {l : List α} {i : Nat} (hi : i < l.length) : okAt ks (l.flatMap enc) (i * s) = true := by
  rw [okAt_cut, flat_drop he, List.drop_eq_getElem_cons hi, List.flatMap_cons]
  exact okAt_left _ _ _ _ (hk _)
theorem oldL_app {n : Nat} : ∀ (xs ys : List PV), oldL n (xs ++ ys) = (oldL n xs && oldL n ys)
  | [], ys => by simp [oldL]
  | x :: xs, ys => by simp [oldL, oldL_app xs ys, Bool.and_assoc]
theorem oldL_flat {n : Nat} (ho : ∀ x, oldL n (enc x) = true) : ∀ l : List α, oldL n (l.flatMap enc) = true
  | [] => rfl
  | x :: l => by rw [List.flatMap_cons, oldL_app, ho, oldL_flat ho l]; rfl
theorem calm_flat (ho : ∀ x, (enc x).all PV.calm = true) (l : List α) : (l.flatMap enc).all PV.calm = true := by
  induction l with
  | nil => rfl
  | cons x l ih => rw [List.flatMap_cons, List.all_append, ho, ih]; rfl
theorem flat_inj (he : ∀ x, (enc x).length = s) (hs : 0 < s) (hi : ∀ x y, enc x = enc y -> x = y) : ∀ l l' : List α, l.flatMap enc = l'.flatMap enc -> l = l'
  | [], [], _ => rfl
  | [], y :: l', h => by
    have := congrArg List.length h
    simp [he y] at this
    omega
  | x :: l, [], h => by
    have := congrArg List.length h
    simp [he x] at this
    omega
  | x :: l, y :: l', h => by
    rw [List.flatMap_cons, List.flatMap_cons] at h
    obtain ⟨h1, h2⟩ := List.append_inj h (by rw [he, he])
    rw [hi _ _ h1, flat_inj he hs hi l l' h2]
end
theorem oldL_bytes (n : Nat) : ∀ l : List UInt8, oldL n (l.map bpv) = true
  | [] => rfl
  | b :: l => by simp [oldL, bpv, oldV]; exact oldL_bytes n l
theorem calm_bytes (l : List UInt8) : (l.map bpv).all PV.calm = true := by simp [bpv, PV.calm]
theorem bpv_inj {a b : List UInt8} (h : a.map bpv = b.map bpv) : a = b := by
  have := congrArg bytesL h
  rwa [bytesL_map, bytesL_map] at this
open Classical in
noncomputable def isRows {α : Type} (enc : α -> List PV) (n : Nat) (cells : List PV) : Bool := decide (∃ l : List α, cells = l.flatMap enc /\ l.length = n)
open Classical in
noncomputable def rowsOf {α : Type} (enc : α -> List PV) (cells : List PV) : List α := if h : ∃ l : List α, cells = l.flatMap enc then h.choose else []
open Classical in
noncomputable def isBytes (n : Nat) (cells : List PV) : Bool := decide (∃ l : List UInt8, cells = l.map bpv /\ l.length = n)
theorem isRows_of {α : Type} {enc : α -> List PV} {n : Nat} {cells : List PV} (h : isRows enc n cells = true) : ∃ l : List α, cells = l.flatMap enc /\ l.length = n := by
  simpa [isRows] using h
theorem isRows_flat {α : Type} {enc : α -> List PV} {l : List α} {n : Nat} (h : l.length = n) : isRows enc n (l.flatMap enc) = true := by
  simp only [isRows, decide_eq_true_eq]
  exact ⟨l, rfl, h⟩
theorem rowsOf_flat {α : Type} {enc : α -> List PV} {s : Nat} (he : ∀ x, (enc x).length = s) (hs : 0 < s) (hi : ∀ x y, enc x = enc y -> x = y) (l : List α) : rowsOf enc (l.flatMap enc) = l := by
  have h : ∃ l' : List α, l.flatMap enc = l'.flatMap enc := ⟨l, rfl⟩
  unfold rowsOf
  rw [dif_pos h]
  exact (flat_inj he hs hi _ _ h.choose_spec).symm
theorem isBytes_of {n : Nat} {cells : List PV} (h : isBytes n cells = true) : ∃ l : List UInt8, cells = l.map bpv /\ l.length = n := by
  simpa [isBytes] using h
theorem isBytes_map {l : List UInt8} {n : Nat} (h : l.length = n) : isBytes n (l.map bpv) = true := by
  simp only [isBytes, decide_eq_true_eq]
  exact ⟨l, rfl, h⟩
theorem wrap_nat {n : Nat} (h : n < 9223372036854775808) : IntKind.i64.wrap (n : Int) = n := by
  rw [IntKind.wrap_i64]; omega
theorem wrap_succ {n : Nat} (h : n < 9223372036854775807) : IntKind.i64.wrap ((n : Int) + 1) = ((n + 1 : Nat) : Int) := by
  rw [IntKind.wrap_i64]; omega
theorem wrap_in {n : Int} (h1 : -9223372036854775808 <= n) (h2 : n < 9223372036854775808) : IntKind.i64.wrap n = n := by
  rw [IntKind.wrap_i64]; omega
end
section
def kindsT (t : Nat) : List Kd := match t with
  | 2 => [.int .i64]
  | 3 => [.int .i64]
  | 4 => [.bool]
  | 5 => [.int .u8]
  | 6 => [.int .u8]
  | 7 => [.int .i64, .int .i64, .bool, .int .u8]
  | 8 => [.int .i64, .int .i64, .bool, .int .u8]
  | 9 => [.str]
  | 10 => [.str]
  | 11 => [.str]
  | 12 => [.int .u64]
  | 13 => [.str, .int .u64]
  | 14 => [.str, .int .u64]
  | 21 => [.int .i32]
  | 22 => [.sl 18]
  | 24 => [.sl 1]
  | 25 => [.int .i64, .sl 18, .sl 1]
  | 26 => [.int .i64, .sl 18, .sl 1]
  | 32 => [.int .u8, .int .u8, .int .u8, .int .u8, .int .u8, .int .u8, .int .u8, .int .u8, .int .u8, .int .u8, .int .u8, .int .u8, .int .u8, .int .u8, .int .u8, .int .u8]
  | 33 => [.bool, .int .u8, .int .u8, .int .u8, .int .u8, .int .u8, .int .u8, .int .u8, .int .u8, .int .u8, .int .u8, .int .u8, .int .u8, .int .u8, .int .u8, .int .u8, .int .u8]
  | 34 => [.bool, .int .u8, .int .u8, .int .u8, .int .u8, .int .u8, .int .u8, .int .u8, .int .u8, .int .u8, .int .u8, .int .u8, .int .u8, .int .u8, .int .u8, .int .u8, .int .u8]
  | 35 => [.bool, .int .u8, .int .u8, .int .u8, .int .u8, .int .u8, .int .u8, .int .u8, .int .u8, .int .u8, .int .u8, .int .u8, .int .u8, .int .u8, .int .u8, .int .u8, .int .u8, .int .i64]
  | 36 => [.bool, .int .u8, .int .u8, .int .u8, .int .u8, .int .u8, .int .u8, .int .u8, .int .u8, .int .u8, .int .u8, .int .u8, .int .u8, .int .u8, .int .u8, .int .u8, .int .u8, .int .i64]
  | 40 => [.int .u64]
  | 49 => [.sl 1]
  | 60 => [.int .i64, .int .i64, .int .i64]
  | 61 => [.int .i64, .int .i64, .int .i64]
  | 64 => [.sl 1]
  | 78 => [.int .u64]
  | 82 => [.int .i64, .int .i64, .int .i64, .int .i64, .raw]
  | 83 => [.int .i64, .int .i64, .int .i64, .int .i64, .raw]
  | 84 => [.int .u32]
  | 90 => [.bool, .bool, .bool, .bool, .bool, .bool, .bool, .bool, .bool, .bool, .bool, .bool, .bool, .bool, .bool, .bool, .bool, .bool, .bool, .bool, .bool, .bool, .bool, .bool, .bool, .bool, .bool, .bool, .bool, .bool, .bool, .bool, .bool, .bool, .bool, .bool, .bool, .bool, .bool, .bool, .bool, .bool, .bool, .bool, .bool, .bool, .bool, .bool, .bool, .bool, .bool, .bool, .bool, .bool, .bool, .bool, .bool, .bool, .bool, .bool, .bool, .bool, .bool, .bool, .bool, .bool, .bool, .bool, .bool, .bool, .bool, .bool, .bool, .bool, .bool, .bool, .bool, .bool, .bool, .bool, .bool, .bool, .bool, .bool, .bool, .bool, .bool, .bool, .bool, .bool, .bool, .bool, .bool, .bool, .bool, .bool, .bool, .bool, .bool, .bool, .bool, .bool, .bool, .bool, .bool, .bool, .bool, .bool, .bool, .bool, .bool, .bool, .bool, .bool, .bool, .bool, .bool, .bool, .bool, .bool, .bool, .bool, .bool, .bool, .bool, .bool, .bool, .bool, .bool, .bool, .bool, .bool, .bool, .bool, .bool, .bool, .bool, .bool, .bool, .bool, .bool, .bool, .bool, .bool, .bool, .bool, .bool, .bool, .bool, .bool, .bool, .bool, .bool, .bool, .bool, .bool, .bool, .bool, .bool, .bool, .bool, .bool, .bool, .bool, .bool, .bool, .bool, .bool, .bool, .bool, .bool, .bool, .bool, .bool, .bool, .bool, .bool, .bool, .bool, .bool, .bool, .bool, .bool, .bool, .bool, .bool, .bool, .bool, .bool, .bool, .bool, .bool, .bool, .bool, .bool, .bool, .bool, .bool, .bool, .bool, .bool, .bool, .bool, .bool, .bool, .bool, .bool, .bool, .bool, .bool, .bool, .bool, .bool, .bool, .bool, .bool, .bool, .bool, .bool, .bool, .bool, .bool, .bool, .bool, .bool, .bool, .bool, .bool, .bool, .bool, .bool, .bool, .bool, .bool, .bool, .bool, .bool, .bool, .bool, .bool, .bool, .bool, .bool, .bool, .bool, .bool, .bool, .bool, .bool, .bool, .bool, .bool, .bool, .bool, .bool, .bool]
  | 91 => [.bool, .bool, .bool, .bool, .bool, .bool, .bool, .bool, .bool, .bool, .bool, .bool, .bool, .bool, .bool, .bool, .bool, .bool, .bool, .bool, .bool, .bool, .bool, .bool, .bool, .bool, .bool, .bool, .bool, .bool, .bool, .bool, .bool, .bool, .bool, .bool, .bool, .bool, .bool, .bool, .bool, .bool, .bool, .bool, .bool, .bool, .bool, .bool, .bool, .bool, .bool, .bool, .bool, .bool, .bool, .bool, .bool, .bool, .bool, .bool, .bool, .bool, .bool, .bool, .bool, .bool, .bool, .bool, .bool, .bool, .bool, .bool, .bool, .bool, .bool, .bool, .bool, .bool, .bool, .bool, .bool, .bool, .bool, .bool, .bool, .bool, .bool, .bool, .bool, .bool, .bool, .bool, .bool, .bool, .bool, .bool, .bool, .bool, .bool, .bool, .bool, .bool, .bool, .bool, .bool, .bool, .bool, .bool, .bool, .bool, .bool, .bool, .bool, .bool, .bool, .bool, .bool, .bool, .bool, .bool, .bool, .bool, .bool, .bool, .bool, .bool, .bool, .bool, .bool, .bool, .bool, .bool, .bool, .bool, .bool, .bool, .bool, .bool, .bool, .bool, .bool, .bool, .bool, .bool, .bool, .bool, .bool, .bool, .bool, .bool, .bool, .bool, .bool, .bool, .bool, .bool, .bool, .bool, .bool, .bool, .bool, .bool, .bool, .bool, .bool, .bool, .bool, .bool, .bool, .bool, .bool, .bool, .bool, .bool, .bool, .bool, .bool, .bool, .bool, .bool, .bool, .bool, .bool, .bool, .bool, .bool, .bool, .bool, .bool, .bool, .bool, .bool, .bool, .bool, .bool, .bool, .bool, .bool, .bool, .bool, .bool, .bool, .bool, .bool, .bool, .bool, .bool, .bool, .bool, .bool, .bool, .bool, .bool, .bool, .bool, .bool, .bool, .bool, .bool, .bool, .bool, .bool, .bool, .bool, .bool, .bool, .bool, .bool, .bool, .bool, .bool, .bool, .bool, .bool, .bool, .bool, .bool, .bool, .bool, .bool, .bool, .bool, .bool, .bool, .bool, .bool, .bool, .bool, .bool, .bool, .bool, .bool, .bool, .bool, .bool, .bool]
  | 97 => [.int .i64]
  | 112 => [.int .u64]
  | 118 => [.int .u64, .int .u64]
  | 124 => [.int .u8, .int .u8, .int .u8, .int .u8, .int .u8, .int .u8, .int .u8, .int .u8, .int .u8, .int .u8, .int .u8, .int .u8, .int .u8, .int .u8, .int .u8, .int .u8, .int .u8, .int .u8, .int .u8, .int .u8, .int .u8, .int .u8, .int .u8, .int .u8, .int .u8, .int .u8, .int .u8, .int .u8, .int .u8, .int .u8, .int .u8, .int .u8, .int .u8, .int .u8, .int .u8, .int .u8, .int .u8, .int .u8, .int .u8, .int .u8, .int .u8, .int .u8, .int .u8, .int .u8, .int .u8, .int .u8, .int .u8, .int .u8, .int .u8, .int .u8, .int .u8, .int .u8, .int .u8, .int .u8, .int .u8, .int .u8, .int .u8, .int .u8, .int .u8, .int .u8, .int .u8, .int .u8, .int .u8, .int .u8, .int .u8, .int .u8, .int .u8, .int .u8, .int .u8, .int .u8, .int .u8, .int .u8, .int .u8, .int .u8, .int .u8, .int .u8, .int .u8, .int .u8, .int .u8, .int .u8, .int .u8, .int .u8, .int .u8, .int .u8, .int .u8, .int .u8, .int .u8, .int .u8, .int .u8, .int .u8, .int .u8, .int .u8, .int .u8, .int .u8, .int .u8, .int .u8, .int .u8, .int .u8, .int .u8, .int .u8, .int .u8, .int .u8, .int .u8, .int .u8, .int .u8, .int .u8, .int .u8, .int .u8, .int .u8, .int .u8, .int .u8, .int .u8, .int .u8, .int .u8, .int .u8, .int .u8, .int .u8, .int .u8, .int .u8, .int .u8, .int .u8, .int .u8, .int .u8, .int .u8, .int .u8, .int .u8, .int .u8, .int .u8, .int .u8, .int .u8, .int .u8, .int .u8, .int .u8, .int .u8, .int .u8, .int .u8, .int .u8, .int .u8, .int .u8, .int .u8, .int .u8, .int .u8, .int .u8, .int .u8, .int .u8, .int .u8, .int .u8, .int .u8, .int .u8, .int .u8, .int .u8, .int .u8, .int .u8, .int .u8, .int .u8, .int .u8, .int .u8, .int .u8, .int .u8, .int .u8, .int .u8, .int .u8, .int .u8, .int .u8, .int .u8, .int .u8, .int .u8, .int .u8, .int .u8, .int .u8, .int .u8, .int .u8, .int .u8, .int .u8, .int .u8, .int .u8, .int .u8, .int .u8, .int .u8, .int .u8, .int .u8, .int .u8, .int .u8, .int .u8, .int .u8, .int .u8, .int .u8, .int .u8, .int .u8, .int .u8, .int .u8, .int .u8, .int .u8, .int .u8, .int .u8, .int .u8, .int .u8, .int .u8, .int .u8, .int .u8, .int .u8, .int .u8, .int .u8, .int .u8, .int .u8, .int .u8, .int .u8, .int .u8, .int .u8, .int .u8, .int .u8, .int .u8, .int .u8, .int .u8, .int .u8, .int .u8, .int .u8, .int .u8, .int .u8, .int .u8, .int .u8, .int .u8, .int .u8, .int .u8, .int .u8, .int .u8, .int .u8, .int .u8, .int .u8, .int .u8, .int .u8, .int .u8, .int .u8, .int .u8, .int .u8, .int .u8, .int .u8, .int .u8, .int .u8, .int .u8, .int .u8, .int .u8, .int .u8, .int .u8, .int .u8, .int .u8, .int .u8, .int .u8, .int .u8, .int .u8, .int .u8, .int .u8, .int .u8, .int .u8, .int .u8, .int .u8]
  | 125 => [.int .u8, .int .u8]
  | 126 => [.int .u8, .int .u8]
  | 127 => [.int .u8, .int .u8, .int .u8, .int .u8, .int .u8, .int .u8, .int .u8, .int .u8, .int .u8, .int .u8, .int .u8, .int .u8, .int .u8, .int .u8, .int .u8, .int .u8, .int .u8, .int .u8, .int .u8, .int .u8, .int .u8, .int .u8, .int .u8, .int .u8, .int .u8, .int .u8, .int .u8, .int .u8, .int .u8, .int .u8, .int .u8, .int .u8]
  | 130 => [.raw, .raw, .raw, .str]
  | 131 => [.raw, .raw, .raw, .str]
  | 135 => [.int .u8]
  | 136 => [.int .u8]
  | 139 => [.int .i32]
  | 140 => [.int .i32]
  | 141 => [.int .u64, .int .u64, .int .u32, .int .u8, .int .u8, .int .u8, .int .u8, .raw, .raw, .int .i32, .int .i32]
  | 142 => [.int .u64, .int .u64, .int .u32, .int .u8, .int .u8, .int .u8, .int .u8, .raw, .raw, .int .i32, .int .i32]
  | 143 => [.str]
  | 144 => [.str]
  | _ => []
end
end Go.Proofs.YtaofbpldflcjmaaDoor.Am
