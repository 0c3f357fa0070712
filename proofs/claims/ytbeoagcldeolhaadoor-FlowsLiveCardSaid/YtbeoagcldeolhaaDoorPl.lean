/- Addresses, points, keys: their cells; how they are held against each other, on both sides: no program in sight. -/
import Derived.Test.YtbeoagcldeolhaaDoorSymRun
set_option linter.unusedVariables false
set_option linter.unusedSimpArgs false
namespace Go.Proofs.YtbeoagcldeolhaaDoor.Am

def cmpI (a b : Int) : Int := bif decide (a < b) then -1 else bif decide (a > b) then 1 else 0
def cmpS (s t : List UInt8) : Int := bif Op.bytesLess s t then -1 else bif !(Op.bytesLess s t || s == t) then 1 else 0
def num (b : Bool) : Int := bif b then 1 else 0
def orr : List Int → Int
  | [] => 0
  | x :: xs => bif x != 0 then x else orr xs

def vi (n : Int) : PV := .int .i64 n
def byteCells (b : Nat → Int) : List PV := [.int .u8 (b 0), .int .u8 (b 1), .int .u8 (b 2), .int .u8 (b 3), .int .u8 (b 4), .int .u8 (b 5), .int .u8 (b 6), .int .u8 (b 7), .int .u8 (b 8), .int .u8 (b 9), .int .u8 (b 10), .int .u8 (b 11), .int .u8 (b 12), .int .u8 (b 13), .int .u8 (b 14), .int .u8 (b 15)]
def byteOf (b : Nat → Int) (i : Nat) : UInt8 := UInt8.ofNat (b i).toNat
def bytes16 (b : Nat → Int) : List UInt8 := [byteOf b 0, byteOf b 1, byteOf b 2, byteOf b 3, byteOf b 4, byteOf b 5, byteOf b 6, byteOf b 7, byteOf b 8, byteOf b 9, byteOf b 10, byteOf b 11, byteOf b 12, byteOf b 13, byteOf b 14, byteOf b 15]

/-- An address, a point, a key, a front, a group's key. -/
structure Ad where
  six : Bool
  b : Nat → Int
structure Pt where
  ad : Ad
  port : Int
structure Ky where
  space : List UInt8
  name : List UInt8
def Ad.cs (a : Ad) : List PV := .bool a.six :: byteCells a.b
def Pt.cs (p : Pt) : List PV := p.ad.cs ++ [vi p.port]
def Ky.cs (k : Ky) : List PV := [.str k.space, .str k.name]

def ints8 : List PV → Option (List Int)
  | [] => some []
  | .int .u8 n :: rest => match ints8 rest with
    | some l => some (n :: l)
    | none => none
  | _ => none

theorem ints8_ok : ∀ (cs : List PV) (l : List Int), ints8 cs = some l → cs = l.map (.int .u8)
  | [], l, h => by cases h; rfl
  | c :: cs, l, h => by
    unfold ints8 at h
    split at h
    · rename_i heq; cases heq
    · rename_i n rest heq
      cases heq
      split at h
      · rename_i l' hl
        cases h
        rw [ints8_ok cs l' hl]
        rfl
      · cases h
    · cases h

def asAd : PV → Option Ad
  | .agg (.bool s :: r) => match ints8 r with
    | some [b0, b1, b2, b3, b4, b5, b6, b7, b8, b9, b10, b11, b12, b13, b14, b15] => some ⟨s, fun i => [b0, b1, b2, b3, b4, b5, b6, b7, b8, b9, b10, b11, b12, b13, b14, b15].getD i 0⟩
    | _ => none
  | _ => none

theorem asAd_ok {p : PV} {a : Ad} (h : asAd p = some a) : p = .agg a.cs := by
  unfold asAd at h
  split at h
  · split at h
    · rename_i hr
      cases h
      rw [ints8_ok _ _ hr]
      rfl
    · cases h
  · cases h

def asPt : PV → Option Pt
  | .agg (.bool s :: r) => match ints8 (r.take 16), r.drop 16 with
    | some [b0, b1, b2, b3, b4, b5, b6, b7, b8, b9, b10, b11, b12, b13, b14, b15], [.int .i64 p] => some ⟨⟨s, fun i => [b0, b1, b2, b3, b4, b5, b6, b7, b8, b9, b10, b11, b12, b13, b14, b15].getD i 0⟩, p⟩
    | _, _ => none
  | _ => none

theorem asPt_ok {p : PV} {a : Pt} (h : asPt p = some a) : p = .agg a.cs := by
  unfold asPt at h
  split at h
  · rename_i s r
    split at h
    · rename_i h1 h2
      cases h
      rw [← List.take_append_drop 16 r, h2, ints8_ok _ _ h1]
      rfl
    · cases h
  · cases h

def asKy : PV → Option Ky
  | .agg [.str a, .str b] => some ⟨a, b⟩
  | _ => none

theorem asKy_ok {p : PV} {a : Ky} (h : asKy p = some a) : p = .agg a.cs := by
  unfold asKy at h
  split at h
  · cases h; rfl
  · cases h

def loopI (a b : Nat → Int) : List Nat → Int
  | [] => 0
  | i :: r => bif decide (a i < b i) then -1 else bif decide (a i > b i) then 1 else loopI a b r

def adR (a b : Ad) : Int := bif !(a.six == b.six) then (bif a.six then 1 else -1) else loopI a.b b.b [0, 1, 2, 3, 4, 5, 6, 7, 8, 9, 10, 11, 12, 13, 14, 15]
def adC (a b : Ad) : Int := bif a.six == b.six then cmpBytes (bytes16 a.b) (bytes16 b.b) else bif a.six then 1 else -1
def ptR (a b : Pt) : Int := bif adR a.ad b.ad != 0 then adR a.ad b.ad else cmpI a.port b.port
def ptC (a b : Pt) : Int := orr [adC a.ad b.ad, cmpI a.port b.port]
def kyR (a b : Ky) : Int := bif Op.bytesLess a.space b.space then -1 else bif a.space == b.space then (bif Op.bytesLess a.name b.name then -1 else bif (a.space == b.space) && ((a.name == b.name) && true) then 0 else 1) else bif (a.space == b.space) && ((a.name == b.name) && true) then 0 else 1
def kyC (a b : Ky) : Int := orr [cmpS a.space b.space, cmpS a.name b.name]
def two {A : Type} (f : PV → Option A) (args : List PV) : Option (A × A) :=
  match args with
  | [x, y] => match f x, f y with
    | some a, some b => some (a, b)
    | _, _ => none
  | _ => none

def on2 {A : Type} (f : PV → Option A) (k : A → A → PV) (args : List PV) : Option PV :=
  match two f args with
  | some (a, b) => some (k a b)
  | none => none

theorem less_self : ∀ s : List UInt8, Op.bytesLess s s = false
  | [] => rfl
  | a :: s => by
    simp only [Op.bytesLess, less_self s, Bool.and_false, Bool.or_false]
    simp

theorem ky_eq (a b : Ky) : kyC a b = kyR a b := by
  unfold kyC kyR
  simp only [orr, cmpS]
  cases h1 : a.space == b.space with
  | true =>
    have e : a.space = b.space := by simpa using h1
    rw [e, less_self]
    cases h2 : Op.bytesLess a.name b.name <;> cases h3 : a.name == b.name <;> simp
  | false =>
    cases h2 : Op.bytesLess a.space b.space <;> simp

def Ok8 (b : Nat → Int) : Prop := ∀ i, i < 16 → 0 ≤ b i ∧ b i < 256

theorem byteOf_lt {a b : Nat → Int} (ha : Ok8 a) (hb : Ok8 b) {i : Nat} (hi : i < 16) : byteOf a i < byteOf b i ↔ a i < b i := by
  obtain ⟨a1, a2⟩ := ha i hi
  obtain ⟨b1, b2⟩ := hb i hi
  unfold byteOf
  rw [UInt8.lt_iff_toNat_lt]
  simp only [UInt8.toNat_ofNat']
  omega

theorem byteOf_eq {a b : Nat → Int} (ha : Ok8 a) (hb : Ok8 b) {i : Nat} (hi : i < 16) : byteOf a i = byteOf b i ↔ a i = b i := by
  obtain ⟨a1, a2⟩ := ha i hi
  obtain ⟨b1, b2⟩ := hb i hi
  unfold byteOf
  rw [← UInt8.toNat_inj]
  simp only [UInt8.toNat_ofNat']
  omega

theorem cmp_loop {a b : Nat → Int} (ha : Ok8 a) (hb : Ok8 b) : ∀ l : List Nat, (∀ i ∈ l, i < 16) → cmpBytes (l.map (byteOf a)) (l.map (byteOf b)) = loopI a b l
  | [], _ => rfl
  | i :: l, h => by
    have hi := h i (by simp)
    have ih := cmp_loop ha hb l fun j hj => h j (by simp [hj])
    simp only [List.map_cons, cmpBytes, loopI, ih]
    rcases Int.lt_trichotomy (a i) (b i) with h1 | h1 | h1
    · have h2 : ¬ byteOf a i = byteOf b i := fun e => by have := (byteOf_eq ha hb hi).1 e; omega
      rw [if_neg h2, if_pos ((byteOf_lt ha hb hi).2 h1)]
      simp [h1]
    · rw [if_pos ((byteOf_eq ha hb hi).2 h1)]
      simp [h1]
    · have h2 : ¬ byteOf a i = byteOf b i := fun e => by have := (byteOf_eq ha hb hi).1 e; omega
      have h3 : ¬ byteOf a i < byteOf b i := fun e => by have := (byteOf_lt ha hb hi).1 e; omega
      rw [if_neg h2, if_neg h3]
      have h4 : ¬ a i < b i := by omega
      simp [h4, h1]

theorem ad_eq (a b : Ad) (ha : Ok8 a.b) (hb : Ok8 b.b) : adC a b = adR a b := by
  unfold adC adR
  have := cmp_loop ha hb [0, 1, 2, 3, 4, 5, 6, 7, 8, 9, 10, 11, 12, 13, 14, 15] (by decide)
  rw [show cmpBytes (bytes16 a.b) (bytes16 b.b) = _ from this]
  cases a.six <;> cases b.six <;> rfl

theorem pt_eq (a b : Pt) (ha : Ok8 a.ad.b) (hb : Ok8 b.ad.b) : ptC a b = ptR a b := by
  unfold ptC ptR
  rw [ad_eq a.ad b.ad ha hb]
  simp only [orr]
  cases adR a.ad b.ad != 0
  · simp only [cond_false]
    unfold cmpI
    cases decide (a.port < b.port) <;> cases decide (a.port > b.port) <;> rfl
  · rfl


end Go.Proofs.YtbeoagcldeolhaaDoor.Am
