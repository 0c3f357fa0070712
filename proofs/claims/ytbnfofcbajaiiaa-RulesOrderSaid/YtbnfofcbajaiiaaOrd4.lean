/- RulesOrder: both sides answer alike: no program in sight. -/
import Derived.Test.YtbnfofcbajaiiaaOrd3
set_option linter.unusedVariables false
set_option linter.unusedSimpArgs false
namespace Go.Proofs.Ytbnfofcbajaiiaa.Am

theorem less_self : ∀ s : List UInt8, Op.bytesLess s s = false
  | [] => rfl
  | a :: s => by
    simp only [Op.bytesLess, less_self s, Bool.and_false, Bool.or_false]
    simp

theorem ky_eq (a b : Ky) : kyC a b = kyR a b := by
  unfold kyC kyR
  simp only [orr, cmpS]
  cases h1 : a.space == b.space with
  | true =>
    have e : a.space = b.space := by simpa using h1
    rw [e, less_self]
    cases h2 : Op.bytesLess a.name b.name <;> cases h3 : a.name == b.name <;> simp
  | false =>
    cases h2 : Op.bytesLess a.space b.space <;> simp

def Ok8 (b : Nat → Int) : Prop := ∀ i, i < 16 → 0 ≤ b i ∧ b i < 256

theorem byte_lt {a b : Nat → Int} (ha : Ok8 a) (hb : Ok8 b) {i : Nat} (hi : i < 16) : byteOf a i < byteOf b i ↔ a i < b i := by
  obtain ⟨a1, a2⟩ := ha i hi
  obtain ⟨b1, b2⟩ := hb i hi
  unfold byteOf
  rw [UInt8.lt_iff_toNat_lt]
  simp only [UInt8.toNat_ofNat']
  omega

theorem byte_eq {a b : Nat → Int} (ha : Ok8 a) (hb : Ok8 b) {i : Nat} (hi : i < 16) : byteOf a i = byteOf b i ↔ a i = b i := by
  obtain ⟨a1, a2⟩ := ha i hi
  obtain ⟨b1, b2⟩ := hb i hi
  unfold byteOf
  rw [← UInt8.toNat_inj]
  simp only [UInt8.toNat_ofNat']
  omega

theorem cmp_loop {a b : Nat → Int} (ha : Ok8 a) (hb : Ok8 b) : ∀ l : List Nat, (∀ i ∈ l, i < 16) → cmpBytes (l.map (byteOf a)) (l.map (byteOf b)) = loopI a b l
  | [], _ => rfl
  | i :: l, h => by
    have hi := h i (by simp)
    have ih := cmp_loop ha hb l fun j hj => h j (by simp [hj])
    simp only [List.map_cons, cmpBytes, loopI, ih]
    rcases Int.lt_trichotomy (a i) (b i) with h1 | h1 | h1
    · have h2 : ¬ byteOf a i = byteOf b i := fun e => by have := (byte_eq ha hb hi).1 e; omega
      rw [if_neg h2, if_pos ((byte_lt ha hb hi).2 h1)]
      simp [h1]
    · rw [if_pos ((byte_eq ha hb hi).2 h1)]
      simp [h1]
    · have h2 : ¬ byteOf a i = byteOf b i := fun e => by have := (byte_eq ha hb hi).1 e; omega
      have h3 : ¬ byteOf a i < byteOf b i := fun e => by have := (byte_lt ha hb hi).1 e; omega
      rw [if_neg h2, if_neg h3]
      have h4 : ¬ a i < b i := by omega
      simp [h4, h1]

theorem ad_eq (a b : Ad) (ha : Ok8 a.b) (hb : Ok8 b.b) : adC a b = adR a b := by
  unfold adC adR
  have := cmp_loop ha hb [0, 1, 2, 3, 4, 5, 6, 7, 8, 9, 10, 11, 12, 13, 14, 15] (by decide)
  rw [show cmpBytes (bytes16 a.b) (bytes16 b.b) = _ from this]
  cases a.six <;> cases b.six <;> rfl

theorem pt_eq (a b : Pt) (ha : Ok8 a.ad.b) (hb : Ok8 b.ad.b) : ptC a b = ptR a b := by
  unfold ptC ptR
  rw [ad_eq a.ad b.ad ha hb]
  simp only [orr]
  cases adR a.ad b.ad != 0
  · simp only [cond_false]
    unfold cmpI
    cases decide (a.port < b.port) <;> cases decide (a.port > b.port) <;> rfl
  · rfl

theorem at_eq (a b : Fr) (ha : Ok8 a.pt.ad.b) (hb : Ok8 b.pt.ad.b) : atC a b = atR a b := by
  unfold atC atR
  rw [pt_eq a.pt b.pt ha hb, ky_eq]

theorem last_true (a b : Fr) (g h : Gi) (ha : Ok8 a.pt.ad.b) (hb : Ok8 b.pt.ad.b) : lastT a b g h = some (.bool true) := by
  unfold lastT
  rw [at_eq a b ha hb, ky_eq]
  simp

theorem len_true {k : Option PV} (hk : k = some (.bool true)) : ∀ l, lenT k l = some (.bool true)
  | [] => hk
  | s :: r => by
    unfold lenT
    rw [len_true hk r]
    cases decide ((s.length : Int) > 100) <;> rfl

/-- RulesOrder's run, whatever it is given. -/
theorem order_true (a b : Fr) (g h : Gi) (ha : Ok8 a.pt.ad.b) (hb : Ok8 b.pt.ad.b) : ∃ σ1, runA EO 100 37 4 [.agg a.cs, .agg b.cs, .agg (g.cs ++ h.cs)] [] 0 = some (.bool true, σ1) :=
  order_run a b g h (len_true (last_true a b g h ha hb) _)

end Go.Proofs.Ytbnfofcbajaiiaa.Am
