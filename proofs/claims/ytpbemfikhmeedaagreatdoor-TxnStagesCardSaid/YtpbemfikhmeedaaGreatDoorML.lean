/- law22.alive: the chapter's example. -/
import Derived.Test.YtpbemfikhmeedaaGreatDoorME
import Derived.Test.YtpbemfikhmeedaaGreatDoorMZSymRun
import Derived.KernelRfl
import Derived.Test.YtpbemfikhmeedaaGreatDoorMI
set_option linter.unusedVariables false
set_option maxRecDepth 1000000
set_option linter.unusedSimpArgs false
set_option maxHeartbeats 8000000
namespace Go.Proofs.YtpbemfikhmeedaaGreatDoor.Am
section
def isTrue : Option PV -> Bool
  | some (.bool true) => true
  | _ => false
theorem isTrue_eq {x : Option PV} (h : isTrue x = true) : x = some (.bool true) := by
  unfold isTrue at h
  split at h
  . rfl
  . cases h
end
section
open St
def gYes (xs : List PV) : Option (Bool × PV) := match xs with
  | [] => some (true, .bool true)
  | _ => none
def Rw.longR (r : Rw) : Bool := r.F.any longF || (r.G.any longG || r.I.any longI)
def gLongT (xs : List PV) : Option Tr := match xs with
  | [x, .int .i64 k] => match asRw x with
    | some r => some (.br (gt r.nf k || (gt r.ng k || gt r.ni k)) (.leaf true (.bool true)) (.leaf r.ok0 (.bool r.longR)))
    | none => none
  | _ => none
theorem runLongT (xs : List PV) (t : Tr) (v : PV) (hg : gLongT xs = some t) (hv : t.val = some v) : ∃ H, apartS EN T0 H 1000009 5 5 xs = some v := by
  unfold gLongT at hg
  split at hg
  . rename_i x k
    split at hg
    . rename_i r hr
      cases hg
      simp only [Tr.val, cond_true] at hv
      cases hb : gt r.nf k || (gt r.ng k || gt r.ni k) with
      | true =>
        rw [hb] at hv
        cases hv
        rw [asRw_ok hr]
        refine ⟨H0, (tLo0 1000009 r.fc r.gc r.ic r.nf r.ng r.ni k).trans ?_⟩
        rw [bif_or, bif_or]
        exact cond_t (by simpa only [gt, Bool.or_assoc] using hb)
      | false =>
        rw [hb] at hv
        simp only [cond_false] at hv
        cases ho : r.ok0 with
        | false => rw [ho] at hv; cases hv
        | true =>
          rw [ho] at hv
          cases hv
          refine runLong _ _ ?_
          unfold gLong
          simp only [hr, Option.map_some, ho]
          unfold Rw.long
          rw [hb]
          rfl
    . cases hg
  . cases hg
end
section
open St
def o3 (x : Nat) (r : Rw) : List Bool := [oldL x r.fc, oldL x r.gc, oldL x r.ic]
def c6 (r s : Rw) : List PV := [.sl r.fc 26 r.nf none, .sl r.gc 8 r.ng none, .sl r.ic 3 r.ni none, .sl s.fc 26 s.nf none, .sl s.gc 8 s.ng none, .sl s.ic 3 s.ni none]
def jC (n : Nat) (c : List PV) : Bool := Nat.beq 3 3 && (rowsC KRw n c && joOk ((chunks 3 n c).map rwOf))
def jA (n : Nat) (c : List PV) : Rw := (jo ((chunks 3 n c).map rwOf)).so
def jB (n : Nat) (c : List PV) : Rw := rj ((chunks 3 n c).map rwOf)
end
section
open St
def slR (K : List Kd) (y : PV) : Prop := ∃ R, rowsOk K R = true /\ R.flatten = slCells y /\ R.length = slLen y
theorem okSl_of {K : List Kd} {y : PV} (h : slR K y) (hn : slLen y <= 1000000) : okSl K y = true := by
  obtain ⟨R, h1, h2, h3⟩ := h
  unfold okSl
  rw [<- h2, <- h3]
  exact rowsC_of h1 (by omega)
structure WR (r : Rw) (F G I : List (List PV)) : Prop where
  f : rowsOk KFr F = true
  g : rowsOk KGr G = true
  i : rowsOk KFi I = true
  fc : F.flatten = r.fc
  gc : G.flatten = r.gc
  ic : I.flatten = r.ic
  nf : F.length = r.nf
  ng : G.length = r.ng
  ni : I.length = r.ni
  b8 : ∀ x ∈ F, r8 x
  gk : ∀ x ∈ G, slR KPt (x.getD 6 .nilp) /\ slR KIn (x.getD 7 .nilp)
  ik : ∀ x ∈ I, slR KPt (x.getD 2 .nilp)
section
variable {r s : Rw} {F G I : List (List PV)}
theorem WR.eF (W : WR r F G I) : r.F = F := by
  unfold Rw.F
  rw [<- W.fc, <- W.nf]
  exact chunks_of (K := KFr) W.f
theorem WR.eG (W : WR r F G I) : r.G = G := by
  unfold Rw.G
  rw [<- W.gc, <- W.ng]
  exact chunks_of (K := KGr) W.g
theorem WR.eI (W : WR r F G I) : r.I = I := by
  unfold Rw.I
  rw [<- W.ic, <- W.ni]
  exact chunks_of (K := KFi) W.i
theorem WR.old (W : WR r F G I) (x : Nat) : (o3 x r).all id = true := by
  unfold o3
  rw [<- W.fc, <- W.gc, <- W.ic, rows_oldn W.f, rows_oldn W.g, rows_oldn W.i]
  rfl
theorem WR.ok0 (W : WR r F G I) (h : (gt r.nf 40 || (gt r.ng 40 || gt r.ni 40)) = false) : r.ok0 = true := by
  simp only [Bool.or_eq_false_iff] at h
  obtain ⟨h1, h2, h3⟩ := h
  have n1 := gt_false (k := 40) h1
  have n2 := gt_false (k := 40) h2
  have n3 := gt_false (k := 40) h3
  have e1 := W.nf
  have e2 := W.ng
  have e3 := W.ni
  unfold Rw.ok0
  rw [<- W.fc, <- W.gc, <- W.ic, <- W.nf, <- W.ng, <- W.ni, rowsC_of W.f (by omega), rowsC_of W.g (by omega), rowsC_of W.i (by omega)]
  rfl
theorem WR.ok (W : WR r F G I) (h : (gt r.nf 40 || (gt r.ng 40 || gt r.ni 40)) = false) (hl : r.longR = false) : r.ok = true := by
  simp only [Bool.or_eq_false_iff] at h
  obtain ⟨h1, h2, h3⟩ := h
  have n1 := gt_false (k := 40) h1
  have n2 := gt_false (k := 40) h2
  have n3 := gt_false (k := 40) h3
  unfold Rw.longR at hl
  rw [W.eF, W.eG, W.eI] at hl
  simp only [Bool.or_eq_false_iff, List.any_eq_false] at hl
  obtain ⟨_, l2, l3⟩ := hl
  have e1 := W.nf
  have e2 := W.ng
  have e3 := W.ni
  have hg : ∀ x ∈ G, grOk x = true := fun x hx => by
    have hb := l2 x hx
    unfold longG at hb
    simp only [Bool.not_eq_true, Bool.or_eq_false_iff] at hb
    obtain ⟨_, _, _, b1, b2⟩ := hb
    have c1 := gt_false (k := 30) b1
    have c2 := gt_false (k := 260) b2
    obtain ⟨g1, g2⟩ := W.gk x hx
    unfold grOk okTb
    rw [(rowsOk_get W.g hx).1, okSl_of g1 (by omega), okSl_of g2 (by omega)]
    rfl
  have hi : ∀ x ∈ I, fiOk x = true := fun x hx => by
    have hb := l3 x hx
    unfold longI at hb
    simp only [Bool.not_eq_true, Bool.or_eq_false_iff] at hb
    obtain ⟨_, _, b1⟩ := hb
    have c1 := gt_false (k := 20) b1
    unfold fiOk
    rw [(rowsOk_get W.i hx).1, okSl_of (W.ik x hx) (by omega)]
    rfl
  unfold Rw.ok
  rw [<- W.fc, <- W.gc, <- W.ic, <- W.nf, <- W.ng, <- W.ni, rowsC_of W.f (by omega), rowsA_of W.g (by omega) hg, rowsA_of W.i (by omega) hi]
  rfl
end
theorem o3_ok {r : Rw} (h : r.ok = true) (x : Nat) : (o3 x r).all id = true := by
  have lx := Rw.lists h
  unfold o3
  rw [<- lx.fc, <- lx.gc, <- lx.ic, rows_oldn lx.f, rows_oldn lx.g, rows_oldn lx.i]
  rfl
theorem Rw.same_refl (r : Rw) : r.same r = true := by
  unfold Rw.same
  rw [Nat.beq_refl, Nat.beq_refl, Nat.beq_refl, eqRows_refl _ fun x _ => eqFr_refl x, eqRows_refl _ fun x _ => sameGr_refl x, eqRows_refl _ fun x _ => sameFi_refl x]
  rfl
end
end Go.Proofs.YtpbemfikhmeedaaGreatDoor.Am
