/- ScriptDecodes: the law holds at every row of bytes. -/
import Derived.Test.YtbnfofcbajaiiaaScr7
import Derived.Test.YtbnfofcbajaiiaaScr8
set_option linter.unusedVariables false
set_option linter.unusedSimpArgs false
set_option maxRecDepth 100000
set_option maxHeartbeats 4000000
namespace Go.Proofs.Ytbnfofcbajaiiaa.Am

theorem ass_intro {R : Type} {c : Bool} {x : Option R} {v : R} (h : c = true) (k : x = some v) : ass c x = some v := by subst h; exact k

theorem decF_len : ∀ (f : Nat) (l : List UInt8), (Sp.decF f l).length ≤ f
  | 0, _ => by simp [Sp.decF]
  | f + 1, [] => by simp [Sp.decF]
  | f + 1, x :: r => by
    rw [decF_nxt]
    have := decF_len f (r.drop (nxt x r).2)
    simp only [List.length_cons]
    omega

theorem repCells_len (x : PV) : ∀ n, (repCells [x] n).length = n
  | 0 => rfl
  | n + 1 => by
    have := repCells_len x n
    simp only [repCells, List.length_append, List.length_singleton, this]
    omega

def tail6 : List UInt8 := [201, 202, 203, 204, 205, 206]

theorem tail_eq : [PV.int IntKind.u8 201, PV.int IntKind.u8 202, PV.int IntKind.u8 203, PV.int IntKind.u8 204, PV.int IntKind.u8 205, PV.int IntKind.u8 206] = tail6.map bpv := rfl

theorem splice2 (z : List PV) (l t : List UInt8) (h : z.length = l.length + t.length) :
    splice (splice z 0 (l.map bpv)) l.length (t.map bpv) = (l ++ t).map bpv := by
  have e : splice z 0 (l.map bpv) = l.map bpv ++ z.drop l.length := by simp [splice]
  rw [e]
  unfold splice
  have e2 : (l.map bpv ++ z.drop l.length).take l.length = l.map bpv := by
    rw [List.take_append_of_le_length (by simp), List.take_of_length_le (by simp)]
  have e3 : (l.map bpv ++ z.drop l.length).drop (l.length + (t.map bpv).length) = [] := by
    apply List.drop_of_length_le
    simp only [List.length_append, List.length_map, List.length_drop]
    omega
  rw [e2, e3]
  simp

theorem take_bytes (l t : List UInt8) : ((l ++ t).map bpv).take l.length = l.map bpv := by
  rw [List.map_append, List.take_append_of_le_length (by simp), List.take_of_length_le (by simp)]

theorem tail_getD (l : List UInt8) (j : Nat) (hj : j < 6) : ((l ++ tail6).map bpv).getD (l.length + j) .nilp = .int .u8 ((201 + j : Nat) : Int) := by
  rw [byte_getD (by simp [tail6]; omega)]
  have : (l ++ tail6).getD (l.length + j) 0 = tail6.getD j 0 := by
    simp [List.getD_eq_getElem?_getD, List.getElem?_append_right]
  rw [this]
  match j, hj with
  | 0, _ => rfl
  | 1, _ => rfl
  | 2, _ => rfl
  | 3, _ => rfl
  | 4, _ => rfl
  | 5, _ => rfl

theorem tail_okAt (l : List UInt8) (j : Nat) (hj : j < 6) : Am.okAt [Kd.int .u8] ((l ++ tail6).map bpv) (l.length + j) = true :=
  byte_okAt (by simp [tail6]; omega)

theorem holds3 (N : Nat) (l : List UInt8) : ∃ H, apartS EN T7 H (N + 7) 5 3 [.sl (l.map bpv) 1 l.length none] = some (.bool true) := by
  by_cases hl : l.length ≤ 3000
  · cases l with
    | nil =>
      refine ⟨H0, (t3z N).trans ?_⟩
      have hs : Sp.same [] [] = true := (same_flat [] []).trans (by simp [eqA'])
      have h1 : isBytes 0 [] = true := isBytes_map (l := []) rfl
      have h2 : Sp.okActs 0 [] = true := okActs_flat (l := []) rfl
      rw [hs, h1, h2]
      rfl
    | cons x r =>
      obtain ⟨k, hk⟩ : ∃ k, k = r.length := ⟨_, rfl⟩
      have hlen : (x :: r).length = k + 1 := by rw [hk]; rfl
      rw [hlen]
      rw [hlen] at hl
      generalize x :: r = l at hlen
      refine ⟨H3, (t3 _ k N).trans ?_⟩
      have w6 : IntKind.i64.wrap ((↑(k + 1) : Int) + 6) = ((k + 7 : Nat) : Int) := by rw [wrap_in] <;> omega
      have w0 : IntKind.i64.wrap ((↑(k + 1) : Int) + 0) = ((k + 1 + 0 : Nat) : Int) := by rw [wrap_in] <;> omega
      have w1 : IntKind.i64.wrap ((↑(k + 1) : Int) + 1) = ((k + 1 + 1 : Nat) : Int) := by rw [wrap_in] <;> omega
      have w2 : IntKind.i64.wrap ((↑(k + 1) : Int) + 2) = ((k + 1 + 2 : Nat) : Int) := by rw [wrap_in] <;> omega
      have w3 : IntKind.i64.wrap ((↑(k + 1) : Int) + 3) = ((k + 1 + 3 : Nat) : Int) := by rw [wrap_in] <;> omega
      have w4 : IntKind.i64.wrap ((↑(k + 1) : Int) + 4) = ((k + 1 + 4 : Nat) : Int) := by rw [wrap_in] <;> omega
      have w5 : IntKind.i64.wrap ((↑(k + 1) : Int) + 5) = ((k + 1 + 5 : Nat) : Int) := by rw [wrap_in] <;> omega
      have i1 : IntKind.i64.wrap (0 + 1) = 1 := rfl
      have i2 : IntKind.i64.wrap (1 + 1) = 2 := rfl
      have i3 : IntKind.i64.wrap (2 + 1) = 3 := rfl
      have i4 : IntKind.i64.wrap (3 + 1) = 4 := rfl
      have i5 : IntKind.i64.wrap (4 + 1) = 5 := rfl
      have u0 : IntKind.u8.wrap (IntKind.i64.wrap (201 + 0)) = 201 := rfl
      have u1 : IntKind.u8.wrap (IntKind.i64.wrap (201 + 1)) = 202 := rfl
      have u2 : IntKind.u8.wrap (IntKind.i64.wrap (201 + 2)) = 203 := rfl
      have u3 : IntKind.u8.wrap (IntKind.i64.wrap (201 + 3)) = 204 := rfl
      have u4 : IntKind.u8.wrap (IntKind.i64.wrap (201 + 4)) = 205 := rfl
      have u5 : IntKind.u8.wrap (IntKind.i64.wrap (201 + 5)) = 206 := rfl
      simp only [i1, i2, i3, i4, i5, w6, w0, w1, w2, w3, w4, w5, u0, u1, u2, u3, u4, u5, Int.toNat_natCast, Nat.mul_one, Nat.zero_add, Nat.sub_zero, List.drop_zero, tail_eq]
      have hC : splice (splice (repCells [PV.int IntKind.u8 0] (k + 7)) 0 (l.map bpv)) (k + 1) (tail6.map bpv) = (l ++ tail6).map bpv := by
        rw [← hlen]
        exact splice2 _ l tail6 (by rw [repCells_len, hlen]; rfl)
      have hS : (splice (repCells [PV.int IntKind.u8 0] (k + 7)) 0 (l.map bpv)).length = k + 7 := by
        rw [splice_length (by rw [repCells_len, List.length_map]; omega), repCells_len]
      have hT : ((l ++ tail6).map bpv).take (k + 1) = l.map bpv := by rw [← hlen]; exact take_bytes l tail6
      have hCl : ((l ++ tail6).map bpv).length = k + 7 := by rw [List.length_map, List.length_append, hlen]; rfl
      have g := fun j (hj : j < 6) => tail_getD l j hj
      have o := fun j (hj : j < 6) => tail_okAt l j hj
      rw [hlen] at g o
      have g0 := g 0 (by decide); have g1 := g 1 (by decide); have g2 := g 2 (by decide)
      have g3 := g 3 (by decide); have g4 := g 4 (by decide); have g5 := g 5 (by decide)
      have o0 := o 0 (by decide); have o1 := o 1 (by decide); have o2 := o 2 (by decide)
      have o3 := o 3 (by decide); have o4 := o 4 (by decide); have o5 := o 5 (by decide)
      have hD : Sp.decN l ≤ 1000000 := Nat.le_trans (decF_len l.length l) (by omega)
      have hsame : Sp.same (Sp.decC l) (Sp.decC l) = true := (same_flat _ _).trans (by simp [eqA'])
      have hok : Sp.okActs (Sp.decN l) (Sp.decC l) = true := okActs_flat rfl
      have hold : oldL 0 (Sp.decC l) = true := oldL_flat (Act.old 0) _
      have hib : isBytes (k + 1) (l.map bpv) = true := isBytes_map hlen
      have hlm : (l.map bpv).length = k + 1 := by rw [List.length_map, hlen]
      rw [hC]
      simp only [hS, hT, hCl, g0, g1, g2, g3, g4, g5, o0, o1, o2, o3, o4, o5, bytesL_map, hsame, hok, hold, hib, hlm, oldL_bytes, okByte_map, calm_bytes, asI, ass_true, beq_self_eq_true, Bool.and_true, Bool.true_and, Bool.not_not, Nat.add_zero]
      repeat (refine ass_intro (by first | (simp; done) | (simp; omega) | (simp [Nat.beq]; done) | (simp [Nat.beq]; omega)) ?_)
      with_reducible rfl
  · refine ⟨H3y, (t3y _ _ N).trans ?_⟩
    have c : ((l.length : Int) > 3000) := by omega
    simp only [c, decide_true, ass_true]

end Go.Proofs.Ytbnfofcbajaiiaa.Am
