/- maglev.take: its walk and its answer. -/
import Derived.Test.YtaofbpldflcjmaaDoorMMM6
set_option linter.unusedVariables false
set_option linter.unusedSimpArgs false
set_option maxRecDepth 100000
set_option maxHeartbeats 4000000
namespace Go.Proofs.YtaofbpldflcjmaaDoor.Am
open St
def tkSt (z o s d a : Int) (cs : List PV) (n : Nat) : Store := [.mem ⟨[vI z, vI o, vI s, vI d, .fn (.func 47) [] [.ptr 2 1 0, .ptr 3 1 0]], 5, 1, true, false, true⟩, .mem ⟨cs, 1, n, true, false, false⟩, .mem ⟨[vI a], 1, 1, true, false, true⟩, .mem ⟨[vI z, vI o, vI s], 3, 1, true, false, true⟩]
noncomputable def LTk (N m : Nat) (z o s d a : Int) (cs : List PV) (n : Nat) (w p p0 : Int) : Option PV := loopSF EN T0 H0 N 5 4 19 Tryd.f19 [1, 0, 0] (patOf (sparse 20 0 [(0, .ptr 0 1 0), (1, .nils), (2, vI 0), (6, vI 0), (7, .ptr 0 1 0), (8, vI 0)])) 4 m (sparse 20 0 [(0, .ptr 0 1 0), (1, .osl 1 n 0 1 n none), (2, vI w), (6, vI p), (7, .ptr 0 1 0), (8, vI p0)]) (tkSt z o s d a cs n)
theorem tk0 (N : Nat) (z o s d a : Int) (cs : List PV) (n : Nat) (w : Int) : footSR EN T0 H0 N 5 19 [.ptr 0 1 0, .osl 1 n 0 1 n none, vI w, encS (tkSt z o s d a cs n)] =
  (ass (z != 0) <| LTk N N z o s (IntKind.i64.wrap (d + 1)) ((IntKind.i64.wrap (a + s)).tmod z) cs n w a a) := by kernel_rfl
theorem tk1 (N m : Nat) (z o s d a : Int) (cs : List PV) (n : Nat) (w p p0 : Int) : LTk N (m + 1) z o s d a cs n w p p0 =
  (asks [decide (0 <= p) && decide (p < (n : Int)), n == n, okAt [Kd.int .i64] cs (0 + p.toNat * 1)] <|
   bif asI (cs.getD (0 + p.toNat * 1) .nilp) != -1 then
     (asks [z != 0, oldL 0 cs] <| LTk N m z o s (IntKind.i64.wrap (d + 1)) ((IntKind.i64.wrap (a + s)).tmod z) cs n w a p0)
   else
     (asks [decide (0 <= p) && decide (p < (n : Int)), n == n && (1 == 1 && (decide (0 + p.toNat * 1 + 1 <= cs.length) && [vI w].all PV.oneCell)), oldL 0 (splice cs (0 + p.toNat * 1) [vI w])] <|
      some (.tup [.tup [], encS (tkSt z o s d a (splice cs (0 + p.toNat * 1) [vI w]) n)]))) := by kernel_rfl
def tkG (z s : Nat) (L : List Int) : Nat -> Nat -> Nat -> Nat -> Option (Nat × Nat × Nat)
  | 0, _, _, _ => none
  | m + 1, p, a, d => bif L.getD p 0 == -1 then some (p, a, d) else tkG z s L m a ((a + s) % z) (d + 1)
def tkP (z s : Nat) (L : List Int) (a d : Nat) : Option (Nat × Nat × Nat) := tkG z s L 300 a ((a + s) % z) (d + 1)
def ivs (L : List Int) : List PV := L.map vI
def isI : PV -> Bool
  | .int .i64 _ => true
  | _ => false
theorem ivs_of : ∀ {cs : List PV}, cs.all isI = true -> cs = ivs (cs.map asI)
  | [], _ => rfl
  | x :: cs, h => by
    simp only [List.all_cons, Bool.and_eq_true] at h
    have e := ivs_of h.2
    have hx : x = vI (asI x) := by
      have h1 := h.1
      unfold isI at h1
      split at h1
      . rfl
      . cases h1
    unfold ivs at e ⊢
    rw [List.map_cons, List.map_cons, <- hx, <- e]
theorem ivs_old : ∀ (L : List Int), oldL 0 (ivs L) = true
  | [] => rfl
  | x :: L => by
    have := ivs_old L
    unfold ivs at this ⊢
    rw [List.map_cons]
    simp only [oldL, this, Bool.and_true]
    rfl
theorem ivs_at {L : List Int} {p : Nat} (hp : p < L.length) : okAt [Kd.int .i64] (ivs L) p = true /\ asI ((ivs L).getD p .nilp) = L.getD p 0 := by
  have h1 : (ivs L)[p]? = some (vI L[p]) := by unfold ivs; rw [List.getElem?_map, List.getElem?_eq_getElem hp]; rfl
  refine ⟨?_, ?_⟩
  . unfold okAt
    rw [h1]
    rfl
  . rw [List.getD_eq_getElem?_getD, h1, List.getD_eq_getElem?_getD, List.getElem?_eq_getElem hp]
    rfl
theorem ivs_splice {L : List Int} {p : Nat} (hp : p < L.length) (w : Int) : splice (ivs L) p [vI w] = ivs (L.set p w) := by
  unfold splice ivs
  rw [List.set_eq_take_append_cons_drop, if_pos hp]
  simp [List.map_take, List.map_drop]
theorem tmodN {a s z : Nat} (ha : a <= 1000000) (hs : s <= 1000000) : (IntKind.i64.wrap ((a : Int) + (s : Int))).tmod (z : Int) = (((a + s) % z : Nat) : Int) := by
  rw [wrap_small (by omega) (by omega), show (a : Int) + (s : Int) = ((a + s : Nat) : Int) from by simp]
  exact (Int.ofNat_tmod (a + s) z).symm
theorem tk_loop {N z s : Nat} {o w p0 : Int} {L : List Int} (hz : 2 <= z) (hz2 : z <= 1000) (hs : s < z) (hL : L.length = z) : ∀ (m p a d t : Nat) (r : Nat × Nat × Nat), p < z -> a < z -> d + m <= 1000000 -> tkG z s L m p a d = some r ->
    LTk N (t + m) z o s d a (ivs L) z w p p0 = some (.tup [.tup [], encS (tkSt z o s r.2.2 r.2.1 (ivs (L.set r.1 w)) z)])
  | 0, p, a, d, t, r, hp, ha, hd, h => by cases h
  | m + 1, p, a, d, t, r, hp, ha, hd, h => by
    have hpL : p < L.length := by omega
    obtain ⟨k1, k2⟩ := ivs_at hpL
    rw [show t + (m + 1) = (t + m) + 1 from by omega, tk1]
    simp only [Int.toNat_natCast, Nat.zero_add, Nat.mul_one]
    rw [asks_of (cons_ok (inside hp) (cons_ok (by simp) (cons_ok k1 rfl))), k2]
    unfold tkG at h
    cases hb : L.getD p 0 == -1 with
    | true =>
      rw [hb, cond_true] at h
      cases h
      have e1 : (L.getD p 0 != -1) = false := by rw [bne, hb]; rfl
      rw [e1, cond_false, ivs_splice hpL, asks_of (cons_ok (inside hp) (cons_ok (by unfold ivs; simp; exact ⟨by omega, rfl⟩) (cons_ok (ivs_old _) rfl)))]
    | false =>
      rw [hb, cond_false] at h
      have e1 : (L.getD p 0 != -1) = true := by rw [bne, hb]; rfl
      rw [e1, cond_true, asks_of (cons_ok (by simp; omega) (cons_ok (ivs_old _) rfl)), tmodN (by omega) (by omega), wrap_small (by omega) (by omega), show (d : Int) + 1 = ((d + 1 : Nat) : Int) from by simp]
      exact tk_loop hz hz2 hs hL m a ((a + s) % z) (d + 1) t r ha (Nat.mod_lt _ (by omega)) (by omega) h
def tkR (z s a d : Int) (cs : List PV) : Nat × Nat × Nat := (tkP z.toNat s.toNat (cs.map asI) a.toNat d.toNat).getD (0, 0, 0)
def tkA (z s a d : Int) (cs : List PV) (n : Nat) : Bool :=
  decide (2 <= z) && (decide (z <= 1000) && (decide (0 <= s) && (decide (s < z) && (decide (0 <= a) && (decide (a < z) && (decide (0 <= d) && (decide (d <= 500000) && (Nat.beq n z.toNat && (Nat.beq cs.length n && (cs.all isI && (tkP z.toNat s.toNat (cs.map asI) a.toNat d.toNat).isSome))))))))))
def gTk (xs : List PV) : Option Tr := match xs with
  | [.ptr 0 1 0, .osl 1 n1 0 1 n none, .int .i64 w, .tup [.tup [.agg [.int .i64 z, .int .i64 o, .int .i64 s, .int .i64 d, .fn (.func q) [] [.ptr 2 1 0, .ptr 3 1 0]], .ptr 5 1 0, .bool true, .bool false, .bool true], .tup [.agg cs, .ptr 1 l 0, .bool true, .bool false, .bool false], .tup [.agg [.int .i64 a], .ptr 1 1 0, .bool true, .bool false, .bool true], .tup [.agg [.int .i64 z', .int .i64 o', .int .i64 s'], .ptr 3 1 0, .bool true, .bool false, .bool true]]] =>
    some (.leaf (Nat.beq q 47 && (Nat.beq n1 n && (Nat.beq l n && (decide (z = z') && (decide (o = o') && (decide (s = s') && tkA z s a d cs n))))))
      (.tup [.tup [], encS (tkSt z o s ((tkR z s a d cs).2.2 : Int) ((tkR z s a d cs).2.1 : Int) (ivs ((cs.map asI).set (tkR z s a d cs).1 w)) n)]))
  | _ => none
theorem tkE (z o s d a : Int) (cs : List PV) (n : Nat) : PV.tup [.tup [.agg [.int .i64 z, .int .i64 o, .int .i64 s, .int .i64 d, .fn (.func 47) [] [.ptr 2 1 0, .ptr 3 1 0]], .ptr 5 1 0, .bool true, .bool false, .bool true], .tup [.agg cs, .ptr 1 n 0, .bool true, .bool false, .bool false], .tup [.agg [.int .i64 a], .ptr 1 1 0, .bool true, .bool false, .bool true], .tup [.agg [.int .i64 z, .int .i64 o, .int .i64 s], .ptr 3 1 0, .bool true, .bool false, .bool true]] = encS (tkSt z o s d a cs n) := rfl
theorem runTk (xs : List PV) (t : Tr) (v : PV) (hg : gTk xs = some t) (hv : t.val = some v) : ∃ H, footSR EN T0 H 1000009 5 19 xs = some v := by
  unfold gTk at hg
  split at hg
  . rename_i n1 n w z o s d q cs l a z' o' s'
    cases hg
    obtain ⟨hc, rfl⟩ := leaf_val hv
    unfold tkA at hc
    simp only [Bool.and_eq_true, decide_eq_true_eq] at hc
    obtain ⟨hq, h1, h2, e1, e2, e3, c1, c2, c3, c4, c5, c6, c7, c8, c9, c10, c11, c12⟩ := hc
    have hq := Nat.eq_of_beq_eq_true hq
    have h1 := Nat.eq_of_beq_eq_true h1
    have h2 := Nat.eq_of_beq_eq_true h2
    have c9 := Nat.eq_of_beq_eq_true c9
    have c10 := Nat.eq_of_beq_eq_true c10
    subst hq h1 h2 e1 e2 e3
    obtain ⟨z, rfl⟩ := Int.eq_ofNat_of_zero_le (show 0 <= z by omega)
    obtain ⟨s, rfl⟩ := Int.eq_ofNat_of_zero_le (show 0 <= s by omega)
    obtain ⟨a, rfl⟩ := Int.eq_ofNat_of_zero_le (show 0 <= a by omega)
    obtain ⟨d, rfl⟩ := Int.eq_ofNat_of_zero_le (show 0 <= d by omega)
    simp only [Int.toNat_natCast] at c9
    have c9 := c9.symm
    subst c9
    have ecs := ivs_of c11
    have hL : (cs.map asI).length = z := by rw [List.length_map]; exact c10
    refine ⟨H0, ?_⟩
    rw [tkE]
    refine (tk0 1000009 z o s d a cs z w).trans ?_
    unfold tkR
    simp only [Int.toNat_natCast] at c12 ⊢
    obtain ⟨r, hr⟩ := Option.isSome_iff_exists.1 c12
    rw [hr, Option.getD_some, ass_of (by simp; omega), tmodN (by omega) (by omega), wrap_small (by omega) (by omega), show (d : Int) + 1 = ((d + 1 : Nat) : Int) from by simp]
    have main := tk_loop (N := 1000009) (o := o) (w := w) (p0 := (a : Int)) (by omega) (by omega) (by omega) hL 300 a ((a + s) % z) (d + 1) 999709 r (by omega) (Nat.mod_lt _ (by omega)) (by omega) hr
    rw [show 999709 + 300 = 1000009 from by omega, <- ecs] at main
    exact main
  . cases hg
noncomputable def TTk : Table := TaddT T0 19 gTk
theorem TTkok : TR TTk := TR0.addF TR0 runTk
end Go.Proofs.YtaofbpldflcjmaaDoor.Am
