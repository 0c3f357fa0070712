/- An op on both sides: the same rows. Plain. -/
import Derived.Test.YtpbemfikhmeedaaGreatDoorMT2
set_option linter.unusedVariables false
set_option linter.unusedSimpArgs false
set_option maxRecDepth 100000
set_option maxHeartbeats 8000000
namespace Go.Proofs.YtpbemfikhmeedaaGreatDoor.Am
section
open St
theorem filter_all {R : List (List PV)} {p : List PV -> Bool} (h : ∀ x ∈ R, p x = true) : R.filter p = R := List.filter_eq_self.2 h
theorem keepF_eq {r : Rw} {u : List PV} (hk : known u = true) (hb : ∀ x ∈ r.F, r8 x) (ho : r8 (opF u)) : keepF u r.F = r.F.filter fun x => !hit1 u x := by
  unfold known at hk
  simp only [Bool.and_eq_true, decide_eq_true_eq] at hk
  unfold keepF kF hit1
  by_cases h2 : opK u <= 2
  . have : opK u = 1 ∨ opK u = 2 := by omega
    rw [show (opK u == 1 || opK u == 2) = true from by rcases this with h | h <;> simp [h], cond_true]
    refine List.filter_congr fun x hx => ?_
    unfold stayF hitF hitRF
    rw [atC_eq (hb x hx) ho]
    simp [h2]
  . rw [show (opK u == 1 || opK u == 2) = false from by simp; omega, cond_false]
    exact (filter_all fun x hx => by simp [h2]).symm
theorem keepG_eq {r : Rw} {u : List PV} : keepG u r.G = r.G.filter fun x => !hit2 u x := by
  unfold keepG hit2
  cases kG u with
  | true => exact List.filter_congr fun x hx => by unfold stayG; simp
  | false => exact (filter_all fun x hx => by simp).symm
theorem keepI_eq {r : Rw} {u : List PV} (hk : known u = true) : keepI u r.I = r.I.filter fun x => !hit3 u x := by
  unfold known at hk
  simp only [Bool.and_eq_true, decide_eq_true_eq] at hk
  unfold keepI kI hit3
  by_cases h2 : opK u ≥ 5
  . have : opK u = 5 ∨ opK u = 6 := by omega
    rw [show (opK u == 5 || opK u == 6) = true from by rcases this with h | h <;> simp [h], cond_true]
    exact List.filter_congr fun x hx => by unfold stayI; simp [h2]
  . rw [show (opK u == 5 || opK u == 6) = false from by simp; omega, cond_false]
    exact (filter_all fun x hx => by simp [h2]).symm
def opOk (u : List PV) : Bool := askO u && (grOk (opG u) && fiOk (opI u))
theorem keep_sub {u : List PV} {R : List (List PV)} : (∀ x ∈ keepF u R, x ∈ R) /\ (∀ x ∈ keepG u R, x ∈ R) /\ (∀ x ∈ keepI u R, x ∈ R) := by
  unfold keepF keepG keepI
  refine ⟨?_, ?_, ?_⟩
  . cases kF u with
    | true => exact fun x hx => (List.mem_filter.1 hx).1
    | false => exact fun x hx => hx
  . cases kG u with
    | true => exact fun x hx => (List.mem_filter.1 hx).1
    | false => exact fun x hx => hx
  . cases kI u with
    | true => exact fun x hx => (List.mem_filter.1 hx).1
    | false => exact fun x hx => hx
theorem keep_len {u : List PV} {R : List (List PV)} : (keepF u R).length <= R.length /\ (keepG u R).length <= R.length /\ (keepI u R).length <= R.length := by
  unfold keepF keepG keepI
  refine ⟨?_, ?_, ?_⟩
  . cases kF u with
    | true => exact List.length_filter_le _ _
    | false => exact Nat.le_refl _
  . cases kG u with
    | true => exact List.length_filter_le _ _
    | false => exact Nat.le_refl _
  . cases kI u with
    | true => exact List.length_filter_le _ _
    | false => exact Nat.le_refl _
theorem put_len (u : List PV) : (putF u).length <= 1 /\ (putG u).length <= 1 /\ (putI u).length <= 1 := by
  unfold putF putG putI
  refine ⟨?_, ?_, ?_⟩
  . cases opK u == 1 <;> simp
  . cases opK u == 3 <;> simp
  . cases opK u == 5 <;> simp
theorem put_gk {u : List PV} (h : opOk u = true) : (∀ x ∈ putG u, grOk x = true) /\ (∀ x ∈ putI u, fiOk x = true) := by
  unfold opOk at h
  simp only [Bool.and_eq_true] at h
  unfold putG putI
  refine ⟨?_, ?_⟩
  . cases opK u == 3 with
    | true => intro x hx; rw [List.mem_singleton.1 hx]; exact h.2.1
    | false => intro x hx; cases hx
  . cases opK u == 5 with
    | true => intro x hx; rw [List.mem_singleton.1 hx]; exact h.2.2
    | false => intro x hx; cases hx
structure DoOk (r : Rw) (u : List PV) : Prop where
  h : r.ok = true
  o : opOk u = true
  k : known u = true
  b : ∀ x ∈ r.F, r8 x
  p : r8 (opF u)
  nf : r.nf < 1000000
  ng : r.ng < 1000000
  ni : r.ni < 1000000
section
variable {r : Rw} {u : List PV}
theorem DoOk.ask (X : DoOk r u) : askO u = true := by
  have := X.o
  unfold opOk at this
  simp only [Bool.and_eq_true] at this
  exact this.1
theorem DoOk.rest (X : DoOk r u) : (r.rest u).ok = true /\ (r.rest u).F = keepF u r.F /\ (r.rest u).G = keepG u r.G /\ (r.rest u).I = keepI u r.I := by
  have lx := Rw.lists X.h
  have k1 := (keep_len (u := u) (R := r.F)).1
  have k2 := (keep_len (u := u) (R := r.G)).2.1
  have k3 := (keep_len (u := u) (R := r.I)).2.2
  have s2 := (keep_sub (u := u) (R := r.G)).2.1
  have s3 := (keep_sub (u := u) (R := r.I)).2.2
  have n1 := lx.nf
  have n2 := lx.ng
  have n3 := lx.ni
  have m1 := X.nf
  have m2 := X.ng
  have m3 := X.ni
  exact mk_ok (mem_ok lx.f keep_sub.1) (mem_ok lx.g s2) (mem_ok lx.i s3) (by omega) (by omega) (by omega) (fun x hx => lx.gk x (s2 x hx)) (fun x hx => lx.ik x (s3 x hx))
theorem DoOk.more (X : DoOk r u) : (moreR u).ok = true /\ (moreR u).F = putF u /\ (moreR u).G = putG u /\ (moreR u).I = putI u := by
  obtain ⟨a, b, c⟩ := put_rows X.ask
  obtain ⟨l1, l2, l3⟩ := put_len u
  obtain ⟨g1, g2⟩ := put_gk X.o
  exact mk_ok a b c (by omega) (by omega) (by omega) g1 g2
theorem DoOk.join (X : DoOk r u) : joOk [r.rest u, moreR u] = true := by
  have lx := Rw.lists X.h
  obtain ⟨a1, a2, a3, a4⟩ := X.rest
  obtain ⟨b1, b2, b3, b4⟩ := X.more
  obtain ⟨l1, l2, l3⟩ := put_len u
  have k1 := (keep_len (u := u) (R := r.F)).1
  have k2 := (keep_len (u := u) (R := r.G)).2.1
  have k3 := (keep_len (u := u) (R := r.I)).2.2
  have n1 := lx.nf
  have n2 := lx.ng
  have n3 := lx.ni
  have m1 := X.nf
  have m2 := X.ng
  have m3 := X.ni
  unfold joOk joF joG joI
  simp only [List.all_cons, List.all_nil, a1, b1, Bool.and_self, List.flatMap_cons, List.flatMap_nil, List.append_nil, List.length_append, a2, a3, a4, b2, b3, b4, Bool.and_true, Bool.true_and, Bool.and_eq_true, decide_eq_true_eq]
  omega
theorem DoOk.lists (X : DoOk r u) : keepF u r.F ++ putF u = outF r u /\ keepG u r.G ++ putG u = outG r u /\ keepI u r.I ++ putI u = outI r u := by
  unfold outF outG outI
  rw [keepF_eq X.k X.b X.p, keepG_eq, keepI_eq X.k]
  exact ⟨rfl, rfl, rfl⟩
theorem DoOk.out (X : DoOk r u) : (outR r u).ok = true /\ (outR r u).F = outF r u /\ (outR r u).G = outG r u /\ (outR r u).I = outI r u := by
  have lx := Rw.lists X.h
  obtain ⟨e1, e2, e3⟩ := X.lists
  obtain ⟨l1, l2, l3⟩ := put_len u
  have k1 := (keep_len (u := u) (R := r.F)).1
  have k2 := (keep_len (u := u) (R := r.G)).2.1
  have k3 := (keep_len (u := u) (R := r.I)).2.2
  have s2 := (keep_sub (u := u) (R := r.G)).2.1
  have s3 := (keep_sub (u := u) (R := r.I)).2.2
  obtain ⟨a, b, c⟩ := put_rows X.ask
  obtain ⟨g1, g2⟩ := put_gk X.o
  have n1 := lx.nf
  have n2 := lx.ng
  have n3 := lx.ni
  have m1 := X.nf
  have m2 := X.ng
  have m3 := X.ni
  unfold outR
  rw [<- e1, <- e2, <- e3]
  refine mk_ok (rows_app (mem_ok lx.f keep_sub.1) a) (rows_app (mem_ok lx.g s2) b) (rows_app (mem_ok lx.i s3) c) (by rw [List.length_append]; omega) (by rw [List.length_append]; omega) (by rw [List.length_append]; omega) (fun x hx => ?_) (fun x hx => ?_)
  . rcases List.mem_append.1 hx with hx | hx
    . exact lx.gk x (s2 x hx)
    . exact g1 x hx
  . rcases List.mem_append.1 hx with hx | hx
    . exact lx.ik x (s3 x hx)
    . exact g2 x hx
theorem DoOk.join1 (X : DoOk r u) : joOk [outR r u] = true := by
  obtain ⟨c1, c2, c3, c4⟩ := X.out
  have lo := Rw.lists c1
  have := lo.mf
  have := lo.mg
  have := lo.mi
  have := lo.nf
  have := lo.ng
  have := lo.ni
  unfold joOk joF joG joI
  simp only [List.all_cons, List.all_nil, c1, Bool.and_self, List.flatMap_cons, List.flatMap_nil, List.append_nil, Bool.and_true, Bool.true_and, Bool.and_eq_true, decide_eq_true_eq]
  omega
theorem DoOk.same (X : DoOk r u) : doP r u = rj [outR r u] := by
  obtain ⟨a1, a2, a3, a4⟩ := X.rest
  obtain ⟨b1, b2, b3, b4⟩ := X.more
  obtain ⟨c1, c2, c3, c4⟩ := X.out
  obtain ⟨e1, e2, e3⟩ := X.lists
  have j2 := jo_ok X.join
  have f1 : joF [r.rest u, moreR u] = outF r u := by simp only [joF, List.flatMap_cons, List.flatMap_nil, List.append_nil, a2, b2, e1]
  have f2 : joG [r.rest u, moreR u] = outG r u := by simp only [joG, List.flatMap_cons, List.flatMap_nil, List.append_nil, a3, b3, e2]
  have f3 : joI [r.rest u, moreR u] = outI r u := by simp only [joI, List.flatMap_cons, List.flatMap_nil, List.append_nil, a4, b4, e3]
  have d1 : joF [outR r u] = outF r u := by simp only [joF, List.flatMap_cons, List.flatMap_nil, List.append_nil, c2]
  have d2 : joG [outR r u] = outG r u := by simp only [joG, List.flatMap_cons, List.flatMap_nil, List.append_nil, c3]
  have d3 : joI [outR r u] = outI r u := by simp only [joI, List.flatMap_cons, List.flatMap_nil, List.append_nil, c4]
  have h8 : ∀ z ∈ outF r u, r8 z := by
    intro z hz
    rw [<- e1] at hz
    rcases List.mem_append.1 hz with hz | hz
    . exact X.b z (keep_sub.1 z hz)
    . unfold putF at hz
      cases h : opK u == 1 with
      | true => rw [h] at hz; rw [List.mem_singleton.1 hz]; exact X.p
      | false => rw [h] at hz; cases hz
  unfold doP Rw.so rj Rw.mk'
  rw [j2.2.1, j2.2.2.1, j2.2.2.2, f1, f2, f3, d1, d2, d3]
  have e1 : insAll (ltOf cFr) (outF r u) = insAll (ltOf rFr) (outF r u) := insAll_congr _ fun x hx y hy => by
    unfold ltOf
    rw [cFr_eq (h8 x hx) (h8 y hy)]
  have e2 : insAll (ltOf cGi) (outG r u) = insAll (ltOf rGi) (outG r u) := insAll_congr _ fun x hx y hy => by
    unfold ltOf
    rw [cGi_eq]
  have e3 : insAll (ltOf cKy) (outI r u) = insAll (ltOf rKy) (outI r u) := insAll_congr _ fun x hx y hy => by
    unfold ltOf
    rw [cKy_eq]
  rw [e1, e2, e3, insAll_len, insAll_len, insAll_len]
  show (⟨(jo [r.rest u, moreR u]).nf, _, (jo [r.rest u, moreR u]).ng, _, (jo [r.rest u, moreR u]).ni, _⟩ : Rw) = _
  have lj := Rw.lists j2.1
  rw [<- lj.nf, <- lj.ng, <- lj.ni, j2.2.1, j2.2.2.1, j2.2.2.2, f1, f2, f3]
end
end
section
open St
theorem wrap_id {x : Int} (h0 : 0 <= x) (h1 : x <= 4000000) : IntKind.i64.wrap x = x := by
  simp [IntKind.wrap, IntKind.bits, IntKind.signed]; omega
theorem len_small {r : Rw} (h1 : r.nf <= 1000000) (h2 : r.ng <= 1000000) (h3 : r.ni <= 1000000) : r.len = ((r.nf + r.ng + r.ni : Nat) : Int) := by
  unfold Rw.len
  rw [wrap_id (x := (r.nf : Int) + (r.ng : Int)) (by omega) (by omega), wrap_id (by omega) (by omega)]
  omega
theorem shrink (R : List (List PV)) (hit : List PV -> Bool) : (R.filter fun x => !hit x).length < R.length ↔ R.any hit = true := by
  induction R with
  | nil => simp
  | cons x R ih =>
    have hle := List.length_filter_le (fun x => !hit x) R
    cases hx : hit x with
    | true =>
      rw [List.filter_cons_of_neg (by simp [hx]), List.any_cons, hx, Bool.true_or, List.length_cons]
      simp
      omega
    | false =>
      rw [List.filter_cons_of_pos (by simp [hx]), List.any_cons, hx, Bool.false_or, List.length_cons, List.length_cons, <- ih]
      omega
section
variable {r : Rw} {u : List PV}
theorem DoOk.none (X : DoOk r u) : noneP r u = noneR r u := by
  have lx := Rw.lists X.h
  obtain ⟨l1, l2, l3⟩ := put_len u
  have k1 := (keep_len (u := u) (R := r.F)).1
  have k2 := (keep_len (u := u) (R := r.G)).2.1
  have k3 := (keep_len (u := u) (R := r.I)).2.2
  have n1 := lx.nf
  have n2 := lx.ng
  have n3 := lx.ni
  have m1 := X.nf
  have m2 := X.ng
  have m3 := X.ni
  have s1 := shrink r.F (hit1 u)
  have s2 := shrink r.G (hit2 u)
  have s3 := shrink r.I (hit3 u)
  rw [<- keepF_eq X.k X.b X.p] at s1
  rw [<- keepG_eq] at s2
  rw [<- keepI_eq X.k] at s3
  have e1 : (r.rest u).len = (((keepF u r.F).length + (keepG u r.G).length + (keepI u r.I).length : Nat) : Int) := len_small (show (keepF u r.F).length <= 1000000 by omega) (show (keepG u r.G).length <= 1000000 by omega) (show (keepI u r.I).length <= 1000000 by omega)
  have e2 : r.len = ((r.nf + r.ng + r.ni : Nat) : Int) := len_small (by omega) (by omega) (by omega)
  have e3 : (moreR u).len = (((putF u).length + (putG u).length + (putI u).length : Nat) : Int) := len_small (show (putF u).length <= 1000000 by omega) (show (putG u).length <= 1000000 by omega) (show (putI u).length <= 1000000 by omega)
  have e4 : decide ((r.rest u).len < r.len) = hitsR r u := by
    rw [Bool.eq_iff_iff, decide_eq_true_eq, e1, e2]
    unfold hitsR
    simp only [Bool.or_eq_true]
    rw [<- s1, <- s2, <- s3]
    omega
  unfold noneP noneR
  rw [e4, e3]
  unfold putF putG putI
  by_cases h1 : opK u = 1
  . simp [h1]
  by_cases h3 : opK u = 3
  . simp [h3]
  by_cases h5 : opK u = 5
  . simp [h5]
  have e : ∀ k : Int, opK u ≠ k -> (opK u == k) = false := fun k hk => by simpa using hk
  rw [e 1 h1, e 3 h3, e 5 h5]
  rfl
theorem DoOk.next (X : DoOk r u) : (rj [outR r u]).ok = true /\ (∀ x ∈ (rj [outR r u]).F, r8 x) /\ (rj [outR r u]).nf <= r.nf + 1 /\ (rj [outR r u]).ng <= r.ng + 1 /\ (rj [outR r u]).ni <= r.ni + 1 := by
  have lx := Rw.lists X.h
  obtain ⟨c1, c2, c3, c4⟩ := X.out
  obtain ⟨e1, e2, e3⟩ := X.lists
  obtain ⟨l1, l2, l3⟩ := put_len u
  have k1 := (keep_len (u := u) (R := r.F)).1
  have k2 := (keep_len (u := u) (R := r.G)).2.1
  have k3 := (keep_len (u := u) (R := r.I)).2.2
  have n1 := lx.nf
  have n2 := lx.ng
  have n3 := lx.ni
  have d1 : joF [outR r u] = outF r u := by simp only [joF, List.flatMap_cons, List.flatMap_nil, List.append_nil, c2]
  have d2 : joG [outR r u] = outG r u := by simp only [joG, List.flatMap_cons, List.flatMap_nil, List.append_nil, c3]
  have d3 : joI [outR r u] = outI r u := by simp only [joI, List.flatMap_cons, List.flatMap_nil, List.append_nil, c4]
  have J := JL.of X.join1
  have mk := mk_ok (rows_ins (lt := ltOf rFr) J.f) (rows_ins (lt := ltOf rGi) J.g) (rows_ins (lt := ltOf rKy) J.i) (by rw [insAll_len]; exact J.mf) (by rw [insAll_len]; exact J.mg) (by rw [insAll_len]; exact J.mi) (fun x hx => J.gk x ((mem_insAll _ _ _).1 hx)) (fun x hx => J.ik x ((mem_insAll _ _ _).1 hx))
  refine ⟨mk.1, fun x hx => ?_, ?_, ?_, ?_⟩
  . have hx' : x ∈ outF r u := by
      have h0 : (rj [outR r u]).F = insAll (ltOf rFr) (joF [outR r u]) := mk.2.1
      rw [h0, d1] at hx
      exact (mem_insAll _ _ _).1 hx
    rw [<- e1] at hx'
    rcases List.mem_append.1 hx' with hz | hz
    . exact X.b x (keep_sub.1 x hz)
    . unfold putF at hz
      cases h : opK u == 1 with
      | true => rw [h] at hz; rw [List.mem_singleton.1 hz]; exact X.p
      | false => rw [h] at hz; cases hz
  . show (insAll (ltOf rFr) (joF [outR r u])).length <= _
    rw [insAll_len, d1, <- e1, List.length_append]
    omega
  . show (insAll (ltOf rGi) (joG [outR r u])).length <= _
    rw [insAll_len, d2, <- e2, List.length_append]
    omega
  . show (insAll (ltOf rKy) (joI [outR r u])).length <= _
    rw [insAll_len, d3, <- e3, List.length_append]
    omega
end
end
section
open St
noncomputable def TSt : Table := TaddT (TaddT T0 21 gCp) 13 gDo
theorem TStok : TR TSt := okCp.addT TDook runDo
def arrC (b ice : Bool) (c : List PV) (es n : Nat) : Store := bif b then [.mem ⟨c, es, n, false, ice, false⟩] else []
def cpC (b : Bool) (id es n : Nat) : PV := bif b then .osl id n 0 es n none else .sl [] es 0 none
def cps (r : Rw) (bf bg bi : Bool) : List PV := [cpC bf 2 26 r.nf, cpC bg (2 + nb bf) 8 r.ng, cpC bi (2 + nb bf + nb bg) 3 r.ni]
def slS (r : Rw) (c : List PV) (n : Nat) (bf bg bi : Bool) (i : Int) : List (Nat × PV) := [(0, r.pv), (1, .sl c 38 n none), (2, .ptr 0 1 0), (4, .ptr 1 1 0), (5, vI 0), (6, .nilif), (7, .ptr (2 + nb bf + nb bg + nb bi) 1 0), (12, r.pv), (13, .agg (cps r bf bg bi)), (14, .sl c 38 n none), (15, vI n), (16, vI i)]
noncomputable def LSt (N m : Nat) (r : Rw) (c : List PV) (n : Nat) (bf bg bi ice : Bool) (cur : List PV) (i : Int) : Option PV := loopS EN TSt H0 N 5 9 Tryz.f9 [1, 1, 0, 1, 0] (patOf (sparse 37 0 (slS nilR [] 0 false false false 0))) (3 + nb bf + nb bg + nb bi) m (sparse 37 0 (slS r c n bf bg bi i))
  ([bx r.pv.cells, bxN n3 3] ++ (arrC bf ice r.fc 26 r.nf ++ (arrC bg ice r.gc 8 r.ng ++ (arrC bi ice r.ic 3 r.ni ++ [bx cur]))))
def opAt (c : List PV) (i : Int) : List PV := shapeAt KOp c (i.toNat * 38)
def cpR (r : Rw) (bf bg bi : Bool) : Rw := jR bf bg bi r.fc r.nf r.gc r.ng r.ic r.ni
def askT (r : Rw) (c : List PV) (bf bg bi : Bool) (s : Rw) (x : Nat) : List Bool :=
  o3 x r ++ ([oldL x c] ++ (o3 x r ++ ([oldL x c] ++ (o3 x r ++ (ifb bf [oldL 0 r.fc] ++ (ifb bg [oldL 0 r.gc] ++ (ifb bi [oldL 0 r.ic] ++ o3 x s)))))))
noncomputable def stepT (N m : Nat) (r : Rw) (c : List PV) (n : Nat) (bf bg bi : Bool) (s : Rw) (u : List PV) (i : Int) : Option PV :=
  asks (oOld 0 u) <|
  bif known u then
    (bif noneP s u then (asks [s.ok && askO u] <| some (.tup [nilRows, vI i, errN]))
     else (asks [s.ok && (askO u && joOk [s.rest u, moreR u])] <| asks (askT r c bf bg bi (doP s u) (3 + nb bf + nb bg + nb bi)) <| LSt N m r c n bf bg bi true (doP s u).pv.cells (IntKind.i64.wrap (i + 1))))
  else (asks [askO u] <| some (.tup [nilRows, vI i, errK]))
theorem st0 (N : Nat) (r : Rw) (c : List PV) (n : Nat) : apartS EN TSt H0 N 5 9 [r.pv, .sl c 38 n none] =
  (asks (o3 0 r) <| clB r.nf fun bf => clB r.ng fun bg => clB r.ni fun bi => asks [r.ok] <| asks (ifb bf [oldL 0 r.fc]) <| asks (ifb bg [oldL 0 r.gc]) <| asks (ifb bi [oldL 0 r.ic]) <| LSt N N r c n bf bg bi false (cps r bf bg bi) 0) := by kernel_rfl
theorem st1 (N m : Nat) (r : Rw) (c : List PV) (n : Nat) (bf bg bi : Bool) (i : Int) : LSt N (m + 1) r c n bf bg bi false (cps r bf bg bi) i =
  (bif decide (i < (n : Int)) then
    (asks [decide (0 <= i) && decide (i < (n : Int)), okAt KOp c (i.toNat * 38)] <| asks (ifb bf (sealAsk r.fc r.nf 26)) <| asks (ifb bg (sealAsk r.gc r.ng 8)) <| asks (ifb bi (sealAsk r.ic r.ni 3)) <|
     asks (ifb bf [oldL 0 ((r.fc.drop 0).take (r.nf * 26))]) <| asks (ifb bg [oldL 0 ((r.gc.drop 0).take (r.ng * 8))]) <| asks (ifb bi [oldL 0 ((r.ic.drop 0).take (r.ni * 3))]) <|
     stepT N m r c n bf bg bi (cpR r bf bg bi) (opAt c i) i)
  else (asks (ifb bf (sealAsk r.fc r.nf 26)) <| asks (ifb bg (sealAsk r.gc r.ng 8)) <| asks (ifb bi (sealAsk r.ic r.ni 3)) <|
     asks (ifb bf [oldL 0 ((r.fc.drop 0).take (r.nf * 26))]) <| asks (ifb bg [oldL 0 ((r.gc.drop 0).take (r.ng * 8))]) <| asks (ifb bi [oldL 0 ((r.ic.drop 0).take (r.ni * 3))]) <|
     some (.tup [(cpR r bf bg bi).pv, vI n, .nilif]))) := by cases bf <;> cases bg <;> cases bi <;> kernel_rfl
theorem st2 (N m : Nat) (r s : Rw) (c : List PV) (n : Nat) (bf bg bi : Bool) (i : Int) : LSt N (m + 1) r c n bf bg bi true s.pv.cells i =
  (bif decide (i < (n : Int)) then
    (asks [decide (0 <= i) && decide (i < (n : Int)), okAt KOp c (i.toNat * 38)] <| asks (o3 0 s) <| stepT N m r c n bf bg bi s (opAt c i) i)
  else (asks (o3 0 s) <| some (.tup [s.pv, vI n, .nilif]))) := by cases bf <;> cases bg <;> cases bi <;> kernel_rfl
end
section
open St
def stgR : Rw -> List (List PV) -> Nat -> Rw × Nat × Nat
  | s, [], i => (s, i, 0)
  | s, u :: L, i => bif known u then (bif noneP s u then (nilR, i, 11) else stgR (doP s u) L (i + 1)) else (nilR, i, 7)
def stgOk : Rw -> List (List PV) -> Bool
  | s, [] => s.ok
  | s, u :: L => s.ok && (askO u && bif known u then (bif noneP s u then true else joOk [s.rest u, moreR u] && stgOk (doP s u) L) else true)
def errOf (e : Nat) : PV := bif Nat.beq e 0 then .nilif else bif Nat.beq e 7 then errK else errN
def stgV (x : Rw × Nat × Nat) : PV := .tup [x.1.pv, vI x.2.1, errOf x.2.2]
theorem stOk_ok : ∀ {s : Rw} {L : List (List PV)}, stgOk s L = true -> s.ok = true
  | s, [], h => h
  | s, u :: L, h => by
    unfold stgOk at h
    simp only [Bool.and_eq_true] at h
    exact h.1
theorem op_at {R : List (List PV)} (hR : rowsOk KOp R = true) {i : Nat} (hi : i < R.length) : opAt R.flatten (i : Int) = R[i] /\ okAt KOp R.flatten (i * 38) = true := by
  have hr := rows_at0 hR hi
  unfold opAt
  rw [Int.toNat_natCast, show (38 : Nat) = KOp.length from rfl]
  exact ⟨hr.2, hr.1⟩
theorem askT_ok {r s : Rw} {c : List PV} (h : r.ok = true) (k : s.ok = true) (hc : oldL 0 c = true) (bf bg bi : Bool) (x : Nat) : (askT r c bf bg bi s x).all id = true := by
  have lx := Rw.lists h
  have a := o3_ok h x
  have b := o3_ok k x
  have hx : oldL x c = true := oldL_le (Nat.zero_le x) _ hc
  have f : oldL 0 r.fc = true := by rw [<- lx.fc]; exact rows_old lx.f
  have g : oldL 0 r.gc = true := by rw [<- lx.gc]; exact rows_old lx.g
  have i : oldL 0 r.ic = true := by rw [<- lx.ic]; exact rows_old lx.i
  exact all_app' a (all_app' (ask1 hx) (all_app' a (all_app' (ask1 hx) (all_app' a (all_app' (ifk (ask1 f)) (all_app' (ifk (ask1 g)) (all_app' (ifk (ask1 i)) b)))))))
theorem stepT_ok {N m n : Nat} {r s : Rw} {c : List PV} {bf bg bi : Bool} {u : List PV} {L : List (List PV)} {i : Nat} (h : r.ok = true) (hc : oldL 0 c = true) (hi : i < 1000000) (ho : stgOk s (u :: L) = true)
    (next : noneP s u = false -> stgOk (doP s u) L = true -> LSt N m r c n bf bg bi true (doP s u).pv.cells ((i + 1 : Nat) : Int) = some (stgV (stgR (doP s u) L (i + 1)))) :
    stepT N m r c n bf bg bi s u (i : Int) = some (stgV (stgR s (u :: L) i)) := by
  have ho' := ho
  unfold stgOk at ho
  simp only [Bool.and_eq_true] at ho
  obtain ⟨h1, h2, h3⟩ := ho
  unfold stepT stgR
  rw [asks_of (oOld_ok h2 0)]
  cases hk : known u with
  | false =>
    rw [cond_false, cond_false, asks_of (ask1 h2)]
    rfl
  | true =>
    rw [hk, cond_true] at h3
    rw [cond_true, cond_true]
    cases hn : noneP s u with
    | true =>
      rw [cond_true, cond_true, asks_of (ask1 (by rw [h1, h2]; rfl))]
      rfl
    | false =>
      rw [hn, cond_false] at h3
      simp only [Bool.and_eq_true] at h3
      rw [cond_false, cond_false, asks_of (ask1 (by rw [h1, h2, h3.1]; rfl)), asks_of (askT_ok h (stOk_ok h3.2) hc bf bg bi _), wrap_succ (by omega : i < 9223372036854775807)]
      exact next hn h3.2
theorem st_loop {N n : Nat} {r : Rw} {R : List (List PV)} {bf bg bi : Bool} (h : r.ok = true) (hR : rowsOk KOp R = true) (hl : R.length = n) (hn : n <= 1000000) : ∀ (k i t : Nat) (s : Rw), i + k = n -> stgOk s (R.drop i) = true ->
    LSt N (t + k + 1) r R.flatten n bf bg bi true s.pv.cells (i : Int) = some (stgV (stgR s (R.drop i) i))
  | 0, i, t, s, e, ho => by
    rw [st2, cond_f (show decide ((i : Int) < (n : Int)) = false from by simp; omega), asks_of (o3_ok (stOk_ok ho) 0), List.drop_eq_nil_of_le (by omega), show i = n from by omega]
    rfl
  | k + 1, i, t, s, e, ho => by
    have hi : i < R.length := by omega
    have hp := op_at hR hi
    rw [List.drop_eq_getElem_cons hi] at ho ⊢
    rw [show t + (k + 1) + 1 = (t + k + 1) + 1 from by omega, st2, cond_t (show decide ((i : Int) < (n : Int)) = true from by simp; omega), asks_of (cons_ok (inside (by omega : i < n)) (cons_ok (by rw [Int.toNat_natCast]; exact hp.2) rfl)), asks_of (o3_ok (stOk_ok ho) 0), hp.1]
    exact stepT_ok h (rows_old hR) (by omega) ho fun _ ho2 => st_loop h hR hl hn k (i + 1) t (doP s R[i]) (by omega) ho2
theorem cpR_eq {r : Rw} (h : r.ok = true) : cpR r (!Nat.beq r.nf 0) (!Nat.beq r.ng 0) (!Nat.beq r.ni 0) = r := by
  have lx := Rw.lists h
  have key : ∀ F G I : List (List PV), rowsOk KFr F = true -> rowsOk KGr G = true -> rowsOk KFi I = true -> F.flatten = r.fc -> G.flatten = r.gc -> I.flatten = r.ic -> F.length = r.nf -> G.length = r.ng -> I.length = r.ni -> cpR r (!Nat.beq r.nf 0) (!Nat.beq r.ng 0) (!Nat.beq r.ni 0) = r := by
    intro F G I f g i e1 e2 e3 n1 n2 n3
    obtain ⟨nf, fc, ng, gc, ni, ic⟩ := r
    dsimp only at e1 e2 e3 n1 n2 n3
    subst e1 e2 e3 n1 n2 n3
    exact jR_mk f g i
  exact key r.F r.G r.I lx.f lx.g lx.i lx.fc lx.gc lx.ic lx.nf lx.ng lx.ni
theorem st_all {n : Nat} {r : Rw} {R : List (List PV)} (h : r.ok = true) (hR : rowsOk KOp R = true) (hl : R.length = n) (hn : n <= 1000000) (ho : stgOk r R = true) :
    LSt 1000009 1000009 r R.flatten n (!Nat.beq r.nf 0) (!Nat.beq r.ng 0) (!Nat.beq r.ni 0) false (cps r (!Nat.beq r.nf 0) (!Nat.beq r.ng 0) (!Nat.beq r.ni 0)) 0 = some (stgV (stgR r R 0)) := by
  have lx := Rw.lists h
  obtain ⟨s1, s2, _⟩ := seal_ok lx.f (by decide)
  obtain ⟨s4, s5, _⟩ := seal_ok lx.g (by decide)
  obtain ⟨s7, s8, _⟩ := seal_ok lx.i (by decide)
  rw [lx.fc, lx.nf, show KFr.length = 26 from rfl] at s1 s2
  rw [lx.gc, lx.ng, show KGr.length = 8 from rfl] at s4 s5
  rw [lx.ic, lx.ni, show KFi.length = 3 from rfl] at s7 s8
  rw [show (1000009 : Nat) = 1000008 + 1 from rfl, st1]
  cases R with
  | nil =>
    have : n = 0 := by rw [<- hl]; rfl
    subst this
    rw [cond_f (by simp), asks_of s1, asks_of s4, asks_of s7, asks_of s2, asks_of s5, asks_of s8, cpR_eq h]
    rfl
  | cons u L =>
    have hlen : L.length + 1 = n := by rw [<- hl]; rfl
    have hi : 0 < (u :: L).length := by simp
    have hp := op_at hR hi
    have hp1 : opAt (u :: L).flatten 0 = u := hp.1
    have hp2 : okAt KOp (u :: L).flatten 0 = true := by have := hp.2; rwa [Nat.zero_mul] at this
    rw [cond_t (by simp; omega), asks_of (cons_ok (by simp; omega) (cons_ok (by simpa using hp2) rfl)), asks_of s1, asks_of s4, asks_of s7, asks_of s2, asks_of s5, asks_of s8, cpR_eq h, hp1]
    refine stepT_ok (i := 0) h (rows_old hR) (by omega) ho fun _ ho2 => ?_
    have := st_loop (N := 1000009) (n := n) (bf := !Nat.beq r.nf 0) (bg := !Nat.beq r.ng 0) (bi := !Nat.beq r.ni 0) h hR hl hn (n - 1) 1 (1000007 - (n - 1)) (doP r u) (by omega) ho2
    rw [show 1000007 - (n - 1) + (n - 1) + 1 = 1000008 from by omega] at this
    exact this
def stgT (c : Bool) (x : Rw × Nat × Nat) : Tr :=
  .br (Nat.beq x.2.2 0) (.leaf c (.tup [x.1.pv, vI x.2.1, .nilif])) (.br (Nat.beq x.2.2 7) (.leaf c (.tup [x.1.pv, vI x.2.1, errK])) (.leaf c (.tup [x.1.pv, vI x.2.1, errN])))
theorem stgT_val {c : Bool} {x : Rw × Nat × Nat} {v : PV} (h : (stgT c x).val = some v) : c = true /\ v = stgV x := by
  unfold stgT at h
  unfold stgV errOf
  cases h0 : Nat.beq x.2.2 0 with
  | true =>
    rw [h0] at h
    obtain ⟨h1, h2⟩ := leaf_val (show (Tr.leaf c (.tup [x.1.pv, vI x.2.1, .nilif])).val = some v from h)
    exact ⟨h1, h2 ▸ rfl⟩
  | false =>
    rw [h0] at h
    cases h7 : Nat.beq x.2.2 7 with
    | true =>
      rw [h7] at h
      obtain ⟨h1, h2⟩ := leaf_val (show (Tr.leaf c (.tup [x.1.pv, vI x.2.1, errK])).val = some v from h)
      exact ⟨h1, h2 ▸ rfl⟩
    | false =>
      rw [h7] at h
      obtain ⟨h1, h2⟩ := leaf_val (show (Tr.leaf c (.tup [x.1.pv, vI x.2.1, errN])).val = some v from h)
      exact ⟨h1, h2 ▸ rfl⟩
def gSt (xs : List PV) : Option Tr := match xs with
  | [x, .sl c e n none] => match asRw x with
    | some r => some (stgT (Nat.beq e 38 && (rowsC KOp n c && stgOk r (chunks 38 n c))) (stgR r (chunks 38 n c) 0))
    | none => none
  | _ => none
theorem runSt (xs : List PV) (t : Tr) (v : PV) (hg : gSt xs = some t) (hv : t.val = some v) : ∃ H, apartS EN TSt H 1000009 5 9 xs = some v := by
  unfold gSt at hg
  split at hg
  . rename_i x c e n
    split at hg
    . rename_i r hr
      cases hg
      obtain ⟨hc, rfl⟩ := stgT_val hv
      simp only [Bool.and_eq_true] at hc
      obtain ⟨he, hrc, ho⟩ := hc
      rw [asRw_ok hr, Nat.eq_of_beq_eq_true he]
      obtain ⟨r1, r2, r3, r4⟩ := rowsC_ok hrc
      rw [show KOp.length = 38 from rfl] at r2 r3 r4
      have hk := stOk_ok ho
      have lx := Rw.lists hk
      have main := st_all hk r2 r4 r1 ho
      rw [r3] at main
      have fo : oldL 0 r.fc = true := by rw [<- lx.fc]; exact rows_old lx.f
      have go : oldL 0 r.gc = true := by rw [<- lx.gc]; exact rows_old lx.g
      have io : oldL 0 r.ic = true := by rw [<- lx.ic]; exact rows_old lx.i
      refine ⟨H0, (st0 1000009 r c n).trans ?_⟩
      rw [asks_of (o3_ok hk 0), clB_of, clB_of, clB_of, nob, nob, nob, asks_of (ask1 hk), asks_of (ifk (ask1 fo)), asks_of (ifk (ask1 go)), asks_of (ifk (ask1 io))]
      exact main
    . cases hg
  . cases hg
end
end Go.Proofs.YtpbemfikhmeedaaGreatDoor.Am
