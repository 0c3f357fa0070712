/- linkboyref25.Do: its walk. -/
import Derived.Test.YtpbemfikhmeedaaGreatDoorMT1
set_option linter.unusedVariables false
set_option linter.unusedSimpArgs false
set_option maxRecDepth 100000
set_option maxHeartbeats 8000000
namespace Go.Proofs.YtpbemfikhmeedaaGreatDoor.Am
section
open St
noncomputable def TRd : Table := Tadd (Tadd T0 30 (gRow2 KFr fun x y => atR (frAt x) (frAt y))) 31 gRefJoin
def HRd : FuncId -> Hint := fun f t => bif Nat.beq f 14 && (Nat.beq t 45 || (Nat.beq t 75 || (Nat.beq t 100 || (Nat.beq t 115 || (Nat.beq t 124 || Nat.beq t 133))))) then [none, some false] else []
def n3 : List PV := [.nils, .nils, .nils]
def curD (b : Bool) (id k es : Nat) : PV := bif b then .osl id k 0 es k none else .nils
def slD (r : Rw) (u : List PV) (th : Bool) : List (Nat × PV) := [(0, r.pv), (1, .agg (shapeAt KOp u 0)), (2, .ptr 0 1 0), (3, .ptr 1 1 0), (4, .ptr 2 1 0), (5, vI 0), (6, .ptr 3 1 0), (7, .bool th), (14, .agg n3), (15, .ptr 1 1 0), (16, vI (opK u)), (17, .bool (decide (opK u < 1))), (18, .bool false), (19, .ptr 1 1 0), (20, vI (opK u)), (21, .bool (decide (opK u > 6))), (22, .bool false), (24, .ptr 0 1 0), (25, .sl r.fc 26 r.nf none), (26, vI r.nf)]
def stD (r : Rw) (u : List PV) (F G I : PV) : Store := [bxN r.pv.cells 3, bxN (shapeAt KOp u 0) 38, bxN n3 3, bxN [F, G, I] 3]
noncomputable def patD (l : List (Nat × PV)) : List Bool := patOf (sparse 138 0 l)
noncomputable def LD1 (N m : Nat) (r : Rw) (u : List PV) (b : Bool) (ac : List PV) (k : Nat) (th : Bool) (i : Int) : Option PV := loopS EN TRd HRd N 5 14 Tryz.f14 [1, 1, 1, 1, 0, 1, 0] (patD (slD nilR [] false ++ [(27, .nils)])) 4 m
  (sparse 138 0 (slD r u th ++ [(27, vI i)])) (stD r u (curD b 4 k 26) .nils .nils ++ accO b ac 26 k)
def slE (r : Rw) (u : List PV) (th : Bool) (e : Int) : List (Nat × PV) := slD r u th ++ [(27, vI e), (28, .bool false), (48, .ptr 0 1 1), (49, .sl r.gc 8 r.ng none), (50, vI r.ng)]
noncomputable def LD2 (N m : Nat) (r : Rw) (u : List PV) (b : Bool) (ac : List PV) (k : Nat) (e : Int) (c : Bool) (bc : List PV) (l : Nat) (th : Bool) (i : Int) : Option PV := loopS EN TRd HRd N 5 14 Tryz.f14 [1, 1, 1, 1, 1, 0, 1, 0] (patD (slE nilR [] false 0 ++ [(51, .nils)])) (4 + nb b) m
  (sparse 138 0 (slE r u th e ++ [(51, vI i)])) (stD r u (curD b 4 k 26) (curD c (4 + nb b) l 8) .nils ++ (accO b ac 26 k ++ accO c bc 8 l))
def hitRF (u x : List PV) : Bool := atR (frAt x) (frAt (opF u)) == 0
def o6 (k : Nat) (r : Rw) (u : List PV) : List Bool := [oldL k r.fc, oldL k r.gc, oldL k r.ic] ++ oOld k u
def rowDF (r : Rw) (i : Int) : List PV := shapeAt KFr r.fc (i.toNat * 26)
theorem rd1 (N m : Nat) (r : Rw) (u : List PV) (b : Bool) (ac : List PV) (k : Nat) (th : Bool) (i : Int) : LD1 N (m + 1) r u b ac k th i =
  (bif decide (i < (r.nf : Int)) then
    (asks [decide (0 <= i) && decide (i < (r.nf : Int)), okAt KFr r.fc (i.toNat * 26)] <|
    bif decide (opK u <= 2) then
      (bif hitRF u (rowDF r i) then (asks (o6 4 r u ++ ([oldL 4 r.fc] ++ o6 4 r u)) <| asks (ifb b [oldL 0 ac]) <| LD1 N m r u b ac k true (IntKind.i64.wrap (i + 1)))
       else grow b ac k 26 (rowDF r i) fun a' k' => asks (o6 4 r u ++ ([oldL 4 r.fc] ++ o6 4 r u)) <| asks [oldL 0 a'] <| LD1 N m r u true a' k' th (IntKind.i64.wrap (i + 1)))
    else grow b ac k 26 (rowDF r i) fun a' k' => asks (o6 4 r u ++ ([oldL 4 r.fc] ++ o6 4 r u)) <| asks [oldL 0 a'] <| LD1 N m r u true a' k' th (IntKind.i64.wrap (i + 1)))
  else LD2 N N r u b ac k i false [] 0 th 0) := by cases b <;> kernel_rfl
def slG (r : Rw) (u : List PV) (th : Bool) (e1 e2 : Int) : List (Nat × PV) := slE r u th e1 ++ [(51, vI e2), (52, .bool false), (78, .ptr 0 1 2), (79, .sl r.ic 3 r.ni none), (80, vI r.ni)]
noncomputable def LD3 (N m : Nat) (r : Rw) (u : List PV) (b : Bool) (ac : List PV) (k : Nat) (e1 : Int) (c : Bool) (bc : List PV) (l : Nat) (e2 : Int) (d : Bool) (cc : List PV) (h : Nat) (th : Bool) (i : Int) : Option PV := loopS EN TRd HRd N 5 14 Tryz.f14 [1, 1, 1, 1, 1, 1, 0, 1, 0] (patD (slG nilR [] false 0 0 ++ [(81, .nils)])) (4 + nb b + nb c) m
  (sparse 138 0 (slG r u th e1 e2 ++ [(81, vI i)])) (stD r u (curD b 4 k 26) (curD c (4 + nb b) l 8) (curD d (4 + nb b + nb c) h 3) ++ (accO b ac 26 k ++ (accO c bc 8 l ++ accO d cc 3 h)))
def rowDG (r : Rw) (i : Int) : List PV := shapeAt KGr r.gc (i.toNat * 8)
def aD2 (r : Rw) (u : List PV) (x : Nat) : List Bool := o6 x r u ++ ([oldL x r.fc] ++ ([oldL x r.gc] ++ o6 x r u))
theorem rd2 (N m : Nat) (r : Rw) (u : List PV) (b : Bool) (ac : List PV) (k : Nat) (e : Int) (c : Bool) (bc : List PV) (l : Nat) (th : Bool) (i : Int) : LD2 N (m + 1) r u b ac k e c bc l th i =
  (bif decide (i < (r.ng : Int)) then
    (asks [decide (0 <= i) && decide (i < (r.ng : Int)), okAt KGr r.gc (i.toNat * 8)] <|
    bif opK u == 3 then
      (bif hitG u (rowDG r i) then (asks (aD2 r u (4 + nb b)) <| asks (ifb b [oldL 0 ac]) <| asks (ifb c [oldL 0 bc]) <| LD2 N m r u b ac k e c bc l true (IntKind.i64.wrap (i + 1)))
       else grow c bc l 8 (rowDG r i) fun a' k' => asks (aD2 r u (4 + nb b)) <| asks (ifb b [oldL 0 ac]) <| asks [oldL 0 a'] <| LD2 N m r u b ac k e true a' k' th (IntKind.i64.wrap (i + 1)))
    else bif opK u == 4 then
      (bif hitG u (rowDG r i) then (asks (aD2 r u (4 + nb b)) <| asks (ifb b [oldL 0 ac]) <| asks (ifb c [oldL 0 bc]) <| LD2 N m r u b ac k e c bc l true (IntKind.i64.wrap (i + 1)))
       else grow c bc l 8 (rowDG r i) fun a' k' => asks (aD2 r u (4 + nb b)) <| asks (ifb b [oldL 0 ac]) <| asks [oldL 0 a'] <| LD2 N m r u b ac k e true a' k' th (IntKind.i64.wrap (i + 1)))
    else grow c bc l 8 (rowDG r i) fun a' k' => asks (aD2 r u (4 + nb b)) <| asks (ifb b [oldL 0 ac]) <| asks [oldL 0 a'] <| LD2 N m r u b ac k e true a' k' th (IntKind.i64.wrap (i + 1)))
  else LD3 N N r u b ac k e c bc l i false [] 0 th 0) := by cases b <;> cases c <;> kernel_rfl
def rowDI (r : Rw) (i : Int) : List PV := shapeAt KFi r.ic (i.toNat * 3)
def aD3 (r : Rw) (u : List PV) (x : Nat) : List Bool := o6 x r u ++ ([oldL x r.fc] ++ ([oldL x r.gc] ++ ([oldL x r.ic] ++ o6 x r u)))
def c3 (W : Rw) : List PV := [.sl W.fc 26 W.nf none, .sl W.gc 8 W.ng none, .sl W.ic 3 W.ni none]
def finD (b : Bool) (ac : List PV) (k : Nat) (c : Bool) (bc : List PV) (l : Nat) (d : Bool) (cc : List PV) (h : Nat) : Option PV :=
  asks (ifb b (sealAsk ac k 26)) <| asks (ifb c (sealAsk bc l 8)) <| asks (ifb d (sealAsk cc h 3)) <| asks [oldL 0 (c3 (jR b c d ac k bc l cc h))] <| asks [jC 1 (c3 (jR b c d ac k bc l cc h))] <|
  asks (o3 0 (jB 1 (c3 (jR b c d ac k bc l cc h)))) <| some (.tup [(jB 1 (c3 (jR b c d ac k bc l cc h))).pv, vI 0])
def exD (u : List PV) (b : Bool) (ac : List PV) (k : Nat) (c : Bool) (bc : List PV) (l : Nat) (d : Bool) (cc : List PV) (h : Nat) (th : Bool) : Option PV :=
  bif opK u == 1 then grow b ac k 26 (opF u) fun a' k' => finD true a' k' c bc l d cc h
  else bif opK u == 3 then grow c bc l 8 (opG u) fun a' k' => finD b ac k true a' k' d cc h
  else bif opK u == 5 then grow d cc h 3 (opI u) fun a' k' => finD b ac k c bc l true a' k'
  else bif !th then some (.tup [nilRows, vI 11]) else finD b ac k c bc l d cc h
theorem rd3 (N m : Nat) (r : Rw) (u : List PV) (b : Bool) (ac : List PV) (k : Nat) (e1 : Int) (c : Bool) (bc : List PV) (l : Nat) (e2 : Int) (d : Bool) (cc : List PV) (h : Nat) (th : Bool) (i : Int) : LD3 N (m + 1) r u b ac k e1 c bc l e2 d cc h th i =
  (bif decide (i < (r.ni : Int)) then
    (asks [decide (0 <= i) && decide (i < (r.ni : Int)), okAt KFi r.ic (i.toNat * 3)] <|
    bif decide (opK u ≥ 5) then
      (bif hitI u (rowDI r i) then (asks (aD3 r u (4 + nb b + nb c)) <| asks (ifb b [oldL 0 ac]) <| asks (ifb c [oldL 0 bc]) <| asks (ifb d [oldL 0 cc]) <| LD3 N m r u b ac k e1 c bc l e2 d cc h true (IntKind.i64.wrap (i + 1)))
       else grow d cc h 3 (rowDI r i) fun a' k' => asks (aD3 r u (4 + nb b + nb c)) <| asks (ifb b [oldL 0 ac]) <| asks (ifb c [oldL 0 bc]) <| asks [oldL 0 a'] <| LD3 N m r u b ac k e1 c bc l e2 true a' k' th (IntKind.i64.wrap (i + 1)))
    else grow d cc h 3 (rowDI r i) fun a' k' => asks (aD3 r u (4 + nb b + nb c)) <| asks (ifb b [oldL 0 ac]) <| asks (ifb c [oldL 0 bc]) <| asks [oldL 0 a'] <| LD3 N m r u b ac k e1 c bc l e2 true a' k' th (IntKind.i64.wrap (i + 1)))
  else exD u b ac k c bc l d cc h th) := by cases b <;> cases c <;> cases d <;> kernel_rfl
theorem rd0 (N : Nat) (r : Rw) (u : List PV) : apartS EN TRd HRd N 5 14 [r.pv, .agg (shapeAt KOp u 0)] =
  (bif decide (opK u < 1) then some (.tup [nilRows, vI 7]) else bif decide (opK u > 6) then some (.tup [nilRows, vI 7]) else LD1 N N r u false [] 0 false 0) := by kernel_rfl
end
section
open St
theorem filt_run {n : Nat} {R : List (List PV)} {hit : List PV -> Bool} (hl : R.length = n) {L : Nat -> List (List PV) -> Bool -> Nat -> Option PV} {v : List (List PV) -> Bool -> Option PV}
    (h1 : ∀ q A th i (hi : i < R.length), (∀ x ∈ A, x ∈ R) -> A.length <= i -> L (q + 1) A th i = bif hit R[i] then L q A true (i + 1) else L q (A ++ [R[i]]) th (i + 1))
    (h0 : ∀ q A th, (∀ x ∈ A, x ∈ R) -> A.length <= n -> L (q + 1) A th n = v A th) :
    ∀ k q i A th, i + k = n -> (∀ x ∈ A, x ∈ R) -> A.length <= i -> L (q + k + 1) A th i = v (A ++ (R.drop i).filter (fun x => !hit x)) (th || (R.drop i).any hit)
  | 0, q, i, A, th, h, hA, hn => by
    have : i = n := by omega
    subst this
    rw [h0 q A th hA hn, List.drop_eq_nil_of_le (by omega)]
    simp
  | k + 1, q, i, A, th, h, hA, hn => by
    have hi : i < R.length := by omega
    rw [show q + (k + 1) + 1 = (q + k + 1) + 1 from by omega, h1 _ A th i hi hA hn, List.drop_eq_getElem_cons hi]
    cases hg : hit R[i] with
    | true =>
      rw [cond_true, filt_run hl h1 h0 k q (i + 1) A true (by omega) hA (by omega), List.filter_cons_of_neg (by simp [hg]), List.any_cons, hg]
      simp only [Bool.true_or, Bool.or_true]
    | false =>
      rw [cond_false, filt_run hl h1 h0 k q (i + 1) (A ++ [R[i]]) th (by omega) (by
        intro x hx
        rcases List.mem_append.1 hx with hx | hx
        . exact hA x hx
        . rw [List.mem_singleton.1 hx]; exact List.getElem_mem hi) (by simp; omega), List.filter_cons_of_pos (by simp [hg]), List.any_cons, hg, Bool.false_or, List.append_assoc, List.singleton_append]
def hit1 (u x : List PV) : Bool := decide (opK u <= 2) && hitRF u x
def hit2 (u x : List PV) : Bool := kG u && hitG u x
def hit3 (u x : List PV) : Bool := decide (opK u ≥ 5) && hitI u x
theorem mem_ok {K : List Kd} {A R : List (List PV)} (h : rowsOk K R = true) (hA : ∀ x ∈ A, x ∈ R) : rowsOk K A = true := rowsOk_mem h hA
theorem o6_ok {r : Rw} {u : List PV} (h : r.ok = true) (hu : askO u = true) (k : Nat) : (o6 k r u).all id = true := by
  have := o3_ok h k
  unfold o3 at this
  exact all_app' this (oOld_ok hu k)
noncomputable def LD1a (N : Nat) (r : Rw) (u : List PV) (m : Nat) (A : List (List PV)) (th : Bool) (i : Nat) : Option PV := LD1 N m r u (!Nat.beq A.length 0) A.flatten A.length th (i : Int)
noncomputable def LD2a (N : Nat) (r : Rw) (u : List PV) (F : List (List PV)) (e : Int) (m : Nat) (A : List (List PV)) (th : Bool) (i : Nat) : Option PV := LD2 N m r u (!Nat.beq F.length 0) F.flatten F.length e (!Nat.beq A.length 0) A.flatten A.length th (i : Int)
noncomputable def LD3a (N : Nat) (r : Rw) (u : List PV) (F : List (List PV)) (e : Int) (G : List (List PV)) (e2 : Int) (m : Nat) (A : List (List PV)) (th : Bool) (i : Nat) : Option PV := LD3 N m r u (!Nat.beq F.length 0) F.flatten F.length e (!Nat.beq G.length 0) G.flatten G.length e2 (!Nat.beq A.length 0) A.flatten A.length th (i : Int)
theorem snocN (A : List (List PV)) (x : List PV) : (!Nat.beq (A ++ [x]).length 0) = true /\ (A ++ [x]).length = A.length + 1 := by
  refine ⟨?_, by simp⟩
  rw [show (A ++ [x]).length = A.length + 1 from by simp]
  rfl
theorem ld1 {N : Nat} {r : Rw} {u : List PV} (h : r.ok = true) (hu : askO u = true) (q : Nat) :
    LD1a N r u (q + r.nf + 1) [] false 0 = LD2a N r u (r.F.filter fun x => !hit1 u x) (r.nf : Int) N [] (r.F.any (hit1 u)) 0 := by
  have lx := Rw.lists h
  have mx := lx.mf
  have o := o6_ok h hu 4
  have fo : oldL 4 r.fc = true := by rw [<- lx.fc]; exact rows_oldn lx.f 4
  have hO : (o6 4 r u ++ ([oldL 4 r.fc] ++ o6 4 r u)).all id = true := all_app' o (all_app' (ask1 fo) o)
  have key := filt_run (n := r.nf) (R := r.F) (hit := hit1 u) lx.nf (L := LD1a N r u) (v := fun A th => LD2a N r u A (r.nf : Int) N [] th 0) ?_ ?_ r.nf q 0 [] false (by omega) (fun x hx => by cases hx) (by simp)
  . simpa using key
  . intro q A th i hi hA hn
    have hAo := mem_ok lx.f hA
    have hi' : i < r.nf := by rw [<- lx.nf]; exact hi
    have hr := rows_at0 lx.f hi
    rw [lx.fc] at hr
    have hrow : rowDF r (i : Int) = r.F[i] := by
      unfold rowDF
      rw [Int.toNat_natCast, show (26 : Nat) = KFr.length from rfl]
      exact hr.2
    have hxo := rowsOk_get lx.f (List.getElem_mem hi)
    have hS : rowsOk KFr (A ++ [r.F[i]]) = true := rowsOk_mem lx.f fun x hx => by
      rcases List.mem_append.1 hx with hx | hx
      . exact hA x hx
      . rw [List.mem_singleton.1 hx]; exact List.getElem_mem hi
    have hgrow : (grow (!Nat.beq A.length 0) A.flatten A.length 26 r.F[i] fun a' k' => asks (o6 4 r u ++ ([oldL 4 r.fc] ++ o6 4 r u)) <| asks [oldL 0 a'] <| LD1 N q r u true a' k' th (IntKind.i64.wrap ((i : Int) + 1))) = LD1a N r u q (A ++ [r.F[i]]) th (i + 1) := by
      rw [show (26 : Nat) = KFr.length from rfl, growA hAo (by omega), asks_of hO, asks_of (ask1 (rows_old hS)), wrap_succ (by omega : i < 9223372036854775807)]
      unfold LD1a
      rw [(snocN A r.F[i]).1, (snocN A r.F[i]).2]
    unfold LD1a at hgrow ⊢
    rw [rd1, cond_t (show decide ((i : Int) < (r.nf : Int)) = true from by simp; omega), asks_of (cons_ok (inside hi') (cons_ok (by rw [Int.toNat_natCast, show (26 : Nat) = KFr.length from rfl]; exact hr.1) rfl)), hrow, hgrow,
      asks_of hO, asks_of (ifk (ask1 (rows_old hAo))), wrap_succ (by omega : i < 9223372036854775807)]
    unfold hit1
    cases decide (opK u <= 2) <;> cases hitRF u r.F[i] <;> rfl
  . intro q A th hA hn
    unfold LD1a LD2a
    rw [rd1, cond_f (show decide ((r.nf : Int) < (r.nf : Int)) = false from by simp)]
    rfl
theorem ld2 {N : Nat} {r : Rw} {u : List PV} (h : r.ok = true) (hu : askO u = true) {F : List (List PV)} (hF : rowsOk KFr F = true) (e : Int) (th0 : Bool) (q : Nat) :
    LD2a N r u F e (q + r.ng + 1) [] th0 0 = LD3a N r u F e (r.G.filter fun x => !hit2 u x) (r.ng : Int) N [] (th0 || r.G.any (hit2 u)) 0 := by
  have lx := Rw.lists h
  have mx := lx.mg
  have o := o6_ok h hu (4 + nb (!Nat.beq F.length 0))
  have fo : oldL (4 + nb (!Nat.beq F.length 0)) r.fc = true := by rw [<- lx.fc]; exact rows_oldn lx.f _
  have go : oldL (4 + nb (!Nat.beq F.length 0)) r.gc = true := by rw [<- lx.gc]; exact rows_oldn lx.g _
  have hO : (aD2 r u (4 + nb (!Nat.beq F.length 0))).all id = true := all_app' o (all_app' (ask1 fo) (all_app' (ask1 go) o))
  have key := filt_run (n := r.ng) (R := r.G) (hit := hit2 u) lx.ng (L := LD2a N r u F e) (v := fun A th => LD3a N r u F e A (r.ng : Int) N [] th 0) ?_ ?_ r.ng q 0 [] th0 (by omega) (fun x hx => by cases hx) (by simp)
  . simpa using key
  . intro q A th i hi hA hn
    have hAo := mem_ok lx.g hA
    have hi' : i < r.ng := by rw [<- lx.ng]; exact hi
    have hr := rows_at0 lx.g hi
    rw [lx.gc] at hr
    have hrow : rowDG r (i : Int) = r.G[i] := by
      unfold rowDG
      rw [Int.toNat_natCast, show (8 : Nat) = KGr.length from rfl]
      exact hr.2
    have hS : rowsOk KGr (A ++ [r.G[i]]) = true := rowsOk_mem lx.g fun x hx => by
      rcases List.mem_append.1 hx with hx | hx
      . exact hA x hx
      . rw [List.mem_singleton.1 hx]; exact List.getElem_mem hi
    have hgrow : (grow (!Nat.beq A.length 0) A.flatten A.length 8 r.G[i] fun a' k' => asks (aD2 r u (4 + nb (!Nat.beq F.length 0))) <| asks (ifb (!Nat.beq F.length 0) [oldL 0 F.flatten]) <| asks [oldL 0 a'] <| LD2 N q r u (!Nat.beq F.length 0) F.flatten F.length e true a' k' th (IntKind.i64.wrap ((i : Int) + 1))) = LD2a N r u F e q (A ++ [r.G[i]]) th (i + 1) := by
      rw [show (8 : Nat) = KGr.length from rfl, growA hAo (by omega), asks_of hO, asks_of (ifk (ask1 (rows_old hF))), asks_of (ask1 (rows_old hS)), wrap_succ (by omega : i < 9223372036854775807)]
      unfold LD2a
      rw [(snocN A r.G[i]).1, (snocN A r.G[i]).2]
    unfold LD2a at hgrow ⊢
    rw [rd2, cond_t (show decide ((i : Int) < (r.ng : Int)) = true from by simp; omega), asks_of (cons_ok (inside hi') (cons_ok (by rw [Int.toNat_natCast, show (8 : Nat) = KGr.length from rfl]; exact hr.1) rfl)), hrow, hgrow,
      asks_of hO, asks_of (ifk (ask1 (rows_old hF))), asks_of (ifk (ask1 (rows_old hAo))), wrap_succ (by omega : i < 9223372036854775807)]
    unfold hit2 kG
    cases opK u == 3 <;> cases opK u == 4 <;> cases hitG u r.G[i] <;> rfl
  . intro q A th hA hn
    unfold LD2a LD3a
    rw [rd2, cond_f (show decide ((r.ng : Int) < (r.ng : Int)) = false from by simp)]
    rfl
theorem ld3 {N : Nat} {r : Rw} {u : List PV} (h : r.ok = true) (hu : askO u = true) {F G : List (List PV)} (hF : rowsOk KFr F = true) (hG : rowsOk KGr G = true) (e e2 : Int) (th0 : Bool) (q : Nat) :
    LD3a N r u F e G e2 (q + r.ni + 1) [] th0 0 = exD u (!Nat.beq F.length 0) F.flatten F.length (!Nat.beq G.length 0) G.flatten G.length (!Nat.beq (r.I.filter fun x => !hit3 u x).length 0) (r.I.filter fun x => !hit3 u x).flatten (r.I.filter fun x => !hit3 u x).length (th0 || r.I.any (hit3 u)) := by
  have lx := Rw.lists h
  have mx := lx.mi
  have o := o6_ok h hu (4 + nb (!Nat.beq F.length 0) + nb (!Nat.beq G.length 0))
  have fo : oldL (4 + nb (!Nat.beq F.length 0) + nb (!Nat.beq G.length 0)) r.fc = true := by rw [<- lx.fc]; exact rows_oldn lx.f _
  have go : oldL (4 + nb (!Nat.beq F.length 0) + nb (!Nat.beq G.length 0)) r.gc = true := by rw [<- lx.gc]; exact rows_oldn lx.g _
  have io : oldL (4 + nb (!Nat.beq F.length 0) + nb (!Nat.beq G.length 0)) r.ic = true := by rw [<- lx.ic]; exact rows_oldn lx.i _
  have hO : (aD3 r u (4 + nb (!Nat.beq F.length 0) + nb (!Nat.beq G.length 0))).all id = true := all_app' o (all_app' (ask1 fo) (all_app' (ask1 go) (all_app' (ask1 io) o)))
  have key := filt_run (n := r.ni) (R := r.I) (hit := hit3 u) lx.ni (L := LD3a N r u F e G e2) (v := fun A th => exD u (!Nat.beq F.length 0) F.flatten F.length (!Nat.beq G.length 0) G.flatten G.length (!Nat.beq A.length 0) A.flatten A.length th) ?_ ?_ r.ni q 0 [] th0 (by omega) (fun x hx => by cases hx) (by simp)
  . simpa using key
  . intro q A th i hi hA hn
    have hAo := mem_ok lx.i hA
    have hi' : i < r.ni := by rw [<- lx.ni]; exact hi
    have hr := rows_at0 lx.i hi
    rw [lx.ic] at hr
    have hrow : rowDI r (i : Int) = r.I[i] := by
      unfold rowDI
      rw [Int.toNat_natCast, show (3 : Nat) = KFi.length from rfl]
      exact hr.2
    have hS : rowsOk KFi (A ++ [r.I[i]]) = true := rowsOk_mem lx.i fun x hx => by
      rcases List.mem_append.1 hx with hx | hx
      . exact hA x hx
      . rw [List.mem_singleton.1 hx]; exact List.getElem_mem hi
    have hgrow : (grow (!Nat.beq A.length 0) A.flatten A.length 3 r.I[i] fun a' k' => asks (aD3 r u (4 + nb (!Nat.beq F.length 0) + nb (!Nat.beq G.length 0))) <| asks (ifb (!Nat.beq F.length 0) [oldL 0 F.flatten]) <| asks (ifb (!Nat.beq G.length 0) [oldL 0 G.flatten]) <| asks [oldL 0 a'] <| LD3 N q r u (!Nat.beq F.length 0) F.flatten F.length e (!Nat.beq G.length 0) G.flatten G.length e2 true a' k' th (IntKind.i64.wrap ((i : Int) + 1))) = LD3a N r u F e G e2 q (A ++ [r.I[i]]) th (i + 1) := by
      rw [show (3 : Nat) = KFi.length from rfl, growA hAo (by omega), asks_of hO, asks_of (ifk (ask1 (rows_old hF))), asks_of (ifk (ask1 (rows_old hG))), asks_of (ask1 (rows_old hS)), wrap_succ (by omega : i < 9223372036854775807)]
      unfold LD3a
      rw [(snocN A r.I[i]).1, (snocN A r.I[i]).2]
    unfold LD3a at hgrow ⊢
    rw [rd3, cond_t (show decide ((i : Int) < (r.ni : Int)) = true from by simp; omega), asks_of (cons_ok (inside hi') (cons_ok (by rw [Int.toNat_natCast, show (3 : Nat) = KFi.length from rfl]; exact hr.1) rfl)), hrow, hgrow,
      asks_of hO, asks_of (ifk (ask1 (rows_old hF))), asks_of (ifk (ask1 (rows_old hG))), asks_of (ifk (ask1 (rows_old hAo))), wrap_succ (by omega : i < 9223372036854775807)]
    unfold hit3
    cases decide (opK u ≥ 5) <;> cases hitI u r.I[i] <;> rfl
  . intro q A th hA hn
    unfold LD3a
    rw [rd3, cond_f (show decide ((r.ni : Int) < (r.ni : Int)) = false from by simp)]
end
section
open St
theorem rj_ok {L : List Rw} (hj : joOk L = true) : (rj L).ok = true := by
  have J := JL.of hj
  exact (mk_ok (rows_ins (lt := ltOf rFr) J.f) (rows_ins (lt := ltOf rGi) J.g) (rows_ins (lt := ltOf rKy) J.i) (by rw [insAll_len]; exact J.mf) (by rw [insAll_len]; exact J.mg) (by rw [insAll_len]; exact J.mi) (fun x hx => J.gk x ((mem_insAll _ _ _).1 hx)) (fun x hx => J.ik x ((mem_insAll _ _ _).1 hx))).1
theorem c3_ok {a : Rw} (h : a.ok = true) : oldL 0 (c3 a) = true /\ rowsC KRw 1 (c3 a) = true := by
  have lr := Rw.lists h
  have hold : oldL 0 (c3 a) = true := by
    unfold c3
    simp only [oldL, oldV, <- lr.fc, <- lr.gc, <- lr.ic, rows_old lr.f, rows_old lr.g, rows_old lr.i, Bool.and_self]
  refine ⟨hold, ?_⟩
  have hr : rowsOk KRw [[.sl a.fc 26 a.nf none, .sl a.gc 8 a.ng none, .sl a.ic 3 a.ni none]] = true := by
    unfold rowsOk
    simp only [List.all_cons, List.all_nil, oldL, oldV, <- lr.fc, <- lr.gc, <- lr.ic, rows_old lr.f, rows_old lr.g, rows_old lr.i, Bool.and_self]
    rfl
  exact rowsC_of hr (show 1 <= 1000000 by decide)
theorem finD_ok {F G I : List (List PV)} (f : rowsOk KFr F = true) (g : rowsOk KGr G = true) (i : rowsOk KFi I = true) (hj : joOk [Rw.mk' F G I] = true) :
    finD (!Nat.beq F.length 0) F.flatten F.length (!Nat.beq G.length 0) G.flatten G.length (!Nat.beq I.length 0) I.flatten I.length = some (.tup [(rj [Rw.mk' F G I]).pv, vI 0]) := by
  obtain ⟨s1, s2, s3⟩ := seal_ok f (by decide)
  obtain ⟨s4, s5, s6⟩ := seal_ok g (by decide)
  obtain ⟨s7, s8, s9⟩ := seal_ok i (by decide)
  have h1 : (Rw.mk' F G I).ok = true := (JL.of hj).ok _ (by simp)
  obtain ⟨c1, c2⟩ := c3_ok h1
  have e : jB 1 (c3 (Rw.mk' F G I)) = rj [Rw.mk' F G I] := rfl
  unfold finD
  rw [jR_mk f g i]
  rw [show (26 : Nat) = KFr.length from rfl, show (8 : Nat) = KGr.length from rfl, show (3 : Nat) = KFi.length from rfl, asks_of s1, asks_of s4, asks_of s7, asks_of (ask1 c1), asks_of (ask1 (by
    unfold jC
    rw [c2, show (chunks 3 1 (c3 (Rw.mk' F G I))).map rwOf = [Rw.mk' F G I] from rfl, hj]
    rfl)), e, asks_of (o3_ok (rj_ok hj) 0)]
def outF (r : Rw) (u : List PV) : List (List PV) := (r.F.filter fun x => !hit1 u x) ++ putF u
def outG (r : Rw) (u : List PV) : List (List PV) := (r.G.filter fun x => !hit2 u x) ++ putG u
def outI (r : Rw) (u : List PV) : List (List PV) := (r.I.filter fun x => !hit3 u x) ++ putI u
def outR (r : Rw) (u : List PV) : Rw := Rw.mk' (outF r u) (outG r u) (outI r u)
def hitsR (r : Rw) (u : List PV) : Bool := (r.F.any (hit1 u) || r.G.any (hit2 u)) || r.I.any (hit3 u)
def noneR (r : Rw) (u : List PV) : Bool := !(opK u == 1) && (!(opK u == 3) && (!(opK u == 5) && !hitsR r u))
theorem put_rows {u : List PV} (hu : askO u = true) : rowsOk KFr (putF u) = true /\ rowsOk KGr (putG u) = true /\ rowsOk KFi (putI u) = true := by
  unfold putF putG putI
  refine ⟨?_, ?_, ?_⟩
  . cases opK u == 1 with
    | true => unfold rowsOk; simp [opF_ok hu]
    | false => rfl
  . cases opK u == 3 with
    | true => unfold rowsOk; simp [opG_ok hu]
    | false => rfl
  . cases opK u == 5 with
    | true => unfold rowsOk; simp [opI_ok hu]
    | false => rfl
theorem rows_app {K : List Kd} {A B : List (List PV)} (h : rowsOk K A = true) (k : rowsOk K B = true) : rowsOk K (A ++ B) = true := by
  unfold rowsOk at *
  rw [List.all_append, h, k]
  rfl
theorem exD_ok {r : Rw} {u : List PV} (h : r.ok = true) (hu : askO u = true) (hj : joOk [outR r u] = true) :
    exD u (!Nat.beq (r.F.filter fun x => !hit1 u x).length 0) (r.F.filter fun x => !hit1 u x).flatten (r.F.filter fun x => !hit1 u x).length
      (!Nat.beq (r.G.filter fun x => !hit2 u x).length 0) (r.G.filter fun x => !hit2 u x).flatten (r.G.filter fun x => !hit2 u x).length
      (!Nat.beq (r.I.filter fun x => !hit3 u x).length 0) (r.I.filter fun x => !hit3 u x).flatten (r.I.filter fun x => !hit3 u x).length (hitsR r u) =
    (bif noneR r u then some (.tup [nilRows, vI 11]) else some (.tup [(rj [outR r u]).pv, vI 0])) := by
  have lx := Rw.lists h
  have m1 := lx.mf
  have m2 := lx.mg
  have m3 := lx.mi
  have n1 := lx.nf
  have n2 := lx.ng
  have n3 := lx.ni
  have f := rowsOk_filter lx.f fun x => !hit1 u x
  have g := rowsOk_filter lx.g fun x => !hit2 u x
  have i := rowsOk_filter lx.i fun x => !hit3 u x
  obtain ⟨pf, pg, pi⟩ := put_rows hu
  have hF := rows_app f pf
  have hG := rows_app g pg
  have hI := rows_app i pi
  have J := JL.of hj
  have fin := finD_ok (F := outF r u) (G := outG r u) (I := outI r u) hF hG hI hj
  have hok : (outR r u).ok = true := J.ok _ (by simp)
  have j1 : (outF r u).length <= 1000000 := (Rw.lists hok).mf
  have j2 : (outG r u).length <= 1000000 := (Rw.lists hok).mg
  have j3 : (outI r u).length <= 1000000 := (Rw.lists hok).mi
  have e : ∀ k : Int, opK u ≠ k -> (opK u == k) = false := fun k hk => by simpa using hk
  have t : ∀ k : Int, opK u = k -> (opK u == k) = true := fun k hk => by simp [hk]
  unfold exD noneR
  by_cases k1 : opK u = 1
  . have e1 : outF r u = (r.F.filter fun x => !hit1 u x) ++ [opF u] := by unfold outF putF; rw [t 1 k1, cond_true]
    have e2 : outG r u = r.G.filter fun x => !hit2 u x := by unfold outG putG; rw [e 3 (by omega), cond_false, List.append_nil]
    have e3 : outI r u = r.I.filter fun x => !hit3 u x := by unfold outI putI; rw [e 5 (by omega), cond_false, List.append_nil]
    rw [t 1 k1, cond_true, Bool.not_true, Bool.false_and, cond_false]
    unfold outR
    rw [e1, e2, e3, (snocN _ _).1, (snocN _ _).2] at fin
    rw [e1, List.length_append, List.length_singleton] at j1
    rw [show (26 : Nat) = KFr.length from rfl, growA f j1, e1, e2, e3]
    exact fin
  rw [e 1 k1, cond_false, Bool.not_false, Bool.true_and]
  by_cases k3 : opK u = 3
  . have e1 : outF r u = r.F.filter fun x => !hit1 u x := by unfold outF putF; rw [e 1 k1, cond_false, List.append_nil]
    have e2 : outG r u = (r.G.filter fun x => !hit2 u x) ++ [opG u] := by unfold outG putG; rw [t 3 k3, cond_true]
    have e3 : outI r u = r.I.filter fun x => !hit3 u x := by unfold outI putI; rw [e 5 (by omega), cond_false, List.append_nil]
    rw [t 3 k3, cond_true, Bool.not_true, Bool.false_and, cond_false]
    unfold outR
    rw [e1, e2, e3, (snocN _ _).1, (snocN _ _).2] at fin
    rw [e2, List.length_append, List.length_singleton] at j2
    rw [show (8 : Nat) = KGr.length from rfl, growA g j2, e1, e2, e3]
    exact fin
  rw [e 3 k3, cond_false, Bool.not_false, Bool.true_and]
  by_cases k5 : opK u = 5
  . have e1 : outF r u = r.F.filter fun x => !hit1 u x := by unfold outF putF; rw [e 1 k1, cond_false, List.append_nil]
    have e2 : outG r u = r.G.filter fun x => !hit2 u x := by unfold outG putG; rw [e 3 k3, cond_false, List.append_nil]
    have e3 : outI r u = (r.I.filter fun x => !hit3 u x) ++ [opI u] := by unfold outI putI; rw [t 5 k5, cond_true]
    rw [t 5 k5, cond_true, Bool.not_true, Bool.false_and, cond_false]
    unfold outR
    rw [e1, e2, e3, (snocN _ _).1, (snocN _ _).2] at fin
    rw [e3, List.length_append, List.length_singleton] at j3
    rw [show (3 : Nat) = KFi.length from rfl, growA i j3, e1, e2, e3]
    exact fin
  rw [e 5 k5, cond_false, Bool.not_false, Bool.true_and]
  have e1 : outF r u = r.F.filter fun x => !hit1 u x := by unfold outF putF; rw [e 1 k1, cond_false, List.append_nil]
  have e2 : outG r u = r.G.filter fun x => !hit2 u x := by unfold outG putG; rw [e 3 k3, cond_false, List.append_nil]
  have e3 : outI r u = r.I.filter fun x => !hit3 u x := by unfold outI putI; rw [e 5 k5, cond_false, List.append_nil]
  cases hitsR r u with
  | false => rfl
  | true =>
    rw [Bool.not_true, cond_false, cond_false]
    unfold outR
    rw [e1, e2, e3] at fin ⊢
    exact fin
def gRd (xs : List PV) : Option Tr := match xs with
  | [x, .agg u] => match asRw x with
    | some r => some (.br (known u) (.br (noneR r u) (.leaf (r.ok && (askO u && joOk [outR r u])) (.tup [nilRows, vI 11])) (.leaf (r.ok && (askO u && joOk [outR r u])) (.tup [(rj [outR r u]).pv, vI 0]))) (.leaf (askO u) (.tup [nilRows, vI 7])))
    | none => none
  | _ => none
theorem rd_all {r : Rw} {u : List PV} (h : r.ok = true) (hu : askO u = true) (hj : joOk [outR r u] = true) :
    LD1 1000009 1000009 r u false [] 0 false 0 = (bif noneR r u then some (.tup [nilRows, vI 11]) else some (.tup [(rj [outR r u]).pv, vI 0])) := by
  have lx := Rw.lists h
  have m1 := lx.mf
  have m2 := lx.mg
  have m3 := lx.mi
  have a1 := ld1 (N := 1000009) h hu (1000008 - r.nf)
  have a2 := ld2 (N := 1000009) h hu (rowsOk_filter lx.f fun x => !hit1 u x) (r.nf : Int) (r.F.any (hit1 u)) (1000008 - r.ng)
  have a3 := ld3 (N := 1000009) h hu (rowsOk_filter lx.f fun x => !hit1 u x) (rowsOk_filter lx.g fun x => !hit2 u x) (r.nf : Int) (r.ng : Int) (r.F.any (hit1 u) || r.G.any (hit2 u)) (1000008 - r.ni)
  rw [show 1000008 - r.nf + r.nf + 1 = 1000009 from by omega] at a1
  rw [show 1000008 - r.ng + r.ng + 1 = 1000009 from by omega] at a2
  rw [show 1000008 - r.ni + r.ni + 1 = 1000009 from by omega] at a3
  exact (a1.trans (a2.trans a3)).trans (exD_ok h hu hj)
theorem TRdok : TR TRd := (TR0.add TR7ok (runFr (rAt 1000009))).add TRAok runRefJoin
theorem runRd (xs : List PV) (t : Tr) (v : PV) (hg : gRd xs = some t) (hv : t.val = some v) : ∃ H, apartS EN TRd H 1000009 5 14 xs = some v := by
  unfold gRd at hg
  split at hg
  . rename_i x u
    split at hg
    . rename_i r hr
      cases hg
      rw [asRw_ok hr]
      have key : askO u = true -> apartS EN TRd HRd 1000009 5 14 [r.pv, .agg u] = (bif decide (opK u < 1) then some (.tup [nilRows, vI 7]) else bif decide (opK u > 6) then some (.tup [nilRows, vI 7]) else LD1 1000009 1000009 r u false [] 0 false 0) := fun hu => by
        have t := rd0 1000009 r u
        rw [op_of hu] at t
        exact t
      refine ⟨HRd, ?_⟩
      cases hk : known u with
      | false =>
        rw [hk] at hv
        obtain ⟨hu, rfl⟩ := leaf_val (show (Tr.leaf (askO u) (.tup [nilRows, vI 7])).val = some v from hv)
        rw [key hu]
        unfold known at hk
        by_cases h1 : opK u < 1
        . rw [cond_t (by simpa using h1)]
        . rw [cond_f (by simpa using h1), cond_t (by
            simp only [Bool.and_eq_false_iff, decide_eq_false_iff_not] at hk
            simp only [decide_eq_true_eq]
            omega)]
      | true =>
        rw [hk] at hv
        unfold known at hk
        simp only [Bool.and_eq_true, decide_eq_true_eq] at hk
        have h1 : decide (opK u < 1) = false := by simp; omega
        have h2 : decide (opK u > 6) = false := by simp; omega
        cases hn : noneR r u with
        | true =>
          rw [hn] at hv
          obtain ⟨hc, rfl⟩ := leaf_val (show (Tr.leaf (r.ok && (askO u && joOk [outR r u])) (.tup [nilRows, vI 11])).val = some v from hv)
          simp only [Bool.and_eq_true] at hc
          rw [key hc.2.1, h1, h2, cond_false, cond_false, rd_all hc.1 hc.2.1 hc.2.2, hn]
          rfl
        | false =>
          rw [hn] at hv
          obtain ⟨hc, rfl⟩ := leaf_val (show (Tr.leaf (r.ok && (askO u && joOk [outR r u])) (.tup [(rj [outR r u]).pv, vI 0])).val = some v from hv)
          simp only [Bool.and_eq_true] at hc
          rw [key hc.2.1, h1, h2, cond_false, cond_false, rd_all hc.1 hc.2.1 hc.2.2, hn]
          rfl
    . cases hg
  . cases hg
end
end Go.Proofs.YtpbemfikhmeedaaGreatDoor.Am
