/- linkboylaw10.MaglevMoves, as the given statement says: at all lists of points and every size it returns true, and the lists read as they did. The listed package variables (errors, tables of Go's library) read as the program's text lays them, which the card ties. -/
import Derived.Test.YtaofbpldflcjmaaDoorMZMgMaT
import Derived.Test.YtaofbpldflcjmaaDoorMZMgLaidQ
import Derived.Test.YtaofbpldflcjmaaDoorMZShk
import Derived.Test.YtaofbpldflcjmaaDoorRows
import Derived.Test.YtaofbpldflcjmaaDoorTie
import Derived.Test.YtaofbpldflcjmaaDoorCards
import Derived.Carry
import Derived.ChangeSame
import Derived.ProofKit
import Derived.ChangeSlices
import Derived.WideShapes
import Derived.LaidMore
import Derived.OpenShut
import Derived.SevenTiedAt
set_option linter.unusedVariables false
set_option linter.unusedSimpArgs false
set_option maxRecDepth 100000
namespace Go.Proofs.YtaofbpldflcjmaaDoor
open Go.ChangeShapes Go.WideShapes Go.ChangeAt Go.WideMaps Go.WideElems Go.RowKit
open Am
section
variable {H : Type} {enc : TypeId × Value -> H} {P : Program}
theorem post_below {f : Func} {s : ChangeSpec} {apart fresh handsOn again : Bool} {W W' : World} {args : Array Value} {v : Value} {ds gs : List (DataW H)} {before pa pv : List MemPlace}
    (hW : DataW.Whole enc P f.params.toList s.vars apart W args.toList ds gs before)
    (hres : ∀ (b : Nat) (sp : Nat -> Bool) (hd : Bool), DataW.TrodAll enc P W' b sp hd f.resultTypes.toList (v.resultList f.resultTypes.size) (s.fn H (ds ++ gs)).results [])
    (hargs : ∀ sp : Nat -> Bool, (∀ p ∈ before, sp p.block = true) -> DataW.TrodAll enc P W' 0 sp true f.params.toList args.toList (s.fn H (ds ++ gs)).args pa)
    (hvars : ∀ sp : Nat -> Bool, (∀ p ∈ before, sp p.block = true) -> DataW.TrodVars enc P W' sp s.vars (s.fn H (ds ++ gs)).vars pv)
    (hps : before = pa ++ pv) (hb : Below W.heap.size W W')
    (hok : ∀ (j : Nat) (t : TypeId) (r : Value), f.resultTypes[j]? = some t -> (v.resultList f.resultTypes.size)[j]? = some r -> Value.okWide P W' .any 0 t r) :
    s.post enc P f apart fresh handsOn again W args v W' := by
  have hlt : ∀ p ∈ before, p.block < W.heap.size := fun p hp => hW.lt p hp
  have hold : ∀ p ∈ before, (fun b => decide (b < W.heap.size)) p.block = true := fun p hp => by simpa using hlt p hp
  refine ⟨ds, gs, before, [], pa, pv, hW, hres _ _ _, hargs _ hold, hvars _ hold, World.keptBut_mono (fun p hp => ⟨hp, ?_⟩) (hb.frame (· ∈ before)), fun _ => ?_⟩
  . rw [hps, List.mem_append] at hp
    exact Or.inr hp
  . obtain ⟨_, _, _, _, _, hz, hn⟩ := hW
    refine ⟨hok, _, _, ([] ++ pa) ++ pv, ⟨[] ++ pa, pv, trodAll_append (hargs _ (fun _ _ => rfl)) (hres _ _ _), hvars _ (fun _ _ => rfl), rfl, ?_, ?_⟩, ?_⟩
    . intro b off hp
      have hin : MemPlace.cell b off ∈ before := by rw [hps]; simpa using hp
      rw [hb.frozen (hlt _ hin)]
      exact hz b off hin
    . intro ha
      have := hn ha
      rw [hps] at this
      simpa using this
    . intro p hp _
      rw [hps]
      simpa using hp
end
theorem own : ownKnob Tryd.prog.godebug = none := by kernel_rfl
theorem laidOut : laidOutB Tryd.prog = true := by kernel_rfl
def litsOf : DataW Unit -> List Value
  | .agg l => l.map fun d => match d with
    | .lit (.int k n) => .int k n
    | _ => .bool false
  | _ => []
noncomputable def tabWorld (os : Os) : World :=
  let w := World.doorLaid Tryd.prog 95 os
  { w with heap := w.heap.modify 5 fun o => match o with
      | .cells _ t fr => .cells (litsOf Rows.laid_unicode_utf8_first).toArray t fr
      | o => o }
theorem words_door (os : Os) (args : Array Value) : laidMetH Tryd.prog Rows.maglevMovesRow.laid ((tabWorld os).forCall (fun _ _ => 0) ⟨#[], args, []⟩).memory :=
  laidMetH_of_parts3 (fuel := 8) (laidMet_of_run' 8 (by kernel_rfl) (by kernel_rfl)) (by kernel_rfl) (by kernel_rfl)
theorem words_errs {W : World} (h : laidMet Tryd.prog Rows.maglevMovesRow.laid W) : ErrsAt W := by
  have h1 := h.filter isErrB
  have e : Rows.maglevMovesRow.laid.filter isErrB = errList.map errEntry := by kernel_rfl
  rw [e] at h1
  exact errsAt h1
theorem words_plain (W : World) : PlainAt rowG W := by
  intro g cells hg hge
  unfold rowG errG at hg
  rw [hge] at hg
  cases hg
mutual
theorem Sh.Has.inR : ∀ (s : Sh) (xs : List PV), s.Has xs -> xs.all inR = true
  | .int k, xs, h => by
    obtain ⟨n, rfl, hw⟩ := (by simpa only [Sh.Has] using h)
    simp only [Lit.wf, Bool.and_eq_true, decide_eq_true_eq] at hw
    simp only [List.all_cons, List.all_nil, Bool.and_true, Am.inR, Bool.and_eq_true, decide_eq_true_eq]
    exact hw
  | .bool, xs, h => by obtain ⟨b, rfl⟩ := (by simpa only [Sh.Has] using h); rfl
  | .str, xs, h => by obtain ⟨s, rfl, _⟩ := (by simpa only [Sh.Has] using h); rfl
  | .sl e s, xs, h => by obtain ⟨rows, rfl, hr⟩ := (by simpa only [Sh.Has] using h); rfl
  | .st fs, xs, h => by simp only [Sh.Has] at h; exact Sh.HasL.inR fs xs h
theorem Sh.HasL.inR : ∀ (ss : List Sh) (xs : List PV), Sh.HasL ss xs -> xs.all inR = true
  | [], xs, h => by simp only [Sh.HasL] at h; subst h; rfl
  | s :: ss, xs, h => by
    simp only [Sh.HasL] at h
    obtain ⟨a, b, rfl, h1, h2⟩ := h
    rw [List.all_append, Sh.Has.inR s a h1, Sh.HasL.inR ss b h2]
    rfl
end
noncomputable def ptSh : Sh := match shOf Tryd.prog 9 22 with
  | some (.sl s _) => s
  | _ => .bool
theorem ptShOf : shOf Tryd.prog 9 22 = some (.sl ptSh 18) := by kernel_rfl
theorem ptKd : ptSh.kd = KPt := by kernel_rfl
theorem points_rep {H : Type} {enc : TypeId × Value -> H} {W : World} {v : Value} {d : DataW H} {ps : List MemPlace} {a0 : Option Addr} {len cap : Nat} (hv : v = .slice a0 len cap) (h : DataW.Trod enc Tryd.prog W 0 (fun _ => true) true 22 v d ps) :
    ∃ (c : List PV) (n : Nat), (n <= 40 -> goodP n c = true) /\ Rep (memG W) (fun _ => none) (.sl c 18 n none) v := by
  subst hv
  obtain ⟨fuel, hf⟩ := h
  obtain ⟨xs, h1, h2⟩ := trod_rep fuel 9 _ _ _ _ ptShOf hf
  obtain ⟨rows, rfl, hr⟩ := (by simpa only [Sh.Has] using h1 : ∃ rows : List {r : List PV // r.length = 18}, xs = [.sl (rows.flatMap Subtype.val) 18 rows.length none] /\ ∀ r ∈ rows, ptSh.Has r.val)
  obtain ⟨k1, k2, k3⟩ := rows_has rows hr
  rw [ptKd] at k1
  refine ⟨rows.flatMap Subtype.val, rows.length, fun hn => ?_, h2.2 0 _ _ rfl rfl⟩
  have hc : chunks 18 rows.length (rows.flatMap Subtype.val) = rows.map Subtype.val := by
    rw [k2, <- k3]
    exact chunks_of (K := KPt) k1
  unfold goodP
  rw [hc, Bool.and_eq_true]
  constructor
  . have := rowsC_of k1 (by rw [List.length_map]; omega)
    rwa [<- k2, k3] at this
  . rw [List.all_eq_true]
    intro x hx
    have hw := (rowsOk_get k1 hx).1
    obtain ⟨y, hy, rfl⟩ := List.mem_map.1 hx
    unfold goodR
    rw [show wk KPo y.val = true from hw, Sh.Has.inR ptSh y.val (hr y hy)]
    rfl
theorem moves_lifted (os : Os) (started : os.Started) (H : Type) (enc : TypeId × Value -> H) :
    ReturnsInHanded {} Tryd.checked os 3 .any (fun w args => (Rows.maglevMovesSpec.pre enc Tryd.prog Tryd.f3 [] false w args /\ laidMetH Tryd.prog Rows.maglevMovesRow.laid w) /\ sizedMet enc Tryd.prog Tryd.f3 (OpenSpec.ofChange Rows.maglevMovesSpec) false w args)
      (Rows.maglevMovesSpec.post enc Tryd.prog Tryd.f3 false true false false) := by
  refine returnsInHanded_of_change_and (C := Tryd.checked) (X := fun w _ => laidMetH Tryd.prog Rows.maglevMovesRow.laid w) (fun _ _ _ hh h => h.of_heap hh) own started (by kernel_rfl) Tryd.func3
    (ChangeSpec.witness_shaped (enc := enc) (C := Tryd.checked) (os := os) (X := fun w _ => laidMetH Tryd.prog Rows.maglevMovesRow.laid w) false (tabWorld os) #[.slice none 0 0, .slice none 0 0, .int .i64 0] 8 rfl (World.shaped_of_RefB (by kernel_rfl) (by kernel_rfl)) (by kernel_rfl) (by kernel_rfl) (by kernel_rfl) (words_door os _)) ?_
  intro W base args ds gs before hval0 hW _ _ hL _
  have hval : ∀ (j : Nat) t v, Tryd.f3.params[j]? = some t -> args[j]? = some v -> Value.okWide Tryd.prog W .any base t v := hval0
  have hW' := hW
  obtain ⟨p, q, hA0, hV, rfl, hfz, hnd⟩ := hW
  have hA : DataW.TrodAll enc Tryd.prog W 0 (fun _ => true) true Tryd.f3.params.toList args.toList ds p := hA0
  rw [Tryd.params3] at hA hval
  obtain ⟨v0, v1, v2, d0, d1, d2, p0, p1, p2, rfl, rfl, rfl, h0, h1, h2⟩ := trodAll_three hA
  obtain ⟨rfl, rfl⟩ := trodVars_none hV
  obtain ⟨a0, len0, cap0, hv0⟩ := okWide_slice Tryd.underlying22 (hval 0 22 v0 rfl rfl)
  obtain ⟨a1, len1, cap1, hv1⟩ := okWide_slice Tryd.underlying22 (hval 1 22 v1 rfl rfl)
  obtain ⟨z, rfl, rfl, rfl, wz⟩ := open_int Tryd.underlying3 (hval 2 3 v2 rfl rfl) h2
  obtain ⟨c, n, gc, kc⟩ := points_rep hv0 h0
  obtain ⟨d, m, gd, kd⟩ := points_rep hv1 h1
  obtain ⟨K, law⟩ := lawM (z := z) gc gd
  have hL' := hL
  rw [MakeChecks.laidMetH_plain _ _ _ (by kernel_rfl)] at hL'
  clear hA0 hval0
  simp only [List.append_nil] at hW'
  have hr : Reps (fun b o => W.cell? ⟨b, o, none⟩) (fun _ => none) [.sl c 18 n none, .sl d 18 m none, .int .i64 z] [v0, v1, .int .i64 z] := Reps.cons kc (Reps.cons kd (Reps.cons (.int _ _) Reps.nil))
  refine (calls_of_apart rowG_ok (words_errs hL') (words_plain W) law hr).mono fun e W' he => ?_
  obtain ⟨_, Γ, ρ, rfl, hb, hw⟩ := he
  cases hb
  have hlt0 : ∀ x ∈ p0, x.block < W.heap.size := fun x hx => hW'.lt x (by simp [hx])
  have hlt1 : ∀ x ∈ p1, x.block < W.heap.size := fun x hx => hW'.lt x (by simp [hx])
  exact ⟨_, rfl, post_below (pa := p0 ++ (p1 ++ [])) (pv := []) hW' (fun _ _ _ => trodAll_mk1 (shut_bool Tryd.underlying4 true))
    (fun sp hsp => trodAll_mk3
      (WideElems.Trod_stays laidOut (by kernel_rfl) (of_decide_eq_true (by kernel_rfl)) h0 (fun x hx => hw.same (hlt0 x hx)) (fun x hx => hsp x (by simp [hx])))
      (WideElems.Trod_stays laidOut (by kernel_rfl) (of_decide_eq_true (by kernel_rfl)) h1 (fun x hx => hw.same (hlt1 x hx)) (fun x hx => hsp x (by simp [hx])))
      (shut_int Tryd.underlying3 wz))
    (fun _ _ => rfl) (by simp) hw (ok_one (by kernel_rfl) rfl (okWide_bool_mk Tryd.underlying4 true))⟩
theorem fact_in : (Rows.maglevMovesRow.inPlace == Tryd.prog.inPlace 3) = true := by kernel_rfl
theorem fact_un : (Rows.maglevMovesRow.unfollowed == Tryd.prog.unfollowed 3) = true := by kernel_rfl
theorem fact_re : (Rows.maglevMovesRow.recurses == Tryd.prog.recurses 3) = true := by kernel_rfl
theorem fact_na : (Rows.maglevMovesRow.named == Tryd.prog.varsNamed 3) = true := by kernel_rfl
theorem fact_wf : Rows.maglevMovesRow.wf (OpenSpec.ofChange Rows.maglevMovesSpec) = true := by kernel_rfl
theorem joined : joinedFacts Tryd.prog 3 Tryd.f3 Rows.maglevMovesSpec Rows.maglevMovesRow = true := by
  unfold joinedFacts
  rw [fact_in, fact_un, fact_re, fact_na, fact_wf]
  kernel_rfl
theorem maglevMoves_holds : Rows.MaglevMovesSaid :=
  OpenClaim.holds_of_wide 3 Tryd.f3 rfl rfl rfl rfl rfl rfl rfl ⟨rfl, rfl, rfl, rfl, rfl⟩ rfl rfl rfl rfl rfl (by kernel_rfl) Tryd.func3 joined
    (of_decide_eq_true (by kernel_rfl)) (by unfold Func.isWrapper; first | (rw [if_pos (by decide +kernel)]; kernel_rfl) | (rw [if_neg (by decide +kernel)]; exact ⟨rfl, rfl⟩))
    (fun os started H enc _ => moves_lifted os started H enc)
theorem maglevMoves_card_holds : Rows.MaglevMovesCardSaid :=
  Claim7.holds_tied_plain_at .later [] [.data, .sentinel, .sentinel, .sentinel, .sentinel, .pinned] true (true, "9644b82936c89c6b556a1a41d5b6dac6a9268d411e6b15d1cca37de4215dce6d") false
    maglevMoves_holds (fun _ h => by cases h) (by kernel_rfl) (fun _ h => by cases h) maglevMoves_row_tie rfl ⟨rfl, rfl⟩ (by kernel_rfl) rfl
    (fun f fn hf hfn => by
      obtain rfl : f = 3 := Option.some.inj ((show Tryd.prog.funcNamed "linkboy/linkboylaw10.MaglevMoves" = some 3 by kernel_rfl).symm.trans hf) |>.symm
      obtain rfl : fn = Tryd.f3 := (Option.some.inj (Tryd.func3.symm.trans hfn)).symm
      exact ⟨by kernel_rfl, fun j t ht => by
        rw [Tryd.params3] at ht
        have hm : t ∈ [22, 22, 3] := by simpa using Array.mem_of_getElem? ht
        have hall : ([22, 22, 3].all fun u => !Tryd.prog.wantsStandIn u) = true := by kernel_rfl
        exact (show Tryd.prog.wantsStandIn t = false by simpa using List.all_eq_true.1 hall t hm)⟩)
    (by kernel_rfl)
end Go.Proofs.YtaofbpldflcjmaaDoor
