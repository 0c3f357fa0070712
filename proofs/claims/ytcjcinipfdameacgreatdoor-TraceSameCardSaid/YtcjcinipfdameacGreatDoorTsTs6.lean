/- linkboylaw41.TraceSame, as the given statement says: at every two traces it returns true, and the traces read as they did. The listed package variables (the kinds' names, tables of Go's library) read as the program's text lays them, which the card ties. -/
import Derived.Test.YtcjcinipfdameacGreatDoorTsTs5
import Derived.Test.YtcjcinipfdameacGreatDoorShk
import Derived.Test.YtcjcinipfdameacGreatDoorRows
import Derived.Test.YtcjcinipfdameacGreatDoorTie
import Derived.Test.YtcjcinipfdameacGreatDoorCards
import Derived.Carry
import Derived.ChangeSame
import Derived.ProofKit
import Derived.ChangeSlices
import Derived.WideShapes
import Derived.LaidMore
import Derived.OpenShut
import Derived.SevenTiedAt
set_option linter.unusedVariables false
set_option linter.unusedSimpArgs false
set_option maxRecDepth 100000
namespace Go.Proofs.YtcjcinipfdameacGreatDoor
open Go.ChangeShapes Go.WideShapes Go.ChangeAt Go.WideMaps Go.WideElems Go.RowKit
open Am

section
variable {H : Type} {enc : TypeId × Value → H} {P : Program}

/-- What 'post' asks, where the old blocks stand as they stood. -/
theorem post_below {f : Func} {s : ChangeSpec} {apart fresh handsOn again : Bool} {W W' : World} {args : Array Value} {v : Value} {ds gs : List (DataW H)} {before pa pv : List MemPlace}
    (hW : DataW.Whole enc P f.params.toList s.vars apart W args.toList ds gs before)
    (hres : ∀ (b : Nat) (sp : Nat → Bool) (hd : Bool), DataW.TrodAll enc P W' b sp hd f.resultTypes.toList (v.resultList f.resultTypes.size) (s.fn H (ds ++ gs)).results [])
    (hargs : ∀ sp : Nat → Bool, (∀ p ∈ before, sp p.block = true) → DataW.TrodAll enc P W' 0 sp true f.params.toList args.toList (s.fn H (ds ++ gs)).args pa)
    (hvars : ∀ sp : Nat → Bool, (∀ p ∈ before, sp p.block = true) → DataW.TrodVars enc P W' sp s.vars (s.fn H (ds ++ gs)).vars pv)
    (hps : before = pa ++ pv) (hb : Below W.heap.size W W')
    (hok : ∀ (j : Nat) (t : TypeId) (r : Value), f.resultTypes[j]? = some t → (v.resultList f.resultTypes.size)[j]? = some r → Value.okWide P W' .any 0 t r) :
    s.post enc P f apart fresh handsOn again W args v W' := by
  have hlt : ∀ p ∈ before, p.block < W.heap.size := fun p hp => hW.lt p hp
  have hold : ∀ p ∈ before, (fun b => decide (b < W.heap.size)) p.block = true := fun p hp => by simpa using hlt p hp
  refine ⟨ds, gs, before, [], pa, pv, hW, hres _ _ _, hargs _ hold, hvars _ hold, World.keptBut_mono (fun p hp => ⟨hp, ?_⟩) (hb.frame (· ∈ before)), fun _ => ?_⟩
  · rw [hps, List.mem_append] at hp
    exact Or.inr hp
  · obtain ⟨_, _, _, _, _, hz, hn⟩ := hW
    refine ⟨hok, _, _, ([] ++ pa) ++ pv, ⟨[] ++ pa, pv, trodAll_append (hargs _ (fun _ _ => rfl)) (hres _ _ _), hvars _ (fun _ _ => rfl), rfl, ?_, ?_⟩, ?_⟩
    · intro b off hp
      have hin : MemPlace.cell b off ∈ before := by rw [hps]; simpa using hp
      rw [hb.frozen (hlt _ hin)]
      exact hz b off hin
    · intro ha
      have := hn ha
      rw [hps] at this
      simpa using this
    · intro p hp _
      rw [hps]
      simpa using hp
end

theorem own : ownKnob Tryz.prog.godebug = none := by kernel_rfl
theorem laidOut : laidOutB Tryz.prog = true := by kernel_rfl

/-- A listed variable's whole numbers, as values. -/
def litsOf : DataW Unit → List Value
  | .agg l => l.map fun d => match d with
    | .lit (.int k n) => .int k n
    | _ => .bool false
  | _ => []

/-- The world that the door's run leaves, with the library's pinned table laid. -/
noncomputable def tabWorld (os : Os) : World :=
  let w := World.doorLaid Tryz.prog 302 os
  { w with heap := w.heap.modify 12 fun o => match o with
      | .cells _ t fr => .cells (litsOf Rows.laid_unicode_utf8_first).toArray t fr
      | o => o }

theorem words_door (os : Os) (args : Array Value) : laidMetH Tryz.prog Rows.traceSameRow.laid ((tabWorld os).forCall (fun _ _ => 0) ⟨#[], args, []⟩).memory :=
  laidMetH_of_parts3 (fuel := 8) (laidMet_of_run' 8 (by kernel_rfl) (by kernel_rfl)) (by kernel_rfl) (by kernel_rfl)

theorem words_errs {W : World} (h : laidMet Tryz.prog Rows.traceSameRow.laid W) : ErrsAt W := by
  have h1 := h.filter isErrB
  have e : Rows.traceSameRow.laid.filter isErrB = errList.map errEntry := by kernel_rfl
  rw [e] at h1
  exact errsAt h1

theorem words_plain {W : World} (h : laidMet Tryz.prog Rows.traceSameRow.laid W) : PlainAt rowG W := by
  have h1 := h.filter (fun x => x.1 == "linkboy/forward.words")
  have e : Rows.traceSameRow.laid.filter (fun x => x.1 == "linkboy/forward.words") = [("linkboy/forward.words", .agg (fwdWordsC.map fun s => .lit (.string s)))] := by kernel_rfl
  rw [e] at h1
  obtain ⟨ps, ⟨g0, t0, cs0, f0, p0, q0, hg0, ht0, hv0, hd0, _, _⟩, _, _⟩ := h1
  have e1 : Tryz.prog.globalNamed "linkboy/forward.words" = some 1 := by kernel_rfl
  have e2 : (Tryz.prog.globals[1]?).map (·.type) = some 83 := by kernel_rfl
  obtain rfl := Option.some.inj (e1.symm.trans hg0)
  obtain rfl := Option.some.inj (e2.symm.trans ht0)
  obtain ⟨xs, m, rfl, hx, hlen, hn, hel⟩ := DataW.trod_array Tryz.underlying83 hd0
  have c9 : Tryz.prog.cellsOf 9 = 1 := by kernel_rfl
  have c7 : Tryz.prog.cellsOf 83 = 7 := by kernel_rfl
  rw [c7] at hlen
  rw [c9] at hel
  have hx1 : fwdWordsC.map (fun s => (DataW.lit (.string s) : DataW Unit)) = xs.map (·.1) := by
    simp only [Prod.mk.injEq, DataW.agg.injEq] at hx
    exact hx.1
  intro g cells hg hge
  unfold rowG at hg
  cases hb : Nat.beq g 1 with
  | false =>
    rw [hb] at hg
    simp only [cond_false] at hg
    unfold errG at hg
    rw [hge] at hg
    cases hg
  | true =>
    rw [hb] at hg
    cases hg
    have hb := Nat.eq_of_beq_eq_true hb
    subst hb
    have key : ∀ (j : Nat) (s : List UInt8), fwdWordsC[j]? = some s → W.cell? ⟨1, j, none⟩ = some (.string ⟨⟨s⟩⟩) := by
      intro j s hs
      have hj : j < 7 := (List.getElem?_eq_some_iff.1 hs).1
      have h1 := hel j hj
      have hxj : ∃ y, xs[j]? = some y ∧ y.1 = .lit (.string s) := by
        have := congrArg (·[j]?) hx1
        simp only [List.getElem?_map, hs, Option.map_some] at this
        cases hy : xs[j]? with
        | none => rw [hy] at this; cases this
        | some y => rw [hy] at this; simp only [Option.map_some, Option.some.injEq] at this; exact ⟨y, rfl, this.symm⟩
      obtain ⟨y, hy, hy1⟩ := hxj
      rw [hy, Nat.mul_one] at h1
      obtain ⟨b, hb1, hb2, _⟩ := DataW.trod_string Tryz.underlying9 h1
      have hbs : b.data.toList = s := by
        rw [hb2] at hy1
        simpa using hy1
      have hc : cs0[j]? = some (.string b) := by
        have := congrArg (·[0]?) hb1
        simp only [List.getElem?_take, List.getElem?_drop] at this
        simpa using this
      rw [World.var?_cell hg0 hv0 j, hc]
      obtain ⟨⟨l⟩⟩ := b
      simp only at hbs
      subst hbs
      rfl
    refine ⟨fun j => .string ⟨⟨fwdWordsC.getD j []⟩⟩, fun j x hx => ?_⟩
    simp only [List.getElem?_map, Option.map_eq_some_iff] at hx
    obtain ⟨s, hs, rfl⟩ := hx
    have hd : fwdWordsC.getD j [] = s := by rw [List.getD_eq_getElem?_getD, hs]; rfl
    dsimp only
    rw [hd]
    exact ⟨key j s hs, rfl, .str _, fun k => ⟨fun e => (by cases e), fun t e => (by cases e)⟩⟩

/-- A trace of nothing. -/
def zeroT : Value := .agg ((KT.map fun k => match k with
  | .sl _ => Value.slice none 0 0
  | .int k => .int k 0
  | .bool => .bool false
  | .str => .string ⟨#[]⟩
  | _ => .bool false).toArray)

theorem shapes : (match shOf Tryz.prog 9 33 with | some (.st (.sl .str 1 :: ss)) => some ((Kd.sl 1 :: Sh.kdL ss)) | _ => none) = some KT := by kernel_rfl

/-- A trace among the arguments, what it reads as. -/
theorem told_rep {H : Type} {enc : TypeId × Value → H} {W : World} {cs : Array Value} {d : DataW H} {ps : List MemPlace} (h : DataW.Trod enc Tryz.prog W 0 (fun _ => true) true 33 (.agg cs) d ps) :
    ∃ r : List PV, (wk KT r = true ∧ oldL 0 r = true ∧ textsC (slLen (Sp.c r 0)) (slCells (Sp.c r 0)) = true) ∧ Rep (memG W) (fun _ => none) (.agg r) (.agg cs) := by
  have hs := shapes
  split at hs
  · rename_i ss hsh
    have hk := Option.some.inj hs
    obtain ⟨fuel, hf⟩ := h
    obtain ⟨xs, h1, h2⟩ := trod_rep fuel 9 _ _ _ _ hsh hf
    have h3 := Sh.Has.wk _ xs h1
    refine ⟨xs, ⟨?_, h3.2, ?_⟩, ?_⟩
    · rw [← hk]; exact h3.1
    · simp only [Sh.Has, Sh.HasL] at h1
      obtain ⟨a, b, rfl, ⟨rows, rfl, hr⟩, _⟩ := h1
      show textsC rows.length (rows.flatMap Subtype.val) = true
      unfold textsC
      have hl : (rows.flatMap Subtype.val).length = rows.length := by
        clear hr h2 h3 hf
        induction rows with
        | nil => rfl
        | cons x rows ih => rw [List.flatMap_cons, List.length_append, x.2, ih, List.length_cons]; omega
      rw [hl, decide_eq_true rfl, Bool.true_and, List.all_eq_true]
      intro x hx
      obtain ⟨y, hy, hxy⟩ := List.mem_flatMap.1 hx
      obtain ⟨s, hs, _⟩ := hr y hy
      rw [hs] at hxy
      rw [List.mem_singleton.1 hxy]
      rfl
    · have := h2.agg
      simpa [Value.cells] using this
  · cases hs

theorem trace_lifted (os : Os) (started : os.Started) (H : Type) (enc : TypeId × Value → H) :
    ReturnsInHanded {} Tryz.checked os 3 .any (fun w args => (Rows.traceSameSpec.pre enc Tryz.prog Tryz.f3 [] false w args ∧ laidMetH Tryz.prog Rows.traceSameRow.laid w) ∧ sizedMet enc Tryz.prog Tryz.f3 (OpenSpec.ofChange Rows.traceSameSpec) false w args)
      (Rows.traceSameSpec.post enc Tryz.prog Tryz.f3 false true false false) := by
  refine returnsInHanded_of_change_and (C := Tryz.checked) (X := fun w _ => laidMetH Tryz.prog Rows.traceSameRow.laid w) (fun _ _ _ hh h => h.of_heap hh) own started (by kernel_rfl) Tryz.func3
    (ChangeSpec.witness_shaped (enc := enc) (C := Tryz.checked) (os := os) (X := fun w _ => laidMetH Tryz.prog Rows.traceSameRow.laid w) false (tabWorld os) #[zeroT, zeroT] 8 rfl (World.shaped_of_RefB (by kernel_rfl) (by kernel_rfl)) (by kernel_rfl) (by kernel_rfl) (by kernel_rfl) (words_door os _)) ?_
  intro W base args ds gs before hval0 hW _ _ hL _
  have hval : ∀ (j : Nat) t v, Tryz.f3.params[j]? = some t → args[j]? = some v → Value.okWide Tryz.prog W .any base t v := hval0
  have hW' := hW
  obtain ⟨p, q, hA0, hV, rfl, hfz, hnd⟩ := hW
  have hA : DataW.TrodAll enc Tryz.prog W 0 (fun _ => true) true Tryz.f3.params.toList args.toList ds p := hA0
  rw [Tryz.params3] at hA hval
  obtain ⟨v0, v1, d0, d1, p0, p1, rfl, rfl, rfl, h0, h1⟩ := trodAll_two hA
  obtain ⟨rfl, rfl⟩ := trodVars_none hV
  obtain ⟨c0, rfl, _⟩ := okWide_struct Tryz.underlying33 (hval 0 33 v0 rfl rfl)
  obtain ⟨c1, rfl, _⟩ := okWide_struct Tryz.underlying33 (hval 1 33 v1 rfl rfl)
  obtain ⟨r, ⟨wr, or, tr⟩, kr⟩ := told_rep h0
  obtain ⟨s, ⟨ws, os', ts⟩, ks⟩ := told_rep h1
  have hL' := hL
  rw [MakeChecks.laidMetH_plain _ _ _ (by kernel_rfl)] at hL'
  clear hA0 hval0
  simp only [List.append_nil] at hW'
  have hr : Reps (fun b o => W.cell? ⟨b, o, none⟩) (fun _ => none) [.agg r, .agg s] [.agg c0, .agg c1] := Reps.cons kr (Reps.cons ks Reps.nil)
  refine (calls_of_apart rowG_ok (words_errs hL') (words_plain hL') (law_true r s wr ws or os' tr ts) hr).mono fun e W' he => ?_
  obtain ⟨_, Γ, ρ, rfl, h2, hw⟩ := he
  cases h2
  have hlt : ∀ x ∈ p0 ++ p1, x.block < W.heap.size := fun x hx => hW'.lt x hx
  exact ⟨_, rfl, post_below (pa := p0 ++ p1) (pv := []) hW' (fun _ _ _ => trodAll_mk1 (shut_bool Tryz.underlying4 true))
    (fun sp hsp => trodAll_mk2
      (WideElems.Trod_stays laidOut (by kernel_rfl) (of_decide_eq_true (by kernel_rfl)) h0 (fun x hx => hw.same (hlt x (List.mem_append_left _ hx))) (fun x hx => hsp x (by simp [hx])))
      (WideElems.Trod_stays laidOut (by kernel_rfl) (of_decide_eq_true (by kernel_rfl)) h1 (fun x hx => hw.same (hlt x (List.mem_append_right _ hx))) (fun x hx => hsp x (by simp [hx]))))
    (fun _ _ => rfl) (by simp) hw (ok_one (by kernel_rfl) rfl (okWide_bool_mk Tryz.underlying4 true))⟩

theorem fact_in : (Rows.traceSameRow.inPlace == Tryz.prog.inPlace 3) = true := by kernel_rfl
theorem fact_un : (Rows.traceSameRow.unfollowed == Tryz.prog.unfollowed 3) = true := by kernel_rfl
theorem fact_re : (Rows.traceSameRow.recurses == Tryz.prog.recurses 3) = true := by kernel_rfl
theorem fact_na : (Rows.traceSameRow.named == Tryz.prog.varsNamed 3) = true := by kernel_rfl
theorem fact_wf : Rows.traceSameRow.wf (OpenSpec.ofChange Rows.traceSameSpec) = true := by kernel_rfl

/-- What the row says of the program is so: piece by piece (as a whole it is more than the kernel's memory holds). -/
theorem joined : joinedFacts Tryz.prog 3 Tryz.f3 Rows.traceSameSpec Rows.traceSameRow = true := by
  unfold joinedFacts
  rw [fact_in, fact_un, fact_re, fact_na, fact_wf]
  kernel_rfl

theorem traceSame_holds : Rows.TraceSameSaid :=
  OpenClaim.holds_of_wide 3 Tryz.f3 rfl rfl rfl rfl rfl rfl rfl ⟨rfl, rfl, rfl, rfl, rfl⟩ rfl rfl rfl rfl rfl (by kernel_rfl) Tryz.func3 joined
    (of_decide_eq_true (by kernel_rfl)) (by unfold Func.isWrapper; first | (rw [if_pos (by decide +kernel)]; kernel_rfl) | (rw [if_neg (by decide +kernel)]; exact ⟨rfl, rfl⟩))
    (fun os started H enc _ => trace_lifted os started H enc)

theorem traceSame_card_holds : Rows.TraceSameCardSaid :=
  Claim7.holds_tied_plain_at .later [] [.data, .sentinel, .sentinel, .sentinel, .sentinel, .sentinel, .sentinel, .sentinel, .sentinel, .sentinel, .sentinel, .data, .pinned] true (true, "86cd85acaa8e3b107f1be18812ff372e919283371717a8da11bd28e13f7dacc8") true
    traceSame_holds (fun _ h => by cases h) (by kernel_rfl) (fun _ h => by cases h) traceSame_row_tie rfl ⟨rfl, rfl⟩ (by kernel_rfl) rfl
    (fun f fn hf hfn => by
      obtain rfl : f = 3 := Option.some.inj ((show Tryz.prog.funcNamed "linkboy/linkboylaw41.TraceSame" = some 3 by kernel_rfl).symm.trans hf) |>.symm
      obtain rfl : fn = Tryz.f3 := (Option.some.inj (Tryz.func3.symm.trans hfn)).symm
      exact ⟨by kernel_rfl, fun j t ht => by
        rw [Tryz.params3] at ht
        have hm : t ∈ [33] := by simpa using Array.mem_of_getElem? ht
        have hall : ([33].all fun u => !Tryz.prog.wantsStandIn u) = true := by kernel_rfl
        exact (show Tryz.prog.wantsStandIn t = false by simpa using List.all_eq_true.1 hall t hm)⟩)
    (by kernel_rfl)

end Go.Proofs.YtcjcinipfdameacGreatDoor
