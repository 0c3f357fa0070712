/- linkboylaw25.TxnStages, as the given statement says: at all rows and all ops it returns true, and they read as they did. The listed package variables (errors) read as the program's text lays them, which the card ties. -/
import Derived.Test.YtpbemfikhmeedaaGreatDoorMT7
import Derived.Test.YtpbemfikhmeedaaGreatDoorMZTxLaidS
import Derived.Test.YtpbemfikhmeedaaGreatDoorRows
import Derived.Test.YtpbemfikhmeedaaGreatDoorTie
import Derived.Test.YtpbemfikhmeedaaGreatDoorCards
import Derived.Carry
import Derived.ChangeSame
import Derived.ProofKit
import Derived.ChangeSlices
import Derived.WideShapes
import Derived.LaidMore
import Derived.OpenShut
import Derived.SevenTiedAt
set_option linter.unusedVariables false
set_option linter.unusedSimpArgs false
set_option maxRecDepth 100000
namespace Go.Proofs.YtpbemfikhmeedaaGreatDoor
open Go.ChangeShapes Go.WideShapes Go.ChangeAt Go.WideMaps Go.WideElems Go.RowKit
open Am
section
variable {H : Type} {enc : TypeId × Value -> H} {P : Program}
theorem post_below {f : Func} {s : ChangeSpec} {apart fresh handsOn again : Bool} {W W' : World} {args : Array Value} {v : Value} {ds gs : List (DataW H)} {before pa pv : List MemPlace}
    (hW : DataW.Whole enc P f.params.toList s.vars apart W args.toList ds gs before)
    (hres : ∀ (b : Nat) (sp : Nat -> Bool) (hd : Bool), DataW.TrodAll enc P W' b sp hd f.resultTypes.toList (v.resultList f.resultTypes.size) (s.fn H (ds ++ gs)).results [])
    (hargs : ∀ sp : Nat -> Bool, (∀ p ∈ before, sp p.block = true) -> DataW.TrodAll enc P W' 0 sp true f.params.toList args.toList (s.fn H (ds ++ gs)).args pa)
    (hvars : ∀ sp : Nat -> Bool, (∀ p ∈ before, sp p.block = true) -> DataW.TrodVars enc P W' sp s.vars (s.fn H (ds ++ gs)).vars pv)
    (hps : before = pa ++ pv) (hb : Below W.heap.size W W')
    (hok : ∀ (j : Nat) (t : TypeId) (r : Value), f.resultTypes[j]? = some t -> (v.resultList f.resultTypes.size)[j]? = some r -> Value.okWide P W' .any 0 t r) :
    s.post enc P f apart fresh handsOn again W args v W' := by
  have hlt : ∀ p ∈ before, p.block < W.heap.size := fun p hp => hW.lt p hp
  have hold : ∀ p ∈ before, (fun b => decide (b < W.heap.size)) p.block = true := fun p hp => by simpa using hlt p hp
  refine ⟨ds, gs, before, [], pa, pv, hW, hres _ _ _, hargs _ hold, hvars _ hold, World.keptBut_mono (fun p hp => ⟨hp, ?_⟩) (hb.frame (· ∈ before)), fun _ => ?_⟩
  . rw [hps, List.mem_append] at hp
    exact Or.inr hp
  . obtain ⟨_, _, _, _, _, hz, hn⟩ := hW
    refine ⟨hok, _, _, ([] ++ pa) ++ pv, ⟨[] ++ pa, pv, trodAll_append (hargs _ (fun _ _ => rfl)) (hres _ _ _), hvars _ (fun _ _ => rfl), rfl, ?_, ?_⟩, ?_⟩
    . intro b off hp
      have hin : MemPlace.cell b off ∈ before := by rw [hps]; simpa using hp
      rw [hb.frozen (hlt _ hin)]
      exact hz b off hin
    . intro ha
      have := hn ha
      rw [hps] at this
      simpa using this
    . intro p hp _
      rw [hps]
      simpa using hp
end
theorem own : ownKnob Tryz.prog.godebug = none := by kernel_rfl
theorem laidOut : laidOutB Tryz.prog = true := by kernel_rfl
noncomputable def tabWorld (os : Os) : World := World.doorLaid Tryz.prog 351 os
theorem words_door (os : Os) (args : Array Value) : laidMetH Tryz.prog Rows.txnStagesRow.laid ((tabWorld os).forCall (fun _ _ => 0) ⟨#[], args, []⟩).memory :=
  laidMetH_of_parts3 (fuel := 8) (laidMet_of_run' 8 (by kernel_rfl) (by kernel_rfl)) (by kernel_rfl) (by kernel_rfl)
theorem words_errs {W : World} (h : laidMet Tryz.prog Rows.txnStagesRow.laid W) : ErrsAt W := by
  have h1 := h.filter isErrB
  have e : Rows.txnStagesRow.laid.filter isErrB = errList.map errEntry := by kernel_rfl
  rw [e] at h1
  exact errsAt h1
theorem words_plain (W : World) : PlainAt rowG W := by
  intro g cells hg hge
  unfold rowG errG at hg
  rw [hge] at hg
  cases hg
def zeroR : Value := .agg #[.slice none 0 0, .slice none 0 0, .slice none 0 0]
theorem shapes : (match shOf Tryz.prog 9 26 with | some (.st [.sl e1 26, .sl e2 8, .sl e3 3]) => some (e1.kd, e1.sk, e2.kd, e2.sk, e3.kd, e3.sk) | _ => none) = some (KFr, List.replicate 26 none, KGr, [none, none, none, none, none, none, some KPt, some KIn], KFi, [none, none, some KPt]) := by kernel_rfl
theorem rows_rep' {H : Type} {enc : TypeId × Value -> H} {W : World} {cs : Array Value} {d : DataW H} {ps : List MemPlace} (h : DataW.Trod enc Tryz.prog W 0 (fun _ => true) true 26 (.agg cs) d ps) :
    ∃ (r : Rw) (F G I : List (List PV)), WR r F G I /\ Rep (memG W) (fun _ => none) r.pv (.agg cs) := by
  have hs := shapes
  split at hs
  . rename_i e1 e2 e3 hsh
    simp only [Option.some.injEq, Prod.mk.injEq] at hs
    obtain ⟨k1, s1, k2, s2, k3, s3⟩ := hs
    obtain ⟨fuel, hf⟩ := h
    obtain ⟨xs, h1, h2⟩ := trod_rep fuel 9 _ _ _ _ hsh hf
    simp only [Sh.Has, Sh.HasL] at h1
    obtain ⟨a, b, rfl, ⟨r1, rfl, p1⟩, a', b', rfl, ⟨r2, rfl, p2⟩, a'', b'', rfl, ⟨r3, rfl, p3⟩, rfl⟩ := h1
    obtain ⟨f1, f2, f3⟩ := rows_has r1 p1
    obtain ⟨g1, g2, g3⟩ := rows_has r2 p2
    obtain ⟨i1, i2, i3⟩ := rows_has r3 p3
    rw [k1] at f1
    rw [k2] at g1
    rw [k3] at i1
    refine ⟨⟨r1.length, r1.flatMap Subtype.val, r2.length, r2.flatMap Subtype.val, r3.length, r3.flatMap Subtype.val⟩, r1.map Subtype.val, r2.map Subtype.val, r3.map Subtype.val, ⟨f1, g1, i1, f2.symm, g2.symm, i2.symm, f3, g3, i3, ?_, ?_, ?_⟩, ?_⟩
    . intro x hx
      have hw := (rowsOk_get f1 hx).1
      obtain ⟨y, hy, rfl⟩ := List.mem_map.1 hx
      have hk := Sh.Has.wkS e1 y.val (p1 y hy)
      rw [s1] at hk
      exact r8_of hw hk
    . intro x hx
      obtain ⟨y, hy, rfl⟩ := List.mem_map.1 hx
      have hk := Sh.Has.wkS e2 y.val (p2 y hy)
      rw [s2] at hk
      exact ⟨wkS_get (j := 6) hk rfl, wkS_get (j := 7) hk rfl⟩
    . intro x hx
      obtain ⟨y, hy, rfl⟩ := List.mem_map.1 hx
      have hk := Sh.Has.wkS e3 y.val (p3 y hy)
      rw [s3] at hk
      exact wkS_get (j := 2) hk rfl
    . have := h2.agg
      simpa [Value.cells, Rw.pv] using this
  . cases hs
theorem stages_lifted (os : Os) (started : os.Started) (H : Type) (enc : TypeId × Value -> H) :
    ReturnsInHanded {} Tryz.checked os 3 .any (fun w args => (Rows.txnStagesSpec.pre enc Tryz.prog Tryz.f3 [] false w args /\ laidMetH Tryz.prog Rows.txnStagesRow.laid w) /\ sizedMet enc Tryz.prog Tryz.f3 (OpenSpec.ofChange Rows.txnStagesSpec) false w args)
      (Rows.txnStagesSpec.post enc Tryz.prog Tryz.f3 false true false false) := by
  refine returnsInHanded_of_change_and (C := Tryz.checked) (X := fun w _ => laidMetH Tryz.prog Rows.txnStagesRow.laid w) (fun _ _ _ hh h => h.of_heap hh) own started (by kernel_rfl) Tryz.func3
    (ChangeSpec.witness_shaped (enc := enc) (C := Tryz.checked) (os := os) (X := fun w _ => laidMetH Tryz.prog Rows.txnStagesRow.laid w) false (tabWorld os) #[zeroR, .slice none 0 0] 8 rfl (World.shaped_of_RefB (by kernel_rfl) (by kernel_rfl)) (by kernel_rfl) (by kernel_rfl) (by kernel_rfl) (words_door os _)) ?_
  intro W base args ds gs before hval0 hW _ _ hL _
  have hval : ∀ (j : Nat) t v, Tryz.f3.params[j]? = some t -> args[j]? = some v -> Value.okWide Tryz.prog W .any base t v := hval0
  have hW' := hW
  obtain ⟨p, q, hA0, hV, rfl, hfz, hnd⟩ := hW
  have hA : DataW.TrodAll enc Tryz.prog W 0 (fun _ => true) true Tryz.f3.params.toList args.toList ds p := hA0
  rw [Tryz.params3] at hA hval
  obtain ⟨v0, v1, d0, d1, p0, p1, rfl, rfl, rfl, h0, h1⟩ := trodAll_two hA
  obtain ⟨rfl, rfl⟩ := trodVars_none hV
  obtain ⟨c0, rfl, _⟩ := okWide_struct Tryz.underlying26 (hval 0 26 v0 rfl rfl)
  obtain ⟨a1, len, cap, hv1⟩ := okWide_slice Tryz.underlying27 (hval 1 27 v1 rfl rfl)
  obtain ⟨r, F, G, I, wr, kr⟩ := rows_rep' h0
  obtain ⟨R, hR, hO, kl⟩ := ops_repW hv1 h1
  obtain ⟨K, law⟩ := lawX wr hR hO
  have hL' := hL
  rw [MakeChecks.laidMetH_plain _ _ _ (by kernel_rfl)] at hL'
  clear hA0 hval0
  simp only [List.append_nil] at hW'
  have hr : Reps (fun b o => W.cell? ⟨b, o, none⟩) (fun _ => none) [r.pv, .sl R.flatten 38 R.length none] [.agg c0, v1] := Reps.cons kr (Reps.cons kl Reps.nil)
  refine (calls_of_apart rowG_ok (words_errs hL') (words_plain W) law hr).mono fun e W' he => ?_
  obtain ⟨_, Γ, ρ, rfl, h2, hw⟩ := he
  cases h2
  have hlt : ∀ x ∈ p0 ++ p1, x.block < W.heap.size := fun x hx => hW'.lt x hx
  exact ⟨_, rfl, post_below (pa := p0 ++ p1) (pv := []) hW' (fun _ _ _ => trodAll_mk1 (shut_bool Tryz.underlying4 true))
    (fun sp hsp => trodAll_mk2
      (WideElems.Trod_stays laidOut (by kernel_rfl) (of_decide_eq_true (by kernel_rfl)) h0 (fun x hx => hw.same (hlt x (List.mem_append_left _ hx))) (fun x hx => hsp x (by simp [hx])))
      (WideElems.Trod_stays laidOut (by kernel_rfl) (of_decide_eq_true (by kernel_rfl)) h1 (fun x hx => hw.same (hlt x (List.mem_append_right _ hx))) (fun x hx => hsp x (by simp [hx]))))
    (fun _ _ => rfl) (by simp) hw (ok_one (by kernel_rfl) rfl (okWide_bool_mk Tryz.underlying4 true))⟩
theorem fact_in : (Rows.txnStagesRow.inPlace == Tryz.prog.inPlace 3) = true := by kernel_rfl
theorem fact_un : (Rows.txnStagesRow.unfollowed == Tryz.prog.unfollowed 3) = true := by kernel_rfl
theorem fact_re : (Rows.txnStagesRow.recurses == Tryz.prog.recurses 3) = true := by kernel_rfl
theorem fact_na : (Rows.txnStagesRow.named == Tryz.prog.varsNamed 3) = true := by kernel_rfl
theorem fact_wf : Rows.txnStagesRow.wf (OpenSpec.ofChange Rows.txnStagesSpec) = true := by kernel_rfl
theorem joined : joinedFacts Tryz.prog 3 Tryz.f3 Rows.txnStagesSpec Rows.txnStagesRow = true := by
  unfold joinedFacts
  rw [fact_in, fact_un, fact_re, fact_na, fact_wf]
  kernel_rfl
theorem txnStages_holds : Rows.TxnStagesSaid :=
  OpenClaim.holds_of_wide 3 Tryz.f3 rfl rfl rfl rfl rfl rfl rfl ⟨rfl, rfl, rfl, rfl, rfl⟩ rfl rfl rfl rfl rfl (by kernel_rfl) Tryz.func3 joined
    (of_decide_eq_true (by kernel_rfl)) (by unfold Func.isWrapper; first | (rw [if_pos (by decide +kernel)]; kernel_rfl) | (rw [if_neg (by decide +kernel)]; exact ⟨rfl, rfl⟩))
    (fun os started H enc _ => stages_lifted os started H enc)
theorem txnStages_card_holds : Rows.TxnStagesCardSaid :=
  Claim7.holds_tied_plain_at .later [] [.sentinel, .sentinel, .sentinel, .sentinel, .sentinel, .sentinel, .sentinel, .sentinel, .sentinel, .sentinel, .sentinel, .sentinel, .sentinel, .sentinel, .sentinel, .sentinel, .sentinel, .sentinel] true (true, "4cd5cfc3c5bceef985d19868feb0c3e258aea7162d4daddfcae8343cd2fc0b8b") true
    txnStages_holds (fun _ h => by cases h) (by kernel_rfl) (fun _ h => by cases h) txnStages_row_tie rfl ⟨rfl, rfl⟩ (by kernel_rfl) rfl
    (fun f fn hf hfn => by
      obtain rfl : f = 3 := Option.some.inj ((show Tryz.prog.funcNamed "linkboy/linkboylaw25.TxnStages" = some 3 by kernel_rfl).symm.trans hf) |>.symm
      obtain rfl : fn = Tryz.f3 := (Option.some.inj (Tryz.func3.symm.trans hfn)).symm
      exact ⟨by kernel_rfl, fun j t ht => by
        rw [Tryz.params3] at ht
        have hm : t ∈ [26, 27] := by simpa using Array.mem_of_getElem? ht
        have hall : ([26, 27].all fun u => !Tryz.prog.wantsStandIn u) = true := by kernel_rfl
        exact (show Tryz.prog.wantsStandIn t = false by simpa using List.all_eq_true.1 hall t hm)⟩)
    (by kernel_rfl)
end Go.Proofs.YtpbemfikhmeedaaGreatDoor
