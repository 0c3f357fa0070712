/- linkboylaw34.ScriptEncodes, as the given statement says: at every row of acts it returns true, and the row reads as it did. The listed package variables (the errors) read as the program's text lays them, which the card ties. -/
import Derived.Test.YtbnfofcbajaiiaaDoorSe8
import Derived.Test.YtbnfofcbajaiiaaDoorRead
import Derived.Test.YtbnfofcbajaiiaaDoorRows
import Derived.Test.YtbnfofcbajaiiaaDoorTie
import Derived.Test.YtbnfofcbajaiiaaDoorCards
import Derived.Carry
import Derived.ChangeSame
import Derived.ProofKit
import Derived.ChangeSlices
import Derived.WideShapes
import Derived.LaidMore
import Derived.OpenShut
import Derived.SevenTiedAt
set_option linter.unusedVariables false
set_option linter.unusedSimpArgs false
set_option maxRecDepth 100000
namespace Go.Proofs.YtbnfofcbajaiiaaDoor
open Go.ChangeShapes Go.WideShapes Go.ChangeAt Go.WideMaps Go.WideElems Go.RowKit
open Am

section
variable {H : Type} {enc : TypeId × Value → H} {P : Program}

/-- What 'post' asks, where the old blocks stand as they stood. -/
theorem post_below {f : Func} {s : ChangeSpec} {apart fresh handsOn again : Bool} {W W' : World} {args : Array Value} {v : Value} {ds gs : List (DataW H)} {before pa pv : List MemPlace}
    (hW : DataW.Whole enc P f.params.toList s.vars apart W args.toList ds gs before)
    (hres : ∀ (b : Nat) (sp : Nat → Bool) (hd : Bool), DataW.TrodAll enc P W' b sp hd f.resultTypes.toList (v.resultList f.resultTypes.size) (s.fn H (ds ++ gs)).results [])
    (hargs : ∀ sp : Nat → Bool, (∀ p ∈ before, sp p.block = true) → DataW.TrodAll enc P W' 0 sp true f.params.toList args.toList (s.fn H (ds ++ gs)).args pa)
    (hvars : ∀ sp : Nat → Bool, (∀ p ∈ before, sp p.block = true) → DataW.TrodVars enc P W' sp s.vars (s.fn H (ds ++ gs)).vars pv)
    (hps : before = pa ++ pv) (hb : Below W.heap.size W W')
    (hok : ∀ (j : Nat) (t : TypeId) (r : Value), f.resultTypes[j]? = some t → (v.resultList f.resultTypes.size)[j]? = some r → Value.okWide P W' .any 0 t r) :
    s.post enc P f apart fresh handsOn again W args v W' := by
  have hlt : ∀ p ∈ before, p.block < W.heap.size := fun p hp => hW.lt p hp
  have hold : ∀ p ∈ before, (fun b => decide (b < W.heap.size)) p.block = true := fun p hp => by simpa using hlt p hp
  refine ⟨ds, gs, before, [], pa, pv, hW, hres _ _ _, hargs _ hold, hvars _ hold, World.keptBut_mono (fun p hp => ⟨hp, ?_⟩) (hb.frame (· ∈ before)), fun _ => ?_⟩
  · rw [hps, List.mem_append] at hp
    exact Or.inr hp
  · obtain ⟨_, _, _, _, _, hz, hn⟩ := hW
    refine ⟨hok, _, _, ([] ++ pa) ++ pv, ⟨[] ++ pa, pv, trodAll_append (hargs _ (fun _ _ => rfl)) (hres _ _ _), hvars _ (fun _ _ => rfl), rfl, ?_, ?_⟩, ?_⟩
    · intro b off hp
      have hin : MemPlace.cell b off ∈ before := by rw [hps]; simpa using hp
      rw [hb.frozen (hlt _ hin)]
      exact hz b off hin
    · intro ha
      have := hn ha
      rw [hps] at this
      simpa using this
    · intro p hp _
      rw [hps]
      simpa using hp
end

theorem own : ownKnob Tryd.prog.godebug = none := by kernel_rfl
theorem laidOut : laidOutB Tryd.prog = true := by kernel_rfl

theorem errs_door (os : Os) (args : Array Value) : laidMetH Tryd.prog Rows.scriptEncodesRow.laid ((World.doorLaid Tryd.prog 366 os).forCall (fun _ _ => 0) ⟨#[], args, []⟩).memory :=
  laidMetH_of_parts3 (fuel := 8) (laidMet_of_run' 8 (by kernel_rfl) (by kernel_rfl)) (by kernel_rfl) (by kernel_rfl)

theorem errs_met {W : World} (h : laidMet Tryd.prog Rows.scriptEncodesRow.laid W) : ErrsAt W := by
  have e : Rows.scriptEncodesRow.laid = errList.map errEntry := by kernel_rfl
  rw [e] at h
  exact errsAt h

theorem errs_plain (W : World) : PlainAt errG W := by
  intro g cells hg hge
  unfold errG at hg
  have : Nat.blt g 18 = false := by
    cases hq : Nat.blt g 18 with
    | false => rfl
    | true => have : g ≤ 17 := by simpa [Nat.blt] using hq
              omega
  rw [this] at hg
  cases hg

theorem actSh : shOf Tryd.prog 9 22 = some (.sl (.st [.int .i64, .int .i64, .sl (.int .u8) 1]) 3) := by kernel_rfl

theorem has_act {xs : List PV} (h : (Sh.st [.int .i64, .int .i64, .sl (.int .u8) 1]).Has xs) : ∃ a : Am.Act, xs = a.enc := by
  simp only [Sh.Has, Sh.HasL] at h
  obtain ⟨a, b, rfl, ⟨k, rfl, _⟩, c, d, rfl, ⟨n, rfl, _⟩, e, f, rfl, h, rfl⟩ := h
  obtain ⟨l, rfl⟩ := has_bytes (xs := e) (by simpa only [Sh.Has] using h)
  exact ⟨⟨k, n, l⟩, rfl⟩

/-- A row of acts among the arguments. -/
theorem acts_rep {H : Type} {enc : TypeId × Value → H} {W : World} {v : Value} {d : DataW H} {ps : List MemPlace} {a0 : Option Addr} {len cap : Nat} (hv : v = .slice a0 len cap) (h : DataW.Trod enc Tryd.prog W 0 (fun _ => true) true 22 v d ps) :
    ∃ l : List Am.Act, Rep (memG W) (fun _ => none) (.sl (l.flatMap Am.Act.enc) 3 l.length none) v := by
  subst hv
  obtain ⟨fuel, hf⟩ := h
  obtain ⟨xs, h1, h2⟩ := trod_rep fuel 9 _ _ _ _ actSh hf
  obtain ⟨rows, rfl, hr⟩ := (by simpa only [Sh.Has] using h1 : ∃ rows : List {r : List PV // r.length = 3}, xs = [.sl (rows.flatMap Subtype.val) 3 rows.length none] ∧ ∀ r ∈ rows, _)
  obtain ⟨l, e1, e2⟩ := rows_of (enc := Am.Act.enc) rows fun r hr' => has_act (by simpa only [Sh.Has] using hr r hr')
  refine ⟨l, ?_⟩
  rw [← e1, e2]
  exact h2.2 0 _ _ rfl rfl

theorem encodes_lifted (os : Os) (started : os.Started) (H : Type) (enc : TypeId × Value → H) :
    ReturnsInHanded {} Tryd.checked os 3 .any (fun w args => (Rows.scriptEncodesSpec.pre enc Tryd.prog Tryd.f3 [] false w args ∧ laidMetH Tryd.prog Rows.scriptEncodesRow.laid w) ∧ sizedMet enc Tryd.prog Tryd.f3 (OpenSpec.ofChange Rows.scriptEncodesSpec) false w args)
      (Rows.scriptEncodesSpec.post enc Tryd.prog Tryd.f3 false true false false) := by
  refine returnsInHanded_of_change_and (C := Tryd.checked) (X := fun w _ => laidMetH Tryd.prog Rows.scriptEncodesRow.laid w) (fun _ _ _ hh h => h.of_heap hh) own started (by kernel_rfl) Tryd.func3
    (ChangeSpec.witness_shaped (enc := enc) (C := Tryd.checked) (os := os) (X := fun w _ => laidMetH Tryd.prog Rows.scriptEncodesRow.laid w) false (World.doorLaid Tryd.prog 366 os) #[.slice none 0 0] 8 rfl (World.shaped_of_RefB (by kernel_rfl) (by kernel_rfl)) (by kernel_rfl) (by kernel_rfl) (by kernel_rfl) (errs_door os _)) ?_
  intro W base args ds gs before hval0 hW _ _ hL _
  have hval : ∀ (j : Nat) t v, Tryd.f3.params[j]? = some t → args[j]? = some v → Value.okWide Tryd.prog W .any base t v := hval0
  have hW' := hW
  obtain ⟨p, q, hA0, hV, rfl, hfz, hnd⟩ := hW
  have hA : DataW.TrodAll enc Tryd.prog W 0 (fun _ => true) true Tryd.f3.params.toList args.toList ds p := hA0
  rw [Tryd.params3] at hA hval
  obtain ⟨v0, d0, rfl, rfl, h0⟩ := trodAll_one hA
  obtain ⟨rfl, rfl⟩ := trodVars_none hV
  obtain ⟨a0, len, cap, hv0⟩ := okWide_slice Tryd.underlying22 (hval 0 22 v0 rfl rfl)
  obtain ⟨l, hl⟩ := acts_rep hv0 h0
  have hL' := hL
  rw [MakeChecks.laidMetH_plain _ _ _ (by kernel_rfl)] at hL'
  clear hA0 hval0
  simp only [List.append_nil] at hW'
  have hr : Reps (fun b o => W.cell? ⟨b, o, none⟩) (fun _ => none) [.sl (l.flatMap Am.Act.enc) 3 l.length none] [v0] := Reps.cons hl Reps.nil
  refine (calls_of_apart errG_ok (errs_met hL') (errs_plain W) (law3 l) hr).mono fun e W' he => ?_
  obtain ⟨r, Γ, ρ, rfl, h2, hw⟩ := he
  cases h2
  have hlt : ∀ x ∈ p, x.block < W.heap.size := fun x hx => hW'.lt x hx
  exact ⟨_, rfl, post_below (pa := p) (pv := []) hW' (fun _ _ _ => trodAll_mk1 (shut_bool Tryd.underlying4 true))
    (fun sp hsp => trodAll_mk1
      (WideElems.Trod_stays laidOut (by kernel_rfl) (of_decide_eq_true (by kernel_rfl)) h0 (fun x hx => hw.same (hlt x hx)) (fun x hx => hsp x hx)))
    (fun _ _ => rfl) (by simp) hw (ok_one (by kernel_rfl) rfl (okWide_bool_mk Tryd.underlying4 true))⟩

theorem encodes_holds : Rows.ScriptEncodesSaid :=
  OpenClaim.holds_of_wide 3 Tryd.f3 rfl rfl rfl rfl rfl rfl rfl ⟨rfl, rfl, rfl, rfl, rfl⟩ rfl rfl rfl rfl rfl (by kernel_rfl) Tryd.func3 (by kernel_rfl)
    (of_decide_eq_true (by kernel_rfl)) (by unfold Func.isWrapper; first | (rw [if_pos (by decide +kernel)]; kernel_rfl) | (rw [if_neg (by decide +kernel)]; exact ⟨rfl, rfl⟩))
    (fun os started H enc _ => encodes_lifted os started H enc)

theorem encodes_card_holds : Rows.ScriptEncodesCardSaid :=
  Claim7.holds_tied_plain_at .later [] [.sentinel, .sentinel, .sentinel, .sentinel, .sentinel, .sentinel, .sentinel, .sentinel, .sentinel, .sentinel, .sentinel, .sentinel, .sentinel, .sentinel, .sentinel, .sentinel, .sentinel, .sentinel] true (true, "8faa834bc67af6d0e6510bd05d4a7b22f903464bfe644358826d77d750f728a5") true
    encodes_holds (fun _ h => by cases h) (by kernel_rfl) (fun _ h => by cases h) scriptEncodes_row_tie rfl ⟨rfl, rfl⟩ (by kernel_rfl) rfl
    (fun f fn hf hfn => by
      obtain rfl : f = 3 := Option.some.inj ((show Tryd.prog.funcNamed "linkboy/linkboylaw34.ScriptEncodes" = some 3 by kernel_rfl).symm.trans hf) |>.symm
      obtain rfl : fn = Tryd.f3 := (Option.some.inj (Tryd.func3.symm.trans hfn)).symm
      exact ⟨by kernel_rfl, fun j t ht => by
        rw [Tryd.params3] at ht
        have hm : t ∈ [22] := by simpa using Array.mem_of_getElem? ht
        have hall : ([22].all fun u => !Tryd.prog.wantsStandIn u) = true := by kernel_rfl
        exact (show Tryd.prog.wantsStandIn t = false by simpa using List.all_eq_true.1 hall t hm)⟩)
    (by kernel_rfl)

end Go.Proofs.YtbnfofcbajaiiaaDoor
