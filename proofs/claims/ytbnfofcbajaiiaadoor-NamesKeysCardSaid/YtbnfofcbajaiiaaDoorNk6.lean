/- linkboylaw05.NamesKeys, as the given statement says: at every text and every key it returns true, and both read as they did. The listed package variables (the errors, two tables of Go's library) read as the program's text lays them, which the card ties. -/
import Derived.Test.YtbnfofcbajaiiaaDoorNk5
import Derived.Test.YtbnfofcbajaiiaaDoorRead
import Derived.Test.YtbnfofcbajaiiaaDoorRows
import Derived.Test.YtbnfofcbajaiiaaDoorTie
import Derived.Test.YtbnfofcbajaiiaaDoorCards
import Derived.Carry
import Derived.ChangeSame
import Derived.ProofKit
import Derived.ChangeSlices
import Derived.WideShapes
import Derived.LaidMore
import Derived.OpenShut
import Derived.SevenTiedAt
set_option linter.unusedVariables false
set_option linter.unusedSimpArgs false
set_option maxRecDepth 100000
namespace Go.Proofs.YtbnfofcbajaiiaaDoor
open Go.ChangeShapes Go.WideShapes Go.ChangeAt Go.WideMaps Go.WideElems Go.RowKit
open Am

section
variable {H : Type} {enc : TypeId × Value → H} {P : Program}

/-- What 'post' asks, where the old blocks stand as they stood. -/
theorem post_below {f : Func} {s : ChangeSpec} {apart fresh handsOn again : Bool} {W W' : World} {args : Array Value} {v : Value} {ds gs : List (DataW H)} {before pa pv : List MemPlace}
    (hW : DataW.Whole enc P f.params.toList s.vars apart W args.toList ds gs before)
    (hres : ∀ (b : Nat) (sp : Nat → Bool) (hd : Bool), DataW.TrodAll enc P W' b sp hd f.resultTypes.toList (v.resultList f.resultTypes.size) (s.fn H (ds ++ gs)).results [])
    (hargs : ∀ sp : Nat → Bool, (∀ p ∈ before, sp p.block = true) → DataW.TrodAll enc P W' 0 sp true f.params.toList args.toList (s.fn H (ds ++ gs)).args pa)
    (hvars : ∀ sp : Nat → Bool, (∀ p ∈ before, sp p.block = true) → DataW.TrodVars enc P W' sp s.vars (s.fn H (ds ++ gs)).vars pv)
    (hps : before = pa ++ pv) (hb : Below W.heap.size W W')
    (hok : ∀ (j : Nat) (t : TypeId) (r : Value), f.resultTypes[j]? = some t → (v.resultList f.resultTypes.size)[j]? = some r → Value.okWide P W' .any 0 t r) :
    s.post enc P f apart fresh handsOn again W args v W' := by
  have hlt : ∀ p ∈ before, p.block < W.heap.size := fun p hp => hW.lt p hp
  have hold : ∀ p ∈ before, (fun b => decide (b < W.heap.size)) p.block = true := fun p hp => by simpa using hlt p hp
  refine ⟨ds, gs, before, [], pa, pv, hW, hres _ _ _, hargs _ hold, hvars _ hold, World.keptBut_mono (fun p hp => ⟨hp, ?_⟩) (hb.frame (· ∈ before)), fun _ => ?_⟩
  · rw [hps, List.mem_append] at hp
    exact Or.inr hp
  · obtain ⟨_, _, _, _, _, hz, hn⟩ := hW
    refine ⟨hok, _, _, ([] ++ pa) ++ pv, ⟨[] ++ pa, pv, trodAll_append (hargs _ (fun _ _ => rfl)) (hres _ _ _), hvars _ (fun _ _ => rfl), rfl, ?_, ?_⟩, ?_⟩
    · intro b off hp
      have hin : MemPlace.cell b off ∈ before := by rw [hps]; simpa using hp
      rw [hb.frozen (hlt _ hin)]
      exact hz b off hin
    · intro ha
      have := hn ha
      rw [hps] at this
      simpa using this
    · intro p hp _
      rw [hps]
      simpa using hp
end

theorem own : ownKnob Tryd.prog.godebug = none := by kernel_rfl
theorem laidOut : laidOutB Tryd.prog = true := by kernel_rfl

/-- The values of a table. -/
def litsOf : DataW Unit → List Value
  | .agg l => l.map fun d => match d with
    | .lit (.int k n) => .int k n
    | _ => .bool false
  | _ => []

/-- The world that the door's run leaves, with the library's pinned table laid. -/
noncomputable def tabWorld (os : Os) : World :=
  let w := World.doorLaid Tryd.prog 366 os
  { w with heap := w.heap.modify 20 fun o => match o with
      | .cells _ t fr => .cells (litsOf Rows.laid_unicode_utf8_first).toArray t fr
      | o => o }

theorem errs_door (os : Os) (args : Array Value) : laidMetH Tryd.prog Rows.namesKeysRow.laid ((tabWorld os).forCall (fun _ _ => 0) ⟨#[], args, []⟩).memory :=
  laidMetH_of_parts3 (fuel := 8) (laidMet_of_run' 8 (by kernel_rfl) (by kernel_rfl)) (by kernel_rfl) (by kernel_rfl)

def errKeep (x : String × DataW Unit) : Bool := (errList.map (·.1)).contains x.1

theorem errs_met {W : World} (h : laidMet Tryd.prog Rows.namesKeysRow.laid W) : ErrsAt W := by
  have h1 := h.filter errKeep
  have e : Rows.namesKeysRow.laid.filter errKeep = errList.map errEntry := by kernel_rfl
  rw [e] at h1
  exact errsAt h1

theorem errs_plain (W : World) : PlainAt errG W := by
  intro g cells hg hge
  unfold errG at hg
  have : Nat.blt g 18 = false := by
    cases hq : Nat.blt g 18 with
    | false => rfl
    | true => have : g ≤ 17 := by simpa [Nat.blt] using hq
              omega
  rw [this] at hg
  cases hg

theorem has_key {xs : List PV} (h : (Sh.st [.str, .str]).Has xs) : ∃ a b : List UInt8, xs = [.str a, .str b] := by
  simp only [Sh.Has, Sh.HasL] at h
  obtain ⟨a, b, rfl, ⟨s, rfl, _⟩, c, d, rfl, ⟨r, rfl, _⟩, rfl⟩ := h
  exact ⟨s, r, rfl⟩

theorem keySh : shOf Tryd.prog 9 44 = some (.st [.str, .str]) := by kernel_rfl

theorem names_lifted (os : Os) (started : os.Started) (H : Type) (enc : TypeId × Value → H) :
    ReturnsInHanded {} Tryd.checked os 5 .any (fun w args => (Rows.namesKeysSpec.pre enc Tryd.prog Tryd.f5 [] false w args ∧ laidMetH Tryd.prog Rows.namesKeysRow.laid w) ∧ sizedMet enc Tryd.prog Tryd.f5 (OpenSpec.ofChange Rows.namesKeysSpec) false w args)
      (Rows.namesKeysSpec.post enc Tryd.prog Tryd.f5 false true false false) := by
  refine returnsInHanded_of_change_and (C := Tryd.checked) (X := fun w _ => laidMetH Tryd.prog Rows.namesKeysRow.laid w) (fun _ _ _ hh h => h.of_heap hh) own started (by kernel_rfl) Tryd.func5
    (ChangeSpec.witness_shaped (enc := enc) (C := Tryd.checked) (os := os) (X := fun w _ => laidMetH Tryd.prog Rows.namesKeysRow.laid w) false (tabWorld os) #[.string ⟨#[]⟩, .agg #[.string ⟨#[]⟩, .string ⟨#[]⟩]] 8 rfl (World.shaped_of_RefB (by kernel_rfl) (by kernel_rfl)) (by kernel_rfl) (by kernel_rfl) (by kernel_rfl) (errs_door os _)) ?_
  intro W base args ds gs before hval0 hW _ _ hL _
  have hval : ∀ (j : Nat) t v, Tryd.f5.params[j]? = some t → args[j]? = some v → Value.okWide Tryd.prog W .any base t v := hval0
  have hW' := hW
  obtain ⟨p, q, hA0, hV, rfl, hfz, hnd⟩ := hW
  have hA : DataW.TrodAll enc Tryd.prog W 0 (fun _ => true) true Tryd.f5.params.toList args.toList ds p := hA0
  rw [Tryd.params5] at hA hval
  obtain ⟨v0, v1, d0, d1, p0, p1, rfl, rfl, rfl, h0, h1⟩ := trodAll_two hA
  obtain ⟨rfl, rfl⟩ := trodVars_none hV
  obtain ⟨s0, rfl, rfl, rfl, ws⟩ := ChangeMaps.open_string Tryd.underlying9 (hval 0 9 v0 rfl rfl) h0
  obtain ⟨cs, rfl, _⟩ := okWide_struct Tryd.underlying44 (hval 1 44 v1 rfl rfl)
  obtain ⟨fuel, hf⟩ := id h1
  obtain ⟨xs, k1, k2⟩ := trod_rep fuel 9 _ _ _ _ keySh hf
  obtain ⟨a, b, rfl⟩ := has_key k1
  have hL' := hL
  rw [MakeChecks.laidMetH_plain _ _ _ (by kernel_rfl)] at hL'
  clear hA0 hval0
  simp only [List.append_nil] at hW'
  obtain ⟨⟨sl⟩⟩ := s0
  have k3 : Rep (fun b o => W.cell? ⟨b, o, none⟩) (fun _ => none) (.agg [.str a, .str b]) (.agg cs) := by
    have := k2.agg
    simpa [Value.cells] using this
  have hr : Reps (fun b o => W.cell? ⟨b, o, none⟩) (fun _ => none) [.str sl, .agg [.str a, .str b]] [.string ⟨⟨sl⟩⟩, .agg cs] := Reps.cons (.str sl) (Reps.cons k3 Reps.nil)
  refine (calls_of_apart errG_ok (errs_met hL') (errs_plain W) (law5 sl a b) hr).mono fun e W' he => ?_
  obtain ⟨r, Γ, ρ, rfl, h2, hw⟩ := he
  cases h2
  have hlt : ∀ x ∈ p1, x.block < W.heap.size := fun x hx => hW'.lt x (by simp [hx])
  exact ⟨_, rfl, post_below (pa := p1) (pv := []) hW' (fun _ _ _ => trodAll_mk1 (shut_bool Tryd.underlying4 true))
    (fun sp hsp => trodAll_mk2 (ChangeMaps.shut_string Tryd.underlying9 ws)
      (WideElems.Trod_stays laidOut (by kernel_rfl) (of_decide_eq_true (by kernel_rfl)) h1 (fun x hx => hw.same (hlt x hx)) (fun x hx => hsp x (by simp [hx]))))
    (fun _ _ => rfl) (by simp) hw (ok_one (by kernel_rfl) rfl (okWide_bool_mk Tryd.underlying4 true))⟩

theorem names_holds : Rows.NamesKeysSaid :=
  OpenClaim.holds_of_wide 5 Tryd.f5 rfl rfl rfl rfl rfl rfl rfl ⟨rfl, rfl, rfl, rfl, rfl⟩ rfl rfl rfl rfl rfl (by kernel_rfl) Tryd.func5 (by kernel_rfl)
    (of_decide_eq_true (by kernel_rfl)) (by unfold Func.isWrapper; first | (rw [if_pos (by decide +kernel)]; kernel_rfl) | (rw [if_neg (by decide +kernel)]; exact ⟨rfl, rfl⟩))
    (fun os started H enc _ => names_lifted os started H enc)

theorem names_card_holds : Rows.NamesKeysCardSaid :=
  Claim7.holds_tied_plain_at .later [] [.data, .sentinel, .sentinel, .sentinel, .sentinel, .sentinel, .sentinel, .sentinel, .sentinel, .sentinel, .sentinel, .sentinel, .sentinel, .sentinel, .sentinel, .sentinel, .sentinel, .sentinel, .sentinel, .pinned] true (true, "8faa834bc67af6d0e6510bd05d4a7b22f903464bfe644358826d77d750f728a5") true
    names_holds (fun _ h => by cases h) (by kernel_rfl) (fun _ h => by cases h) namesKeys_row_tie rfl ⟨rfl, rfl⟩ (by kernel_rfl) rfl
    (fun f fn hf hfn => by
      obtain rfl : f = 5 := Option.some.inj ((show Tryd.prog.funcNamed "linkboy/linkboylaw05.NamesKeys" = some 5 by kernel_rfl).symm.trans hf) |>.symm
      obtain rfl : fn = Tryd.f5 := (Option.some.inj (Tryd.func5.symm.trans hfn)).symm
      exact ⟨by kernel_rfl, fun j t ht => by
        rw [Tryd.params5] at ht
        have hm : t ∈ [9, 44] := by simpa using Array.mem_of_getElem? ht
        have hall : ([9, 44].all fun u => !Tryd.prog.wantsStandIn u) = true := by kernel_rfl
        exact (show Tryd.prog.wantsStandIn t = false by simpa using List.all_eq_true.1 hall t hm)⟩)
    (by kernel_rfl)

end Go.Proofs.YtbnfofcbajaiiaaDoor
