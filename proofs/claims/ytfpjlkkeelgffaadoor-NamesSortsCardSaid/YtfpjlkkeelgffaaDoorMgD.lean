import Derived.Test.YtfpjlkkeelgffaaDoorMgC
import Derived.Test.YtfpjlkkeelgffaaDoorMgB
import Derived.Test.YtfpjlkkeelgffaaDoorRows
import Derived.Test.YtfpjlkkeelgffaaDoorTie
import Derived.Test.YtfpjlkkeelgffaaDoorCards
import Derived.Carry
import Derived.ChangeSame
import Derived.ProofKit
import Derived.ChangeSlices
import Derived.WideShapes
import Derived.LaidMore
import Derived.OpenShut
import Derived.SevenTiedAt

/- linkboylaw05.NamesSorts, as the given statement says: at every list of keys it returns true, and the list reads as it did. The listed package variables (an error, tables of Go's library) read as the program's text lays them, which the card ties. -/
section
set_option linter.unusedVariables false
set_option linter.unusedSimpArgs false
set_option maxRecDepth 100000
namespace Go.Proofs.YtfpjlkkeelgffaaDoor
open Go.ChangeShapes Go.WideShapes Go.ChangeAt Go.WideMaps Go.WideElems Go.RowKit
open Am

section
variable {H : Type} {enc : TypeId × Value → H} {P : Program}

/-- What 'post' asks, where the old blocks stand as they stood. -/
theorem post_below {f : Func} {s : ChangeSpec} {apart fresh handsOn again : Bool} {W W' : World} {args : Array Value} {v : Value} {ds gs : List (DataW H)} {before pa pv : List MemPlace}
    (hW : DataW.Whole enc P f.params.toList s.vars apart W args.toList ds gs before)
    (hres : ∀ (b : Nat) (sp : Nat → Bool) (hd : Bool), DataW.TrodAll enc P W' b sp hd f.resultTypes.toList (v.resultList f.resultTypes.size) (s.fn H (ds ++ gs)).results [])
    (hargs : ∀ sp : Nat → Bool, (∀ p ∈ before, sp p.block = true) → DataW.TrodAll enc P W' 0 sp true f.params.toList args.toList (s.fn H (ds ++ gs)).args pa)
    (hvars : ∀ sp : Nat → Bool, (∀ p ∈ before, sp p.block = true) → DataW.TrodVars enc P W' sp s.vars (s.fn H (ds ++ gs)).vars pv)
    (hps : before = pa ++ pv) (hb : Below W.heap.size W W')
    (hok : ∀ (j : Nat) (t : TypeId) (r : Value), f.resultTypes[j]? = some t → (v.resultList f.resultTypes.size)[j]? = some r → Value.okWide P W' .any 0 t r) :
    s.post enc P f apart fresh handsOn again W args v W' := by
  have hlt : ∀ p ∈ before, p.block < W.heap.size := fun p hp => hW.lt p hp
  have hold : ∀ p ∈ before, (fun b => decide (b < W.heap.size)) p.block = true := fun p hp => by simpa using hlt p hp
  refine ⟨ds, gs, before, [], pa, pv, hW, hres _ _ _, hargs _ hold, hvars _ hold, World.keptBut_mono (fun p hp => ⟨hp, ?_⟩) (hb.frame (· ∈ before)), fun _ => ?_⟩
  · rw [hps, List.mem_append] at hp
    exact Or.inr hp
  · obtain ⟨_, _, _, _, _, hz, hn⟩ := hW
    refine ⟨hok, _, _, ([] ++ pa) ++ pv, ⟨[] ++ pa, pv, trodAll_append (hargs _ (fun _ _ => rfl)) (hres _ _ _), hvars _ (fun _ _ => rfl), rfl, ?_, ?_⟩, ?_⟩
    · intro b off hp
      have hin : MemPlace.cell b off ∈ before := by rw [hps]; simpa using hp
      rw [hb.frozen (hlt _ hin)]
      exact hz b off hin
    · intro ha
      have := hn ha
      rw [hps] at this
      simpa using this
    · intro p hp _
      rw [hps]
      simpa using hp
end

theorem own : ownKnob Tryd.prog.godebug = none := by kernel_rfl
theorem laidOut : laidOutB Tryd.prog = true := by kernel_rfl

/-- A listed variable's whole numbers, as values. -/
def litsOf : DataW Unit → List Value
  | .agg l => l.map fun d => match d with
    | .lit (.int k n) => .int k n
    | _ => .bool false
  | _ => []

/-- The world that the door's run leaves, with the library's pinned table laid. -/
noncomputable def tabWorld (os : Os) : World :=
  let w := World.doorLaid Tryd.prog 89 os
  { w with heap := w.heap.modify 2 fun o => match o with
      | .cells _ t fr => .cells (litsOf Rows.laid_unicode_utf8_first).toArray t fr
      | o => o }

theorem words_door (os : Os) (args : Array Value) : laidMetH Tryd.prog Rows.namesSortsRow.laid ((tabWorld os).forCall (fun _ _ => 0) ⟨#[], args, []⟩).memory :=
  laidMetH_of_parts3 (fuel := 8) (laidMet_of_run' 8 (by kernel_rfl) (by kernel_rfl)) (by kernel_rfl) (by kernel_rfl)

noncomputable def keysSh : Sh := match shOf Tryd.prog 9 22 with
  | some (.sl s _) => s
  | _ => .bool
theorem keysShOf : shOf Tryd.prog 9 22 = some (.sl keysSh 2) := by kernel_rfl
theorem keysKd : keysSh.kd = KKy := by kernel_rfl

/-- A list of keys among the arguments. -/
theorem keys_rep {H : Type} {enc : TypeId × Value → H} {W : World} {v : Value} {d : DataW H} {ps : List MemPlace} {a0 : Option Addr} {len cap : Nat} (hv : v = .slice a0 len cap) (h : DataW.Trod enc Tryd.prog W 0 (fun _ => true) true 22 v d ps) :
    ∃ R : List (List PV), rowsOk KKy R = true ∧ Rep (memG W) (fun _ => none) (.sl R.flatten 2 R.length none) v := by
  subst hv
  obtain ⟨fuel, hf⟩ := h
  obtain ⟨xs, h1, h2⟩ := trod_rep fuel 9 _ _ _ _ keysShOf hf
  obtain ⟨rows, rfl, hr⟩ := (by simpa only [Sh.Has] using h1 : ∃ rows : List {r : List PV // r.length = 2}, xs = [.sl (rows.flatMap Subtype.val) 2 rows.length none] ∧ ∀ r ∈ rows, keysSh.Has r.val)
  obtain ⟨k1, k2, k3⟩ := rows_has rows hr
  refine ⟨rows.map Subtype.val, by rw [← keysKd]; exact k1, ?_⟩
  rw [← k2, k3]
  exact h2.2 0 _ _ rfl rfl

theorem sorts_lifted (os : Os) (started : os.Started) (H : Type) (enc : TypeId × Value → H) :
    ReturnsInHanded {} Tryd.checked os 3 .any (fun w args => (Rows.namesSortsSpec.pre enc Tryd.prog Tryd.f3 [] false w args ∧ laidMetH Tryd.prog Rows.namesSortsRow.laid w) ∧ sizedMet enc Tryd.prog Tryd.f3 (OpenSpec.ofChange Rows.namesSortsSpec) false w args)
      (Rows.namesSortsSpec.post enc Tryd.prog Tryd.f3 false true false false) := by
  refine returnsInHanded_of_change_and (C := Tryd.checked) (X := fun w _ => laidMetH Tryd.prog Rows.namesSortsRow.laid w) (fun _ _ _ hh h => h.of_heap hh) own started (by kernel_rfl) Tryd.func3
    (ChangeSpec.witness_shaped (enc := enc) (C := Tryd.checked) (os := os) (X := fun w _ => laidMetH Tryd.prog Rows.namesSortsRow.laid w) false (tabWorld os) #[.slice none 0 0] 8 rfl (World.shaped_of_RefB (by kernel_rfl) (by kernel_rfl)) (by kernel_rfl) (by kernel_rfl) (by kernel_rfl) (words_door os _)) ?_
  intro W base args ds gs before hval0 hW _ _ hL _
  have hval : ∀ (j : Nat) t v, Tryd.f3.params[j]? = some t → args[j]? = some v → Value.okWide Tryd.prog W .any base t v := hval0
  have hW' := hW
  obtain ⟨p, q, hA0, hV, rfl, hfz, hnd⟩ := hW
  have hA : DataW.TrodAll enc Tryd.prog W 0 (fun _ => true) true Tryd.f3.params.toList args.toList ds p := hA0
  rw [Tryd.params3] at hA hval
  obtain ⟨v0, d0, rfl, rfl, h0⟩ := trodAll_one hA
  obtain ⟨rfl, rfl⟩ := trodVars_none hV
  obtain ⟨a0, len, cap, hv0⟩ := okWide_slice Tryd.underlying22 (hval 0 22 v0 rfl rfl)
  obtain ⟨R, hR, hl⟩ := keys_rep hv0 h0
  have hL' := hL
  rw [MakeChecks.laidMetH_plain _ _ _ (by kernel_rfl)] at hL'
  clear hA0 hval0
  simp only [List.append_nil] at hW'
  have hr : Reps (fun b o => W.cell? ⟨b, o, none⟩) (fun _ => none) [.sl R.flatten 2 R.length none] [v0] := Reps.cons hl Reps.nil
  obtain ⟨nn, kk, hlaw⟩ := law_true R hR
  refine (calls_of_apart hlaw hr).mono fun e W' he => ?_
  obtain ⟨r, Γ, ρ, rfl, h2, hw⟩ := he
  cases h2
  have hlt : ∀ x ∈ p, x.block < W.heap.size := fun x hx => hW'.lt x hx
  exact ⟨_, rfl, post_below (pa := p) (pv := []) hW' (fun _ _ _ => trodAll_mk1 (shut_bool Tryd.underlying4 true))
    (fun sp hsp => trodAll_mk1
      (WideElems.Trod_stays laidOut (by kernel_rfl) (of_decide_eq_true (by kernel_rfl)) h0 (fun x hx => hw.same (hlt x hx)) (fun x hx => hsp x hx)))
    (fun _ _ => rfl) (by simp) hw (ok_one (by kernel_rfl) rfl (okWide_bool_mk Tryd.underlying4 true))⟩

theorem fact_in : (Rows.namesSortsRow.inPlace == Tryd.prog.inPlace 3) = true := by kernel_rfl
theorem fact_un : (Rows.namesSortsRow.unfollowed == Tryd.prog.unfollowed 3) = true := by kernel_rfl
theorem fact_re : (Rows.namesSortsRow.recurses == Tryd.prog.recurses 3) = true := by kernel_rfl
theorem fact_na : (Rows.namesSortsRow.named == Tryd.prog.varsNamed 3) = true := by kernel_rfl
theorem fact_wf : Rows.namesSortsRow.wf (OpenSpec.ofChange Rows.namesSortsSpec) = true := by kernel_rfl

/-- What the row says of the program is so: piece by piece (as a whole it is more than the kernel's memory holds). -/
theorem joined : joinedFacts Tryd.prog 3 Tryd.f3 Rows.namesSortsSpec Rows.namesSortsRow = true := by
  unfold joinedFacts
  rw [fact_in, fact_un, fact_re, fact_na, fact_wf]
  kernel_rfl

theorem sorts_holds : Rows.NamesSortsSaid :=
  OpenClaim.holds_of_wide 3 Tryd.f3 rfl rfl rfl rfl rfl rfl rfl ⟨rfl, rfl, rfl, rfl, rfl⟩ rfl rfl rfl rfl rfl (by kernel_rfl) Tryd.func3 joined
    (of_decide_eq_true (by kernel_rfl)) (by unfold Func.isWrapper; first | (rw [if_pos (by decide +kernel)]; kernel_rfl) | (rw [if_neg (by decide +kernel)]; exact ⟨rfl, rfl⟩))
    (fun os started H enc _ => sorts_lifted os started H enc)

theorem sorts_card_holds : Rows.NamesSortsCardSaid :=
  Claim7.holds_tied_plain_at .later [] [.data, .sentinel, .pinned] true (true, "4bd8d56e26553f9f46012ecb19c2af6e420aa42477cb0057a289ffd9b683cca8") false
    sorts_holds (fun _ h => by cases h) (by kernel_rfl) (fun _ h => by cases h) namesSorts_row_tie rfl ⟨rfl, rfl⟩ (by kernel_rfl) rfl
    (fun f fn hf hfn => by
      obtain rfl : f = 3 := Option.some.inj ((show Tryd.prog.funcNamed "linkboy/linkboylaw05.NamesSorts" = some 3 by kernel_rfl).symm.trans hf) |>.symm
      obtain rfl : fn = Tryd.f3 := (Option.some.inj (Tryd.func3.symm.trans hfn)).symm
      exact ⟨by kernel_rfl, fun j t ht => by
        rw [Tryd.params3] at ht
        have hm : t ∈ [22] := by simpa using Array.mem_of_getElem? ht
        have hall : ([22].all fun u => !Tryd.prog.wantsStandIn u) = true := by kernel_rfl
        exact (show Tryd.prog.wantsStandIn t = false by simpa using List.all_eq_true.1 hall t hm)⟩)
    (by kernel_rfl)

end Go.Proofs.YtfpjlkkeelgffaaDoor
end
