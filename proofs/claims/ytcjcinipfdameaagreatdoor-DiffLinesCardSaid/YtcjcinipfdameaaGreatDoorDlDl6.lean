/- linkboylaw26.DiffLines, as the given statement says: at every row of ops it returns true, and the row reads as it did. The listed package variables (the kinds' names, tables of Go's library) read as the program's text lays them, which the card ties. -/
import Derived.Test.YtcjcinipfdameaaGreatDoorDlDl5
import Derived.Test.YtcjcinipfdameaaGreatDoorShk
import Derived.Test.YtcjcinipfdameaaGreatDoorRows
import Derived.Test.YtcjcinipfdameaaGreatDoorTie
import Derived.Test.YtcjcinipfdameaaGreatDoorCards
import Derived.Carry
import Derived.ChangeSame
import Derived.ProofKit
import Derived.ChangeSlices
import Derived.WideShapes
import Derived.LaidMore
import Derived.OpenShut
import Derived.SevenTiedAt
set_option linter.unusedVariables false
set_option linter.unusedSimpArgs false
set_option maxRecDepth 100000
namespace Go.Proofs.YtcjcinipfdameaaGreatDoor
open Go.ChangeShapes Go.WideShapes Go.ChangeAt Go.WideMaps Go.WideElems Go.RowKit
open Am

section
variable {H : Type} {enc : TypeId × Value → H} {P : Program}

/-- What 'post' asks, where the old blocks stand as they stood. -/
theorem post_below {f : Func} {s : ChangeSpec} {apart fresh handsOn again : Bool} {W W' : World} {args : Array Value} {v : Value} {ds gs : List (DataW H)} {before pa pv : List MemPlace}
    (hW : DataW.Whole enc P f.params.toList s.vars apart W args.toList ds gs before)
    (hres : ∀ (b : Nat) (sp : Nat → Bool) (hd : Bool), DataW.TrodAll enc P W' b sp hd f.resultTypes.toList (v.resultList f.resultTypes.size) (s.fn H (ds ++ gs)).results [])
    (hargs : ∀ sp : Nat → Bool, (∀ p ∈ before, sp p.block = true) → DataW.TrodAll enc P W' 0 sp true f.params.toList args.toList (s.fn H (ds ++ gs)).args pa)
    (hvars : ∀ sp : Nat → Bool, (∀ p ∈ before, sp p.block = true) → DataW.TrodVars enc P W' sp s.vars (s.fn H (ds ++ gs)).vars pv)
    (hps : before = pa ++ pv) (hb : Below W.heap.size W W')
    (hok : ∀ (j : Nat) (t : TypeId) (r : Value), f.resultTypes[j]? = some t → (v.resultList f.resultTypes.size)[j]? = some r → Value.okWide P W' .any 0 t r) :
    s.post enc P f apart fresh handsOn again W args v W' := by
  have hlt : ∀ p ∈ before, p.block < W.heap.size := fun p hp => hW.lt p hp
  have hold : ∀ p ∈ before, (fun b => decide (b < W.heap.size)) p.block = true := fun p hp => by simpa using hlt p hp
  refine ⟨ds, gs, before, [], pa, pv, hW, hres _ _ _, hargs _ hold, hvars _ hold, World.keptBut_mono (fun p hp => ⟨hp, ?_⟩) (hb.frame (· ∈ before)), fun _ => ?_⟩
  · rw [hps, List.mem_append] at hp
    exact Or.inr hp
  · obtain ⟨_, _, _, _, _, hz, hn⟩ := hW
    refine ⟨hok, _, _, ([] ++ pa) ++ pv, ⟨[] ++ pa, pv, trodAll_append (hargs _ (fun _ _ => rfl)) (hres _ _ _), hvars _ (fun _ _ => rfl), rfl, ?_, ?_⟩, ?_⟩
    · intro b off hp
      have hin : MemPlace.cell b off ∈ before := by rw [hps]; simpa using hp
      rw [hb.frozen (hlt _ hin)]
      exact hz b off hin
    · intro ha
      have := hn ha
      rw [hps] at this
      simpa using this
    · intro p hp _
      rw [hps]
      simpa using hp
end

theorem own : ownKnob Tryz.prog.godebug = none := by kernel_rfl
theorem laidOut : laidOutB Tryz.prog = true := by kernel_rfl

/-- A listed variable's whole numbers, as values. -/
def litsOf : DataW Unit → List Value
  | .agg l => l.map fun d => match d with
    | .lit (.int k n) => .int k n
    | _ => .bool false
  | _ => []

/-- The world that the door's run leaves, with the library's pinned table laid. -/
noncomputable def tabWorld (os : Os) : World :=
  let w := World.doorLaid Tryz.prog 164 os
  { w with heap := w.heap.modify 1 fun o => match o with
      | .cells _ t fr => .cells (litsOf Rows.laid_unicode_utf8_first).toArray t fr
      | o => o }

theorem words_door (os : Os) (args : Array Value) : laidMetH Tryz.prog Rows.diffLinesRow.laid ((tabWorld os).forCall (fun _ _ => 0) ⟨#[], args, []⟩).memory :=
  laidMetH_of_parts3 (fuel := 8) (laidMet_of_run' 8 (by kernel_rfl) (by kernel_rfl)) (by kernel_rfl) (by kernel_rfl)

theorem words_plain {W : World} (h : laidMet Tryz.prog Rows.diffLinesRow.laid W) : PlainAt rowG W := by
  have h1 := h.filter (fun x => x.1 == "linkboy/txn.words")
  have e : Rows.diffLinesRow.laid.filter (fun x => x.1 == "linkboy/txn.words") = [("linkboy/txn.words", .agg (txnWordsC.map fun s => .lit (.string s)))] := by kernel_rfl
  rw [e] at h1
  obtain ⟨ps, ⟨g0, t0, cs0, f0, p0, q0, hg0, ht0, hv0, hd0, _, _⟩, _, _⟩ := h1
  have e1 : Tryz.prog.globalNamed "linkboy/txn.words" = some 0 := by kernel_rfl
  have e2 : (Tryz.prog.globals[0]?).map (·.type) = some 99 := by kernel_rfl
  obtain rfl := Option.some.inj (e1.symm.trans hg0)
  obtain rfl := Option.some.inj (e2.symm.trans ht0)
  obtain ⟨xs, m, rfl, hx, hlen, hn, hel⟩ := DataW.trod_array Tryz.underlying99 hd0
  have c9 : Tryz.prog.cellsOf 9 = 1 := by kernel_rfl
  have c7 : Tryz.prog.cellsOf 99 = 7 := by kernel_rfl
  rw [c7] at hlen
  rw [c9] at hel
  have hx1 : txnWordsC.map (fun s => (DataW.lit (.string s) : DataW Unit)) = xs.map (·.1) := by
    simp only [Prod.mk.injEq, DataW.agg.injEq] at hx
    exact hx.1
  intro g cells hg
  unfold rowG at hg
  cases hb : Nat.beq g 0 with
  | false =>
    rw [hb] at hg
    simp only [cond_false] at hg
    cases hg
  | true =>
    rw [hb] at hg
    cases hg
    have hb := Nat.eq_of_beq_eq_true hb
    subst hb
    have key : ∀ (j : Nat) (s : List UInt8), txnWordsC[j]? = some s → W.cell? ⟨0, j, none⟩ = some (.string ⟨⟨s⟩⟩) := by
      intro j s hs
      have hj : j < 7 := (List.getElem?_eq_some_iff.1 hs).1
      have h1 := hel j hj
      have hxj : ∃ y, xs[j]? = some y ∧ y.1 = .lit (.string s) := by
        have := congrArg (·[j]?) hx1
        simp only [List.getElem?_map, hs, Option.map_some] at this
        cases hy : xs[j]? with
        | none => rw [hy] at this; cases this
        | some y => rw [hy] at this; simp only [Option.map_some, Option.some.injEq] at this; exact ⟨y, rfl, this.symm⟩
      obtain ⟨y, hy, hy1⟩ := hxj
      rw [hy, Nat.mul_one] at h1
      obtain ⟨b, hb1, hb2, _⟩ := DataW.trod_string Tryz.underlying9 h1
      have hbs : b.data.toList = s := by
        rw [hb2] at hy1
        simpa using hy1
      have hc : cs0[j]? = some (.string b) := by
        have := congrArg (·[0]?) hb1
        simp only [List.getElem?_take, List.getElem?_drop] at this
        simpa using this
      rw [World.var?_cell hg0 hv0 j, hc]
      obtain ⟨⟨l⟩⟩ := b
      simp only at hbs
      subst hbs
      rfl
    refine ⟨fun j => .string ⟨⟨txnWordsC.getD j []⟩⟩, fun j x hx => ?_⟩
    simp only [List.getElem?_map, Option.map_eq_some_iff] at hx
    obtain ⟨s, hs, rfl⟩ := hx
    have hd : txnWordsC.getD j [] = s := by rw [List.getD_eq_getElem?_getD, hs]; rfl
    dsimp only
    rw [hd]
    exact ⟨key j s hs, rfl, .str _, fun k t e => (by cases e)⟩

noncomputable def opSh : Sh := match shOf Tryz.prog 9 22 with
  | some (.sl s _) => s
  | _ => .bool
theorem rowSh : shOf Tryz.prog 9 22 = some (.sl opSh 38) := by kernel_rfl
theorem rowKd : opSh.kd = KO := by kernel_rfl

/-- A row of ops among the arguments. -/
theorem ops_rep {H : Type} {enc : TypeId × Value → H} {W : World} {v : Value} {d : DataW H} {ps : List MemPlace} {a0 : Option Addr} {len cap : Nat} (hv : v = .slice a0 len cap) (h : DataW.Trod enc Tryz.prog W 0 (fun _ => true) true 22 v d ps) :
    ∃ R : List (List PV), rowsOk KO R = true ∧ Rep (memG W) (fun _ => none) (.sl R.flatten 38 R.length none) v := by
  subst hv
  obtain ⟨fuel, hf⟩ := h
  obtain ⟨xs, h1, h2⟩ := trod_rep fuel 9 _ _ _ _ rowSh hf
  obtain ⟨rows, rfl, hr⟩ := (by simpa only [Sh.Has] using h1 : ∃ rows : List {r : List PV // r.length = 38}, xs = [.sl (rows.flatMap Subtype.val) 38 rows.length none] ∧ ∀ r ∈ rows, opSh.Has r.val)
  obtain ⟨k1, k2, k3⟩ := rows_has rows hr
  refine ⟨rows.map Subtype.val, by rw [← rowKd]; exact k1, ?_⟩
  rw [← k2, k3]
  exact h2.2 0 _ _ rfl rfl

theorem lines_lifted (os : Os) (started : os.Started) (H : Type) (enc : TypeId × Value → H) :
    ReturnsInHanded {} Tryz.checked os 3 .any (fun w args => (Rows.diffLinesSpec.pre enc Tryz.prog Tryz.f3 [] false w args ∧ laidMetH Tryz.prog Rows.diffLinesRow.laid w) ∧ sizedMet enc Tryz.prog Tryz.f3 (OpenSpec.ofChange Rows.diffLinesSpec) false w args)
      (Rows.diffLinesSpec.post enc Tryz.prog Tryz.f3 false true false false) := by
  refine returnsInHanded_of_change_and (C := Tryz.checked) (X := fun w _ => laidMetH Tryz.prog Rows.diffLinesRow.laid w) (fun _ _ _ hh h => h.of_heap hh) own started (by kernel_rfl) Tryz.func3
    (ChangeSpec.witness_shaped (enc := enc) (C := Tryz.checked) (os := os) (X := fun w _ => laidMetH Tryz.prog Rows.diffLinesRow.laid w) false (tabWorld os) #[.slice none 0 0] 8 rfl (World.shaped_of_RefB (by kernel_rfl) (by kernel_rfl)) (by kernel_rfl) (by kernel_rfl) (by kernel_rfl) (words_door os _)) ?_
  intro W base args ds gs before hval0 hW _ _ hL _
  have hval : ∀ (j : Nat) t v, Tryz.f3.params[j]? = some t → args[j]? = some v → Value.okWide Tryz.prog W .any base t v := hval0
  have hW' := hW
  obtain ⟨p, q, hA0, hV, rfl, hfz, hnd⟩ := hW
  have hA : DataW.TrodAll enc Tryz.prog W 0 (fun _ => true) true Tryz.f3.params.toList args.toList ds p := hA0
  rw [Tryz.params3] at hA hval
  obtain ⟨v0, d0, rfl, rfl, h0⟩ := trodAll_one hA
  obtain ⟨rfl, rfl⟩ := trodVars_none hV
  obtain ⟨a0, len, cap, hv0⟩ := okWide_slice Tryz.underlying22 (hval 0 22 v0 rfl rfl)
  obtain ⟨R, hR, hl⟩ := ops_rep hv0 h0
  have hL' := hL
  rw [MakeChecks.laidMetH_plain _ _ _ (by kernel_rfl)] at hL'
  clear hA0 hval0
  simp only [List.append_nil] at hW'
  have hr : Reps (fun b o => W.cell? ⟨b, o, none⟩) (fun _ => none) [.sl R.flatten 38 R.length none] [v0] := Reps.cons hl Reps.nil
  refine (calls_of_apart rowG_ok (words_plain hL') (law_true R hR) hr).mono fun e W' he => ?_
  obtain ⟨r, Γ, ρ, rfl, h2, hw⟩ := he
  cases h2
  have hlt : ∀ x ∈ p, x.block < W.heap.size := fun x hx => hW'.lt x hx
  exact ⟨_, rfl, post_below (pa := p) (pv := []) hW' (fun _ _ _ => trodAll_mk1 (shut_bool Tryz.underlying4 true))
    (fun sp hsp => trodAll_mk1
      (WideElems.Trod_stays laidOut (by kernel_rfl) (of_decide_eq_true (by kernel_rfl)) h0 (fun x hx => hw.same (hlt x hx)) (fun x hx => hsp x hx)))
    (fun _ _ => rfl) (by simp) hw (ok_one (by kernel_rfl) rfl (okWide_bool_mk Tryz.underlying4 true))⟩

theorem fact_in : (Rows.diffLinesRow.inPlace == Tryz.prog.inPlace 3) = true := by kernel_rfl
theorem fact_un : (Rows.diffLinesRow.unfollowed == Tryz.prog.unfollowed 3) = true := by kernel_rfl
theorem fact_re : (Rows.diffLinesRow.recurses == Tryz.prog.recurses 3) = true := by kernel_rfl
theorem fact_na : (Rows.diffLinesRow.named == Tryz.prog.varsNamed 3) = true := by kernel_rfl
theorem fact_wf : Rows.diffLinesRow.wf (OpenSpec.ofChange Rows.diffLinesSpec) = true := by kernel_rfl

/-- What the row says of the program is so: piece by piece (as a whole it is more than the kernel's memory holds). -/
theorem joined : joinedFacts Tryz.prog 3 Tryz.f3 Rows.diffLinesSpec Rows.diffLinesRow = true := by
  unfold joinedFacts
  rw [fact_in, fact_un, fact_re, fact_na, fact_wf]
  kernel_rfl

theorem diffLines_holds : Rows.DiffLinesSaid :=
  OpenClaim.holds_of_wide 3 Tryz.f3 rfl rfl rfl rfl rfl rfl rfl ⟨rfl, rfl, rfl, rfl, rfl⟩ rfl rfl rfl rfl rfl (by kernel_rfl) Tryz.func3 joined
    (of_decide_eq_true (by kernel_rfl)) (by unfold Func.isWrapper; first | (rw [if_pos (by decide +kernel)]; kernel_rfl) | (rw [if_neg (by decide +kernel)]; exact ⟨rfl, rfl⟩))
    (fun os started H enc _ => lines_lifted os started H enc)

theorem diffLines_card_holds : Rows.DiffLinesCardSaid :=
  Claim7.holds_tied_plain_at .later [] [.data, .data, .pinned] true (true, "88758856a8810ed836f2197959cb5af2c0b274ff561d11bc1235b2ff70e57137") false
    diffLines_holds (fun _ h => by cases h) (by kernel_rfl) (fun _ h => by cases h) diffLines_row_tie rfl ⟨rfl, rfl⟩ (by kernel_rfl) rfl
    (fun f fn hf hfn => by
      obtain rfl : f = 3 := Option.some.inj ((show Tryz.prog.funcNamed "linkboy/linkboylaw26.DiffLines" = some 3 by kernel_rfl).symm.trans hf) |>.symm
      obtain rfl : fn = Tryz.f3 := (Option.some.inj (Tryz.func3.symm.trans hfn)).symm
      exact ⟨by kernel_rfl, fun j t ht => by
        rw [Tryz.params3] at ht
        have hm : t ∈ [22] := by simpa using Array.mem_of_getElem? ht
        have hall : ([22].all fun u => !Tryz.prog.wantsStandIn u) = true := by kernel_rfl
        exact (show Tryz.prog.wantsStandIn t = false by simpa using List.all_eq_true.1 hall t hm)⟩)
    (by kernel_rfl)

end Go.Proofs.YtcjcinipfdameaaGreatDoor
