/- linkboylaw30.FlowsLive, as the given statement says: at every two flows and every number it returns true, and all read as they did. The listed package variables (errors, two tables of Go's library) read as the program's text lays them, which the card ties. -/
import Derived.Test.YtbeoagcldeolhaaDoorFlFx4
import Derived.Test.YtbeoagcldeolhaaDoorFlLaidN
import Derived.Test.YtbeoagcldeolhaaDoorRead
import Derived.Test.YtbeoagcldeolhaaDoorRows
import Derived.Test.YtbeoagcldeolhaaDoorTie
import Derived.Test.YtbeoagcldeolhaaDoorCards
import Derived.Carry
import Derived.ChangeSame
import Derived.ProofKit
import Derived.ChangeSlices
import Derived.WideShapes
import Derived.LaidMore
import Derived.OpenShut
import Derived.SevenTiedAt
set_option linter.unusedVariables false
set_option linter.unusedSimpArgs false
set_option maxRecDepth 100000
namespace Go.Proofs.YtbeoagcldeolhaaDoor
open Go.ChangeShapes Go.WideShapes Go.ChangeAt Go.WideMaps Go.WideElems Go.RowKit
open Am

section
variable {H : Type} {enc : TypeId × Value → H} {P : Program}

/-- What 'post' asks, where the old blocks stand as they stood. -/
theorem post_below {f : Func} {s : ChangeSpec} {apart fresh handsOn again : Bool} {W W' : World} {args : Array Value} {v : Value} {ds gs : List (DataW H)} {before pa pv : List MemPlace}
    (hW : DataW.Whole enc P f.params.toList s.vars apart W args.toList ds gs before)
    (hres : ∀ (b : Nat) (sp : Nat → Bool) (hd : Bool), DataW.TrodAll enc P W' b sp hd f.resultTypes.toList (v.resultList f.resultTypes.size) (s.fn H (ds ++ gs)).results [])
    (hargs : ∀ sp : Nat → Bool, (∀ p ∈ before, sp p.block = true) → DataW.TrodAll enc P W' 0 sp true f.params.toList args.toList (s.fn H (ds ++ gs)).args pa)
    (hvars : ∀ sp : Nat → Bool, (∀ p ∈ before, sp p.block = true) → DataW.TrodVars enc P W' sp s.vars (s.fn H (ds ++ gs)).vars pv)
    (hps : before = pa ++ pv) (hb : Below W.heap.size W W')
    (hok : ∀ (j : Nat) (t : TypeId) (r : Value), f.resultTypes[j]? = some t → (v.resultList f.resultTypes.size)[j]? = some r → Value.okWide P W' .any 0 t r) :
    s.post enc P f apart fresh handsOn again W args v W' := by
  have hlt : ∀ p ∈ before, p.block < W.heap.size := fun p hp => hW.lt p hp
  have hold : ∀ p ∈ before, (fun b => decide (b < W.heap.size)) p.block = true := fun p hp => by simpa using hlt p hp
  refine ⟨ds, gs, before, [], pa, pv, hW, hres _ _ _, hargs _ hold, hvars _ hold, World.keptBut_mono (fun p hp => ⟨hp, ?_⟩) (hb.frame (· ∈ before)), fun _ => ?_⟩
  · rw [hps, List.mem_append] at hp
    exact Or.inr hp
  · obtain ⟨_, _, _, _, _, hz, hn⟩ := hW
    refine ⟨hok, _, _, ([] ++ pa) ++ pv, ⟨[] ++ pa, pv, trodAll_append (hargs _ (fun _ _ => rfl)) (hres _ _ _), hvars _ (fun _ _ => rfl), rfl, ?_, ?_⟩, ?_⟩
    · intro b off hp
      have hin : MemPlace.cell b off ∈ before := by rw [hps]; simpa using hp
      rw [hb.frozen (hlt _ hin)]
      exact hz b off hin
    · intro ha
      have := hn ha
      rw [hps] at this
      simpa using this
    · intro p hp _
      rw [hps]
      simpa using hp
end

theorem own : ownKnob Tryd.prog.godebug = none := by kernel_rfl
theorem laidOut : laidOutB Tryd.prog = true := by kernel_rfl

/-- The values of a table. -/
def litsOf : DataW Unit → List Value
  | .agg l => l.map fun d => match d with
    | .lit (.int k n) => .int k n
    | _ => .bool false
  | _ => []

/-- The world that the door's run leaves, with the library's pinned table laid. -/
noncomputable def tabWorld (os : Os) : World :=
  let w := World.doorLaid Tryd.prog 148 os
  { w with heap := w.heap.modify 5 fun o => match o with
      | .cells _ t fr => .cells (litsOf Rows.laid_unicode_utf8_first).toArray t fr
      | o => o }

theorem errs_door (os : Os) (args : Array Value) : laidMetH Tryd.prog Rows.flowsLiveRow.laid ((tabWorld os).forCall (fun _ _ => 0) ⟨#[], args, []⟩).memory :=
  laidMetH_of_parts3 (fuel := 8) (laidMet_of_run' 8 (by kernel_rfl) (by kernel_rfl)) (by kernel_rfl) (by kernel_rfl)

theorem has_bytes8 : ∀ (n : Nat) (xs : List PV), Sh.HasL (List.replicate n (.int .u8)) xs → ∃ l : List Int, l.length = n ∧ xs = l.map (.int .u8) ∧ ∀ x ∈ l, 0 ≤ x ∧ x < 256
  | 0, xs, h => by
    have h : xs = [] := (by simpa only [List.replicate_zero, Sh.HasL] using h)
    subst h
    exact ⟨[], rfl, rfl, fun x hx => by cases hx⟩
  | n + 1, xs, h => by
    obtain ⟨a, b, rfl, h1, h2⟩ := (by simpa only [List.replicate_succ, Sh.HasL] using h : ∃ a b, xs = a ++ b ∧ (Sh.int .u8).Has a ∧ Sh.HasL (List.replicate n (.int .u8)) b)
    obtain ⟨k, rfl, hk⟩ := (by simpa only [Sh.Has] using h1 : ∃ n, a = [.int .u8 n] ∧ (Lit.int .u8 n).wf = true)
    obtain ⟨l, e1, rfl, e2⟩ := has_bytes8 n b h2
    refine ⟨k :: l, by simp [e1], rfl, fun x hx => ?_⟩
    rcases List.mem_cons.1 hx with rfl | hx
    · simp only [Lit.wf, Bool.and_eq_true, decide_eq_true_eq] at hk
      have : IntKind.min .u8 = 0 := rfl
      have : IntKind.max .u8 = 255 := rfl
      omega
    · exact e2 x hx

def ptSh : Sh := .st [.st [.bool, .st (List.replicate 16 (.int .u8))], .int .i64]
def flSh : Sh := .st [.int .i64, ptSh, ptSh, ptSh, .st [.str, .str], .str, .bool, .int .i64, .bool]

theorem has_pt {xs : List PV} (h : ptSh.Has xs) : ∃ p : Pt, xs = p.cs ∧ Ok8 p.ad.b := by
  simp only [ptSh, Sh.Has, Sh.HasL] at h
  obtain ⟨a, b, rfl, ⟨s, c, rfl, ⟨s', rfl⟩, d, e, rfl, h1, rfl⟩, f, g, rfl, ⟨po, rfl, _⟩, rfl⟩ := h
  obtain ⟨l, hl, rfl, hb⟩ := has_bytes8 16 d h1
  match l, hl with
  | [b0, b1, b2, b3, b4, b5, b6, b7, b8, b9, b10, b11, b12, b13, b14, b15], _ =>
    refine ⟨⟨⟨s', fun i => [b0, b1, b2, b3, b4, b5, b6, b7, b8, b9, b10, b11, b12, b13, b14, b15].getD i 0⟩, po⟩, rfl, fun i hi => ?_⟩
    have hlt : i < [b0, b1, b2, b3, b4, b5, b6, b7, b8, b9, b10, b11, b12, b13, b14, b15].length := hi
    have : [b0, b1, b2, b3, b4, b5, b6, b7, b8, b9, b10, b11, b12, b13, b14, b15].getD i 0 = [b0, b1, b2, b3, b4, b5, b6, b7, b8, b9, b10, b11, b12, b13, b14, b15][i] := by
      rw [List.getD_eq_getElem?_getD, List.getElem?_eq_getElem hlt]; rfl
    simp only
    rw [this]
    exact hb _ (List.getElem_mem hlt)

theorem wf64 {n : Int} (h : (Lit.int .i64 n).wf = true) : in64 n = true := by
  simp only [Lit.wf, Bool.and_eq_true, decide_eq_true_eq] at h
  have h1 : IntKind.min .i64 = -9223372036854775808 := rfl
  have h2 : IntKind.max .i64 = 9223372036854775807 := rfl
  unfold in64
  simp only [Bool.and_eq_true, decide_eq_true_eq]
  omega

theorem has_fl {xs : List PV} (h : flSh.Has xs) : ∃ f : Flw, xs = f.cs ∧ Ok8 f.client.ad.b ∧ Ok8 f.front.ad.b ∧ in64 f.last = true := by
  simp only [flSh, Sh.Has, Sh.HasL] at h
  obtain ⟨_, _, rfl, ⟨pr, rfl, _⟩, c, _, rfl, hc, fr, _, rfl, hf, ba, _, rfl, hb, _, _, rfl, ⟨_, _, rfl, ⟨k1, rfl, _⟩, _, _, rfl, ⟨k2, rfl, _⟩, rfl⟩, _, _, rfl, ⟨nm, rfl, _⟩, _, _, rfl, ⟨lo, rfl⟩, _, _, rfl, ⟨la, rfl, hla⟩, _, _, rfl, ⟨cl, rfl⟩, rfl⟩ := h
  obtain ⟨c, rfl, c2⟩ := has_pt hc
  obtain ⟨fr, rfl, f2⟩ := has_pt hf
  obtain ⟨ba, rfl, b2⟩ := has_pt hb
  exact ⟨⟨pr, c, fr, ba, ⟨k1, k2⟩, nm, lo, la, cl⟩, by simp [Flw.cs, Ky.cs, vi], c2, f2, wf64 hla⟩

theorem flowSh : shOf Tryd.prog 9 30 = some flSh := by kernel_rfl

theorem flows_lifted (os : Os) (started : os.Started) (H : Type) (enc : TypeId × Value → H) :
    ReturnsInHanded {} Tryd.checked os 3 .any (fun w args => (Rows.flowsLiveSpec.pre enc Tryd.prog Tryd.f3 [] false w args ∧ laidMetH Tryd.prog Rows.flowsLiveRow.laid w) ∧ sizedMet enc Tryd.prog Tryd.f3 (OpenSpec.ofChange Rows.flowsLiveSpec) false w args)
      (Rows.flowsLiveSpec.post enc Tryd.prog Tryd.f3 false true false false) := by
  refine returnsInHanded_of_change_and (C := Tryd.checked) (X := fun w _ => laidMetH Tryd.prog Rows.flowsLiveRow.laid w) (fun _ _ _ hh h => h.of_heap hh) own started (by kernel_rfl) Tryd.func3
    (ChangeSpec.witness_shaped (enc := enc) (C := Tryd.checked) (os := os) (X := fun w _ => laidMetH Tryd.prog Rows.flowsLiveRow.laid w) false (tabWorld os) #[.agg #[.int .i64 0, .bool false, .int .u8 0, .int .u8 0, .int .u8 0, .int .u8 0, .int .u8 0, .int .u8 0, .int .u8 0, .int .u8 0, .int .u8 0, .int .u8 0, .int .u8 0, .int .u8 0, .int .u8 0, .int .u8 0, .int .u8 0, .int .u8 0, .int .i64 0, .bool false, .int .u8 0, .int .u8 0, .int .u8 0, .int .u8 0, .int .u8 0, .int .u8 0, .int .u8 0, .int .u8 0, .int .u8 0, .int .u8 0, .int .u8 0, .int .u8 0, .int .u8 0, .int .u8 0, .int .u8 0, .int .u8 0, .int .i64 0, .bool false, .int .u8 0, .int .u8 0, .int .u8 0, .int .u8 0, .int .u8 0, .int .u8 0, .int .u8 0, .int .u8 0, .int .u8 0, .int .u8 0, .int .u8 0, .int .u8 0, .int .u8 0, .int .u8 0, .int .u8 0, .int .u8 0, .int .i64 0, .string ⟨#[]⟩, .string ⟨#[]⟩, .string ⟨#[]⟩, .bool false, .int .i64 0, .bool false], .agg #[.int .i64 0, .bool false, .int .u8 0, .int .u8 0, .int .u8 0, .int .u8 0, .int .u8 0, .int .u8 0, .int .u8 0, .int .u8 0, .int .u8 0, .int .u8 0, .int .u8 0, .int .u8 0, .int .u8 0, .int .u8 0, .int .u8 0, .int .u8 0, .int .i64 0, .bool false, .int .u8 0, .int .u8 0, .int .u8 0, .int .u8 0, .int .u8 0, .int .u8 0, .int .u8 0, .int .u8 0, .int .u8 0, .int .u8 0, .int .u8 0, .int .u8 0, .int .u8 0, .int .u8 0, .int .u8 0, .int .u8 0, .int .i64 0, .bool false, .int .u8 0, .int .u8 0, .int .u8 0, .int .u8 0, .int .u8 0, .int .u8 0, .int .u8 0, .int .u8 0, .int .u8 0, .int .u8 0, .int .u8 0, .int .u8 0, .int .u8 0, .int .u8 0, .int .u8 0, .int .u8 0, .int .i64 0, .string ⟨#[]⟩, .string ⟨#[]⟩, .string ⟨#[]⟩, .bool false, .int .i64 0, .bool false], .int .i64 0] 8 rfl (World.shaped_of_RefB (by kernel_rfl) (by kernel_rfl)) (by kernel_rfl) (by kernel_rfl) (by kernel_rfl) (errs_door os _)) ?_
  intro W base args ds gs before hval0 hW _ _ hL _
  have hval : ∀ (j : Nat) t v, Tryd.f3.params[j]? = some t → args[j]? = some v → Value.okWide Tryd.prog W .any base t v := hval0
  have hW' := hW
  obtain ⟨p, q, hA0, hV, rfl, hfz, hnd⟩ := hW
  have hA : DataW.TrodAll enc Tryd.prog W 0 (fun _ => true) true Tryd.f3.params.toList args.toList ds p := hA0
  rw [Tryd.params3] at hA hval
  obtain ⟨v0, v1, v2, d0, d1, d2, p0, p1, p2, rfl, rfl, rfl, h0, h1, h2⟩ := trodAll_three hA
  obtain ⟨rfl, rfl⟩ := trodVars_none hV
  obtain ⟨cs0, rfl, _⟩ := okWide_struct Tryd.underlying30 (hval 0 30 v0 rfl rfl)
  obtain ⟨cs1, rfl, _⟩ := okWide_struct Tryd.underlying30 (hval 1 30 v1 rfl rfl)
  obtain ⟨n, rfl, rfl, rfl, wn⟩ := open_int Tryd.underlying3 (hval 2 3 v2 rfl rfl) h2
  obtain ⟨fuel0, hf0⟩ := id h0
  obtain ⟨fuel1, hf1⟩ := id h1
  obtain ⟨xs0, k1, k2⟩ := trod_rep fuel0 9 _ _ _ _ flowSh hf0
  obtain ⟨xs1, k3, k4⟩ := trod_rep fuel1 9 _ _ _ _ flowSh hf1
  obtain ⟨f, rfl, f1, f2, f3⟩ := has_fl k1
  obtain ⟨g, rfl, g1, g2, g3⟩ := has_fl k3
  clear hA0 hval0
  simp only [List.append_nil] at hW'
  have r0 : Rep (fun b o => W.cell? ⟨b, o, none⟩) (fun _ => none) (.agg f.cs) (.agg cs0) := by
    have := k2.agg
    simpa [Value.cells] using this
  have r1 : Rep (fun b o => W.cell? ⟨b, o, none⟩) (fun _ => none) (.agg g.cs) (.agg cs1) := by
    have := k4.agg
    simpa [Value.cells] using this
  have hr : Reps (fun b o => W.cell? ⟨b, o, none⟩) (fun _ => none) [.agg f.cs, .agg g.cs, .int .i64 n] [.agg cs0, .agg cs1, .int .i64 n] := Reps.cons r0 (Reps.cons r1 (Reps.cons (.int _ _) Reps.nil))
  refine (calls_of_apart (flows_law f g n f1 g1 f2 g2 f3 (wf64 wn)) hr).mono fun e W' he => ?_
  obtain ⟨r, Γ, ρ, rfl, hb, hw⟩ := he
  cases hb
  have hlt0 : ∀ x ∈ p0, x.block < W.heap.size := fun x hx => hW'.lt x (by simp [hx])
  have hlt1 : ∀ x ∈ p1, x.block < W.heap.size := fun x hx => hW'.lt x (by simp [hx])
  exact ⟨_, rfl, post_below (pa := p0 ++ (p1 ++ [])) (pv := []) hW' (fun _ _ _ => trodAll_mk1 (shut_bool Tryd.underlying4 true))
    (fun sp hsp => trodAll_mk3
        (WideElems.Trod_stays laidOut (by kernel_rfl) (of_decide_eq_true (by kernel_rfl)) h0 (fun x hx => hw.same (hlt0 x hx)) (fun x hx => hsp x (by simp [hx])))
        (WideElems.Trod_stays laidOut (by kernel_rfl) (of_decide_eq_true (by kernel_rfl)) h1 (fun x hx => hw.same (hlt1 x hx)) (fun x hx => hsp x (by simp [hx])))
        (shut_int Tryd.underlying3 wn))
    (fun _ _ => rfl) (by simp) hw (ok_one (by kernel_rfl) rfl (okWide_bool_mk Tryd.underlying4 true))⟩

theorem flows_holds : Rows.FlowsLiveSaid :=
  OpenClaim.holds_of_wide 3 Tryd.f3 rfl rfl rfl rfl rfl rfl rfl ⟨rfl, rfl, rfl, rfl, rfl⟩ rfl rfl rfl rfl rfl (by kernel_rfl) Tryd.func3 (by kernel_rfl)
    (of_decide_eq_true (by kernel_rfl)) (by unfold Func.isWrapper; first | (rw [if_pos (by decide +kernel)]; kernel_rfl) | (rw [if_neg (by decide +kernel)]; exact ⟨rfl, rfl⟩))
    (fun os started H enc _ => flows_lifted os started H enc)

theorem flows_card_holds : Rows.FlowsLiveCardSaid :=
  Claim7.holds_tied_plain_at .later [] [.data, .sentinel, .sentinel, .sentinel, .pinned] true (true, "eeb0b1925b075e6c170350d0a0038aedb9f688a0e6ec7745f8dcd1a229b7dde5") false
    flows_holds (fun _ h => by cases h) (by kernel_rfl) (fun _ h => by cases h) flowsLive_row_tie rfl ⟨rfl, rfl⟩ (by kernel_rfl) rfl
    (fun f fn hf hfn => by
      obtain rfl : f = 3 := Option.some.inj ((show Tryd.prog.funcNamed "linkboy/linkboylaw30.FlowsLive" = some 3 by kernel_rfl).symm.trans hf) |>.symm
      obtain rfl : fn = Tryd.f3 := (Option.some.inj (Tryd.func3.symm.trans hfn)).symm
      exact ⟨by kernel_rfl, fun j t ht => by
        rw [Tryd.params3] at ht
        have hm : t ∈ [30, 30, 3] := by simpa using Array.mem_of_getElem? ht
        have hall : ([30, 30, 3].all fun u => !Tryd.prog.wantsStandIn u) = true := by kernel_rfl
        exact (show Tryd.prog.wantsStandIn t = false by simpa using List.all_eq_true.1 hall t hm)⟩)
    (by kernel_rfl)

end Go.Proofs.YtbeoagcldeolhaaDoor
