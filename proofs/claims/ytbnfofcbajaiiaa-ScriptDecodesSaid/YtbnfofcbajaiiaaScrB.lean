/- linkboylaw34.ScriptDecodes, as the given statement says: at every input it returns true, and the input reads as it did. No condition beyond the given row. -/
import Derived.Test.YtbnfofcbajaiiaaScrA
import Derived.Test.YtbnfofcbajaiiaaRows
import Derived.Below
import Derived.Carry
import Derived.ChangeSame
import Derived.ProofKit
import Derived.ChangeSlices
import Derived.WideShapes
set_option linter.unusedVariables false
set_option linter.unusedSimpArgs false
set_option maxRecDepth 100000
namespace Go.Proofs.Ytbnfofcbajaiiaa
open Go.ChangeShapes Go.WideShapes Go.ChangeAt Go.RowKit
open Am

section
variable {H : Type} {enc : TypeId × Value → H} {P : Program}

/-- What 'post' asks, where the old blocks stand as they stood. -/
theorem post_below {f : Func} {s : ChangeSpec} {apart fresh handsOn again : Bool} {W W' : World} {args : Array Value} {v : Value} {ds gs : List (DataW H)} {before pa pv : List MemPlace}
    (hW : DataW.Whole enc P f.params.toList s.vars apart W args.toList ds gs before)
    (hres : ∀ (b : Nat) (sp : Nat → Bool) (hd : Bool), DataW.TrodAll enc P W' b sp hd f.resultTypes.toList (v.resultList f.resultTypes.size) (s.fn H (ds ++ gs)).results [])
    (hargs : ∀ sp : Nat → Bool, (∀ p ∈ before, sp p.block = true) → DataW.TrodAll enc P W' 0 sp true f.params.toList args.toList (s.fn H (ds ++ gs)).args pa)
    (hvars : ∀ sp : Nat → Bool, (∀ p ∈ before, sp p.block = true) → DataW.TrodVars enc P W' sp s.vars (s.fn H (ds ++ gs)).vars pv)
    (hps : before = pa ++ pv) (hb : Below W.heap.size W W')
    (hok : ∀ (j : Nat) (t : TypeId) (r : Value), f.resultTypes[j]? = some t → (v.resultList f.resultTypes.size)[j]? = some r → Value.okWide P W' .any 0 t r) :
    s.post enc P f apart fresh handsOn again W args v W' := by
  have hlt : ∀ p ∈ before, p.block < W.heap.size := fun p hp => hW.lt p hp
  have hold : ∀ p ∈ before, (fun b => decide (b < W.heap.size)) p.block = true := fun p hp => by simpa using hlt p hp
  refine ⟨ds, gs, before, [], pa, pv, hW, hres _ _ _, hargs _ hold, hvars _ hold, World.keptBut_mono (fun p hp => ⟨hp, ?_⟩) (hb.frame (· ∈ before)), fun _ => ?_⟩
  · rw [hps, List.mem_append] at hp
    exact Or.inr hp
  · obtain ⟨_, _, _, _, _, hz, hn⟩ := hW
    refine ⟨hok, _, _, ([] ++ pa) ++ pv, ⟨[] ++ pa, pv, trodAll_append (hargs _ (fun _ _ => rfl)) (hres _ _ _), hvars _ (fun _ _ => rfl), rfl, ?_, ?_⟩, ?_⟩
    · intro b off hp
      have hin : MemPlace.cell b off ∈ before := by rw [hps]; simpa using hp
      rw [hb.frozen (hlt _ hin)]
      exact hz b off hin
    · intro ha
      have := hn ha
      rw [hps] at this
      simpa using this
    · intro p hp _
      rw [hps]
      simpa using hp
end

theorem own : ownKnob Try.prog.godebug = none := by kernel_rfl
theorem laid : laidOutB Try.prog = true := by kernel_rfl

/-- From an answer of the interpreter to the machine's. -/
theorem calls_of_apart {f : FuncId} {args : List PV} {vs : List Value} {p : PV} {w : World} {n k : Nat} (h : apartA EN (runA EN n k) f args = some p)
    (hr : Reps (fun b o => w.cell? ⟨b, o, none⟩) (fun _ => none) args vs) :
    Calls Try.prog f vs.toArray w fun e w' => ∃ r Γ ρ, e = .returned r ∧ Rep Γ ρ p r ∧ Below w.heap.size w w' := by
  have hR : Rel EN 0 (fun b o => w.cell? ⟨b, o, none⟩) (fun _ => none) [] w := ⟨fun b o v hv => hv, fun id l hl => (by cases hl), fun id l m hl => (by cases hl), fun i j li lj hi => (by cases hi), fun g cells hg => (by cases hg)⟩
  obtain ⟨σ2, _, key⟩ := apartA_ok EN_ok (runA_ok EN_ok n k) h
  refine Calls.mono (key _ w vs hR hr) fun e w' he => ?_
  obtain ⟨r, e1, Γ, ρ, h1, h2, h3⟩ := he
  exact ⟨r, Γ, ρ, e1, h1, h3.os, h3.tape, h3.output, h3.size, fun b hb => h3.frame b hb fun id l hl => by cases hl⟩

def toByte (n : Int) : UInt8 := UInt8.ofNat n.toNat

theorem toByte_eq {n : Int} (h : (Lit.int .u8 n).wf = true) : bpv (toByte n) = .int .u8 n := by
  simp only [Lit.wf, Bool.and_eq_true, decide_eq_true_eq] at h
  obtain ⟨h1, h2⟩ := h
  simp [IntKind.min, IntKind.max, IntKind.signed, IntKind.bits] at h1 h2
  have h3 : (toByte n).toNat = n.toNat := by
    unfold toByte
    rw [UInt8.toNat_ofNat']
    apply Nat.mod_eq_of_lt
    omega
  unfold bpv
  rw [h3, Int.toNat_of_nonneg h1]

/-- A row of bytes among the arguments. -/
theorem bytes_rep {H : Type} {enc : TypeId × Value → H} {W : World} {base : Nat} {v : Value} {d : DataW H} {ps : List MemPlace} (h : DataW.Trod enc Try.prog W 0 (fun _ => true) true 22 v d ps) (hv : Value.okWide Try.prog W .any base 22 v) :
    ∃ l : List UInt8, Rep (fun b o => W.cell? ⟨b, o, none⟩) (fun _ => none) (.sl (l.map bpv) 1 l.length none) v := by
  obtain ⟨a0, len, cap, rfl⟩ := okWide_slice Try.underlying22 hv
  obtain ⟨fuel, hf⟩ := h
  have hc1 : Try.prog.cellsOf 5 = 1 := by kernel_rfl
  rcases open_ints (k := .u8) Try.underlying22 Try.underlying5 hc1 hf with ⟨hcs, hx⟩ | ⟨a, len', cap', zs, hcs, _, hl, hm, hz, hx, hcell, hw⟩
  · have hcs' : [Value.slice a0 len cap] = [.slice none 0 0] := hcs
    cases hcs'
    exact ⟨[], .slNil (fun c hc => by cases hc)⟩
  · have hcs' : [Value.slice a0 len cap] = [.slice (some a) len' cap'] := hcs
    cases hcs'
    have hs : a.spot = none := by
      simp only [Value.okWide, Try.underlying22, Cell.okWide, Cell.ok] at hv
      exact hv.2.2.2.1
    simp only [if_true] at hz
    refine ⟨(zs.take len).map toByte, ?_⟩
    have hlen : ((zs.take len).map toByte).length = len := by simp; omega
    rw [hlen]
    have get : ∀ (j : Nat) (x : PV), (((zs.take len).map toByte).map bpv)[j]? = some x → j < zs.length ∧ x = .int .u8 (zs.getD j 0) := by
      intro j x hj
      simp only [List.getElem?_map, Option.map_eq_some_iff, List.getElem?_take] at hj
      obtain ⟨y, ⟨z, hz1, rfl⟩, rfl⟩ := hj
      split at hz1
      · have hj' : j < zs.length := (List.getElem?_eq_some_iff.1 hz1).1
        refine ⟨hj', ?_⟩
        rw [toByte_eq (hw z (List.mem_of_getElem? hz1))]
        simp [List.getD_eq_getElem?_getD, hz1]
      · cases hz1
    refine .sl a cap (fun j => .int .u8 (zs.getD j 0)) (by simp; omega) hl (fun c hc => by cases hc) ?_ ?_
    · intro j x hj
      obtain ⟨h1, rfl⟩ := get j x hj
      refine ⟨hs, ?_, rfl⟩
      have := hcell j h1
      rw [← this]
      congr 1
      obtain ⟨ab, ao, asp⟩ := a
      cases hs
      unfold Addr.add
      split
      · rename_i h0; subst h0; rfl
      · rfl
    · intro j x hj
      obtain ⟨h1, rfl⟩ := get j x hj
      exact .int _ _

theorem decodes_lifted (os : Os) (started : os.Started) (H : Type) (enc : TypeId × Value → H) :
    ReturnsInHanded {} Try.checked os 3 .any (Rows.scriptDecodesSpec.pre6 enc Try.prog Try.f3 Rows.scriptDecodesRow.domain false) (Rows.scriptDecodesSpec.post enc Try.prog Try.f3 false true false false) := by
  refine returnsInHanded_of_change (C := Try.checked) own started (by kernel_rfl) Try.func3
    (ChangeSpec.witness6 (enc := enc) (C := Try.checked) false ⟨#[], #[.slice none 0 0], []⟩ 8 (by kernel_rfl) (by kernel_rfl) (by kernel_rfl) (by kernel_rfl)) ?_
  intro W base args ds gs before hval0 hW hcnd _
  have hval : ∀ (j : Nat) t v, Try.f3.params[j]? = some t → args[j]? = some v → Value.okWide Try.prog W .any base t v := hval0
  have hW' := hW
  obtain ⟨p, q, hA0, hV, rfl, hfz, hnd⟩ := hW
  have hA : DataW.TrodAll enc Try.prog W 0 (fun _ => true) true Try.f3.params.toList args.toList ds p := hA0
  rw [Try.params3] at hA hval
  obtain ⟨v0, d0, rfl, rfl, h0⟩ := trodAll_one hA
  obtain ⟨rfl, rfl⟩ := trodVars_none hV
  obtain ⟨l, hl⟩ := bytes_rep h0 (hval 0 22 v0 rfl rfl)
  clear hA0 hval0
  simp only [List.append_nil] at hW'
  have hr : Reps (fun b o => W.cell? ⟨b, o, none⟩) (fun _ => none) [.sl (l.map bpv) 1 l.length none] [v0] := Reps.cons hl Reps.nil
  refine (calls_of_apart (law3 l) hr).mono fun e W' he => ?_
  obtain ⟨r, Γ, ρ, rfl, h2, hw⟩ := he
  cases h2
  have hlt : ∀ x ∈ p, x.block < W.heap.size := fun x hx => hW'.lt x hx
  exact ⟨_, rfl, post_below (pa := p) (pv := []) hW' (fun _ _ _ => trodAll_mk1 (shut_bool Try.underlying4 true))
    (fun sp hsp => trodAll_mk1
      (WideElems.Trod_stays laid (by kernel_rfl) (of_decide_eq_true (by kernel_rfl)) h0 (fun x hx => hw.same (hlt x hx)) (fun x hx => hsp x hx)))
    (fun _ _ => rfl) (by simp) hw (ok_one (by kernel_rfl) rfl (okWide_bool_mk Try.underlying4 true))⟩

theorem decodes_holds : Rows.ScriptDecodesSaid :=
  OpenClaim.holds_of_wide 3 Try.f3 rfl rfl rfl rfl rfl rfl rfl ⟨rfl, rfl, rfl, rfl, rfl⟩ rfl rfl rfl rfl rfl (by kernel_rfl) Try.func3 (by kernel_rfl)
    (of_decide_eq_true (by kernel_rfl)) (by unfold Func.isWrapper; first | (rw [if_pos (by decide +kernel)]; kernel_rfl) | (rw [if_neg (by decide +kernel)]; exact ⟨rfl, rfl⟩))
    (fun os started H enc _ => decodes_lifted os started H enc)

end Go.Proofs.Ytbnfofcbajaiiaa
