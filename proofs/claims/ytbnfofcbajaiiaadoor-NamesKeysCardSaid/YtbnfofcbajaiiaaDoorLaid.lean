/- What the listed package variables give: errors' variables and their pointers; from the condition to the interpreter's start. -/
import Derived.Test.YtbnfofcbajaiiaaDoorDEnv
import Derived.Test.YtbnfofcbajaiiaaDoorRows
import Derived.LaidLaws
import Derived.LaidSub
import Derived.LaidHandle
set_option linter.unusedVariables false
set_option linter.unusedSimpArgs false
set_option maxRecDepth 100000
namespace Go.Proofs.YtbnfofcbajaiiaaDoor.Am

/-- An error's entry on the list. -/
def errEntry (x : String × List UInt8) : String × DataW Unit := (x.1, .iface "*errors.errorString" (.ptr (.agg [.lit (.string x.2)])))

theorem star : "*" ++ "errors.errorString" = "*errors.errorString" := by decide
theorem rowE (u : TypeId) (h : Tryd.prog.typeName? 3 u = some "*errors.errorString") : u = 188 :=
  typeName_ptr_named (nm := "errors.errorString") (by rw [star]; kernel_rfl) (by kernel_rfl) (by decide) u (by rw [star]; exact h)
theorem cellsE : Tryd.prog.cellsOf 214 = 1 := by kernel_rfl
theorem cellsS : Tryd.prog.cellsOf 9 = 1 := by kernel_rfl

/-- Errors' variables, one behind the other: where each leads. -/
theorem errs_read {W : World} : ∀ (l : List (String × List UInt8)) (gs : List Nat) (ps : List MemPlace),
    DataW.LaidVars Tryd.prog W (l.map errEntry) ps → ps.Nodup → (∀ b off, MemPlace.cell b off ∈ ps → (∃ c t, W.heap[b]? = some (.cells c t (0, 0))) ∧ ∀ u v, W.cell? ⟨b, off, none⟩ = some (.iface u v) → Value.okWide Tryd.prog W .any 0 u v) →
    l.map (fun x => Tryd.prog.globalNamed x.1) = gs.map some → (∀ g ∈ gs, (Tryd.prog.globals[g]?).map (·.type) = some 27) →
    ∃ ads : List Addr, ads.length = gs.length ∧ (∀ a ∈ ads, MemPlace.cell a.block a.off ∈ ps ∧ ∃ C T, W.heap[a.block]? = some (.cells C T (0, 0))) ∧ (∀ (i : Nat) g a, gs[i]? = some g → ads[i]? = some a → W.cell? ⟨g, 0, none⟩ = some (.iface 188 (.pointer (some a)))) ∧ ads.Nodup
  | [], gs, ps, h, hnd, hrows, hg, ht => by
    cases gs with
    | nil => exact ⟨[], rfl, (fun a ha => by cases ha), (fun i g a h => by simp at h), List.nodup_nil⟩
    | cons g gs => simp at hg
  | x :: l, gs, ps, h, hnd, hrows, hg, ht => by
    cases gs with
    | nil => simp at hg
    | cons g gs =>
      simp only [List.map_cons, List.cons.injEq] at hg
      obtain ⟨g0, t0, cs0, f0, p0, q0, hg0, ht0, hv0, hd0, hq, e0⟩ := h
      obtain rfl := Option.some.inj (hg.1.symm.trans hg0)
      obtain rfl := Option.some.inj ((ht g (by simp)).symm.trans ht0)
      subst e0
      obtain ⟨l0⟩ := cs0
      have ok0 : ∀ u v, l0 = [.iface u v] → Value.okWide Tryd.prog W .any 0 u v := fun u v e => by
        subst e
        exact (hrows g 0 (by simp [MemPlace.row])).2 u v (by simpa using World.var?_cell hg0 hv0 0)
      obtain ⟨a0, s0, rfl, hc0, hs0, hz0, rfl⟩ := errorString_of_trod Tryd.underlying27 rowE Tryd.underlying188 Tryd.underlying214 rfl rfl Tryd.underlying9 cellsE cellsS hd0 ok0
      have hspot : a0.spot = none ∨ True := .inr trivial
      obtain ⟨ads, h1, h2, h3, h4⟩ := errs_read l gs q0 hq (List.Nodup.sublist (List.sublist_append_right _ _) hnd) (fun b off hm => hrows b off (List.mem_append_right _ hm)) hg.2 (fun g hg => ht g (by simp [hg]))
      have hin : MemPlace.cell a0.block a0.off ∈ MemPlace.row ⟨g, 0, none⟩ (#[Value.iface 188 (.pointer (some a0))] : Array Value).size ++ MemPlace.row a0 1 ++ q0 := by
        simp [MemPlace.row]
      refine ⟨a0 :: ads, by simp [h1], fun a ha => ?_, fun i g' a hi ha => ?_, ?_⟩
      · rcases List.mem_cons.1 ha with rfl | ha
        · exact ⟨hin, (hrows _ _ hin).1⟩
        · exact ⟨List.mem_append_right _ (h2 a ha).1, (h2 a ha).2⟩
      · cases i with
        | zero =>
          simp only [List.getElem?_cons_zero, Option.some.injEq] at hi ha
          subst hi ha
          simpa using World.var?_cell hg0 hv0 0
        | succ i => exact h3 i g' a (by simpa using hi) (by simpa using ha)
      · rw [List.nodup_cons]
        refine ⟨fun ha => ?_, h4⟩
        have k1 := (h2 a0 ha).1
        have : MemPlace.cell a0.block a0.off ∈ MemPlace.row ⟨g, 0, none⟩ (#[Value.iface 188 (.pointer (some a0))] : Array Value).size ++ MemPlace.row a0 1 := by simp [MemPlace.row]
        exact (List.nodup_append.1 hnd).2.2 _ this _ k1 rfl

/-- The errors' texts, in the seat's order. -/
def errList : List (String × List UInt8) := (Rows.scriptEncodesRow.laid.map fun x => match x.2 with
  | .iface _ (.ptr (.agg [.lit (.string s)])) => (x.1, s)
  | _ => (x.1, []))

/-- What the errors' variables hold, in a world. -/
def ErrsAt (W : World) : Prop := ∃ ads : List Addr, ads.length = 18 ∧ ads.Nodup ∧ ∀ (g : Nat) a, ads[g]? = some a → W.cell? ⟨g, 0, none⟩ = some (.iface 188 (.pointer (some a))) ∧ ∃ C T, W.heap[a.block]? = some (.cells C T (0, 0))

theorem errsAt {W : World} (h : laidMet Tryd.prog (errList.map errEntry) W) : ErrsAt W := by
  obtain ⟨ps, h1, h2, h3⟩ := h
  obtain ⟨ads, k1, k2, k3, k4⟩ := errs_read errList (List.range 18) ps h1 h2 h3 (by kernel_rfl) (by
    have : ((List.range 18).all fun g => decide ((Tryd.prog.globals[g]?).map (·.type) = some 27)) = true := by kernel_rfl
    intro g hg
    exact of_decide_eq_true (List.all_eq_true.1 this g hg))
  refine ⟨ads, by simpa using k1, k4, fun g a ha => ⟨k3 g g a ?_ ha, (k2 a (List.mem_of_getElem? ha)).2⟩⟩
  have : g < ads.length := (List.getElem?_eq_some_iff.1 ha).1
  rw [k1] at this
  simp only [List.length_range] at this
  simp [this]

/-- What other variables hold (texts, numbers). -/
def PlainAt (G : Nat → Option (List PV)) (W : World) : Prop := ∀ g cells, G g = some cells → 18 ≤ g → ∃ vs : Nat → Value, ∀ (j : Nat) (x : PV), cells[j]? = some x → W.cell? ⟨g, j, none⟩ = some (vs j) ∧ x.oneCell = true ∧ Rep (fun b o => W.cell? ⟨b, o, none⟩) (fun _ => none) x (vs j) ∧ ∀ k, x ≠ .gptr k ∧ ∀ t, x ≠ .iface t (.gptr k)

theorem start_rel {E : Env} {G : Nat → Option (List PV)} (hG : GOk G) (hE : E.G = G) {W : World} (h : ErrsAt W) (hp : PlainAt G W) : Rel E 0 (fun b o => W.cell? ⟨b, o, none⟩) (fun _ => none) [] W := by
  obtain ⟨ads, h1, h2, h3⟩ := h
  have hge : ∀ g cells, G g = some cells → g < 18 → ∃ a, ads[g]? = some a ∧ cells = [.iface 188 (.gptr g)] := by
    intro g cells hg hlt
    rw [hG.err g hlt, errG_at hlt] at hg
    cases hg
    exact ⟨ads[g], by simp [h1, hlt], rfl⟩
  have hrk : ∀ (g : Nat) (t : TypeId), G g = some [.iface t (.gptr g)] → g < 18 := by
    intro g t hg
    rcases Nat.lt_or_ge g 18 with hlt | hlt
    · exact hlt
    · obtain ⟨vs, hv⟩ := hp g _ hg hlt
      exact absurd rfl (((hv 0 _ rfl).2.2.2 g).2 t)
  refine ⟨fun b o v hv => hv, fun id l hl => (by cases hl), fun id l m hl => (by cases hl), fun i j li lj hi => (by cases hi), fun g cells hg => ?_, fun b hb => ?_, fun g g' t t' a e1 e2 e3 e4 => ?_⟩
  · rw [hE] at hg
    rcases Nat.lt_or_ge g 18 with hlt | hlt
    · obtain ⟨a, ha, rfl⟩ := hge g cells hg hlt
      have hc := (h3 g a ha).1
      refine ⟨fun _ => .iface 188 (.pointer (some a)), fun j x hx => ?_⟩
      cases j with
      | zero =>
        simp only [List.getElem?_cons_zero, Option.some.injEq] at hx
        subst hx
        exact ⟨hc, rfl, .iface _ (.gptr _ a hc)⟩
      | succ j => simp at hx
    · obtain ⟨vs, hv⟩ := hp g cells hg hlt
      exact ⟨vs, fun j x hx => ⟨(hv j x hx).1, (hv j x hx).2.1, (hv j x hx).2.2.1⟩⟩
  · obtain ⟨g, t, a, e1, e2, rfl⟩ := hb
    rw [hE] at e1
    have hlt := hrk g t e1
    obtain ⟨a', ha', e3⟩ := hge g _ e1 hlt
    obtain ⟨c1, c2⟩ := h3 g a' ha'
    have e2 : W.cell? ⟨g, 0, none⟩ = some (.iface t (.pointer (some a))) := e2
    rw [e2] at c1
    cases c1
    exact ⟨c2, fun id l hl => by cases hl⟩
  · rw [hE] at e1 e2
    have l1 := hrk g t e1
    have l2 := hrk g' t' e2
    obtain ⟨a1, ha1, _⟩ := hge g _ e1 l1
    obtain ⟨a2, ha2, _⟩ := hge g' _ e2 l2
    have c1 := (h3 g a1 ha1).1
    have c2 := (h3 g' a2 ha2).1
    have e3 : W.cell? ⟨g, 0, none⟩ = some (.iface t (.pointer (some a))) := e3
    have e4 : W.cell? ⟨g', 0, none⟩ = some (.iface t' (.pointer (some a))) := e4
    rw [e3] at c1
    rw [e4] at c2
    cases c1
    cases c2
    have hlt : g < ads.length := by omega
    have hlt' : g' < ads.length := by omega
    rw [List.getElem?_eq_getElem hlt] at ha1
    rw [List.getElem?_eq_getElem hlt'] at ha2
    have : ads[g] = ads[g'] := (Option.some.inj ha1).trans (Option.some.inj ha2).symm
    exact (List.getElem_inj h2).1 this

/-- From an answer of the interpreter to the machine's. -/
theorem calls_of_apart {G : Nat → Option (List PV)} (hG : GOk G) {f : FuncId} {args : List PV} {vs : List Value} {p : PV} {w : World} {n k : Nat} (hs : ErrsAt w) (hpl : PlainAt G w) (h : apartA (EG G) (runA (EG G) n k) f args = some p)
    (hr : Reps (fun b o => w.cell? ⟨b, o, none⟩) (fun _ => none) args vs) :
    Calls Tryd.prog f vs.toArray w fun e w' => ∃ r Γ ρ, e = .returned r ∧ Rep Γ ρ p r ∧ Go.RowKit.Below w.heap.size w w' := by
  have hR := start_rel (E := EG G) hG rfl hs hpl
  obtain ⟨σ2, _, key⟩ := apartA_ok (EG_ok hG) (runA_ok (EG_ok hG) n k) h
  refine Calls.mono (key _ w vs hR hr) fun e w' he => ?_
  obtain ⟨r, e1, Γ, ρ, h1, h2, h3⟩ := he
  exact ⟨r, Γ, ρ, e1, h1, h3.os, h3.tape, h3.output, h3.size, fun b hb => h3.frame b hb fun id l hl => by cases hl⟩

end Go.Proofs.YtbnfofcbajaiiaaDoor.Am
