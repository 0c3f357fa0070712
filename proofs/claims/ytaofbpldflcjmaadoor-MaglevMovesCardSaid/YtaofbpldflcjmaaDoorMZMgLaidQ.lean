/- What the listed package variables give: the row's own errors' variables and their pointers; from the condition to the interpreter's start. -/
import Derived.Test.YtaofbpldflcjmaaDoorMZMgEnvP
import Derived.Test.YtaofbpldflcjmaaDoorRows
import Derived.LaidLaws
import Derived.LaidSub
import Derived.LaidHandle
set_option linter.unusedVariables false
set_option linter.unusedSimpArgs false
set_option maxRecDepth 100000
namespace Go.Proofs.YtaofbpldflcjmaaDoor.Am
def errEntry (x : String × List UInt8) : String × DataW Unit := (x.1, .iface "*errors.errorString" (.ptr (.agg [.lit (.string x.2)])))
theorem star : "*" ++ "errors.errorString" = "*errors.errorString" := by decide
theorem rowE (u : TypeId) (h : Tryd.prog.typeName? 3 u = some "*errors.errorString") : u = 128 :=
  typeName_ptr_named (nm := "errors.errorString") (by rw [star]; kernel_rfl) (by kernel_rfl) (by decide) u (by rw [star]; exact h)
theorem cellsE : Tryd.prog.cellsOf 144 = 1 := by kernel_rfl
theorem cellsS : Tryd.prog.cellsOf 9 = 1 := by kernel_rfl
theorem errs_read {W : World} : ∀ (l : List (String × List UInt8)) (gs : List Nat) (ps : List MemPlace),
    DataW.LaidVars Tryd.prog W (l.map errEntry) ps -> ps.Nodup -> (∀ b off, MemPlace.cell b off ∈ ps -> (∃ c t, W.heap[b]? = some (.cells c t (0, 0))) /\ ∀ u v, W.cell? ⟨b, off, none⟩ = some (.iface u v) -> Value.okWide Tryd.prog W .any 0 u v) ->
    l.map (fun x => Tryd.prog.globalNamed x.1) = gs.map some -> (∀ g ∈ gs, (Tryd.prog.globals[g]?).map (·.type) = some 28) ->
    ∃ ads : List Addr, ads.length = gs.length /\ (∀ a ∈ ads, MemPlace.cell a.block a.off ∈ ps /\ ∃ C T, W.heap[a.block]? = some (.cells C T (0, 0))) /\ (∀ (i : Nat) g a, gs[i]? = some g -> ads[i]? = some a -> W.cell? ⟨g, 0, none⟩ = some (.iface 128 (.pointer (some a)))) /\ ads.Nodup
  | [], gs, ps, h, hnd, hrows, hg, ht => by
    cases gs with
    | nil => exact ⟨[], rfl, (fun a ha => by cases ha), (fun i g a h => by simp at h), List.nodup_nil⟩
    | cons g gs => simp at hg
  | x :: l, gs, ps, h, hnd, hrows, hg, ht => by
    cases gs with
    | nil => simp at hg
    | cons g gs =>
      simp only [List.map_cons, List.cons.injEq] at hg
      obtain ⟨g0, t0, cs0, f0, p0, q0, hg0, ht0, hv0, hd0, hq, e0⟩ := h
      obtain rfl := Option.some.inj (hg.1.symm.trans hg0)
      obtain rfl := Option.some.inj ((ht g (by simp)).symm.trans ht0)
      subst e0
      obtain ⟨l0⟩ := cs0
      have ok0 : ∀ u v, l0 = [.iface u v] -> Value.okWide Tryd.prog W .any 0 u v := fun u v e => by
        subst e
        exact (hrows g 0 (by simp [MemPlace.row])).2 u v (by simpa using World.var?_cell hg0 hv0 0)
      obtain ⟨a0, s0, rfl, hc0, hs0, hz0, rfl⟩ := errorString_of_trod Tryd.underlying28 rowE Tryd.underlying128 Tryd.underlying144 rfl rfl Tryd.underlying9 cellsE cellsS hd0 ok0
      have hspot : a0.spot = none ∨ True := .inr trivial
      obtain ⟨ads, h1, h2, h3, h4⟩ := errs_read l gs q0 hq (List.Nodup.sublist (List.sublist_append_right _ _) hnd) (fun b off hm => hrows b off (List.mem_append_right _ hm)) hg.2 (fun g hg => ht g (by simp [hg]))
      have hin : MemPlace.cell a0.block a0.off ∈ MemPlace.row ⟨g, 0, none⟩ (#[Value.iface 128 (.pointer (some a0))] : Array Value).size ++ MemPlace.row a0 1 ++ q0 := by
        simp [MemPlace.row]
      refine ⟨a0 :: ads, by simp [h1], fun a ha => ?_, fun i g' a hi ha => ?_, ?_⟩
      . rcases List.mem_cons.1 ha with rfl | ha
        . exact ⟨hin, (hrows _ _ hin).1⟩
        . exact ⟨List.mem_append_right _ (h2 a ha).1, (h2 a ha).2⟩
      . cases i with
        | zero =>
          simp only [List.getElem?_cons_zero, Option.some.injEq] at hi ha
          subst hi ha
          simpa using World.var?_cell hg0 hv0 0
        | succ i => exact h3 i g' a (by simpa using hi) (by simpa using ha)
      . rw [List.nodup_cons]
        refine ⟨fun ha => ?_, h4⟩
        have k1 := (h2 a0 ha).1
        have : MemPlace.cell a0.block a0.off ∈ MemPlace.row ⟨g, 0, none⟩ (#[Value.iface 128 (.pointer (some a0))] : Array Value).size ++ MemPlace.row a0 1 := by simp [MemPlace.row]
        exact (List.nodup_append.1 hnd).2.2 _ this _ k1 rfl
def isErrB (x : String × DataW Unit) : Bool := match x.2 with
  | .iface _ (.ptr (.agg [.lit (.string _)])) => true
  | _ => false
def errList : List (String × List UInt8) := ((Rows.maglevMovesRow.laid.filter isErrB).map fun x => match x.2 with
  | .iface _ (.ptr (.agg [.lit (.string s)])) => (x.1, s)
  | _ => (x.1, []))
def ErrsAt (W : World) : Prop := ∃ ads : List Addr, ads.length = errGs.length /\ ads.Nodup /\ ∀ (i : Nat) g a, errGs[i]? = some g -> ads[i]? = some a -> W.cell? ⟨g, 0, none⟩ = some (.iface 128 (.pointer (some a))) /\ ∃ C T, W.heap[a.block]? = some (.cells C T (0, 0))
theorem errsAt {W : World} (h : laidMet Tryd.prog (errList.map errEntry) W) : ErrsAt W := by
  obtain ⟨ps, h1, h2, h3⟩ := h
  obtain ⟨ads, k1, k2, k3, k4⟩ := errs_read errList errGs ps h1 h2 h3 (by kernel_rfl) (by
    have : (errGs.all fun g => decide ((Tryd.prog.globals[g]?).map (·.type) = some 28)) = true := by kernel_rfl
    intro g hg
    exact of_decide_eq_true (List.all_eq_true.1 this g hg))
  exact ⟨ads, k1, k4, fun i g a hg ha => ⟨k3 i g a hg ha, (k2 a (List.mem_of_getElem? ha)).2⟩⟩
theorem at_of_memN : ∀ (g : Nat) (l : List Nat), memN g l = true -> ∃ i, i < l.length /\ l[i]? = some g
  | g, [], h => by cases h
  | g, x :: l, h => by
    simp only [memN, Bool.or_eq_true] at h
    rcases h with h | h
    . exact ⟨0, by simp, by rw [Nat.eq_of_beq_eq_true h]; rfl⟩
    . obtain ⟨i, h1, h2⟩ := at_of_memN g l h
      exact ⟨i + 1, by simpa using h1, by simpa using h2⟩
def PlainAt (G : Nat -> Option (List PV)) (W : World) : Prop := ∀ g cells, G g = some cells -> memN g errGs = false -> ∃ vs : Nat -> Value, ∀ (j : Nat) (x : PV), cells[j]? = some x -> W.cell? ⟨g, j, none⟩ = some (vs j) /\ x.oneCell = true /\ Rep (fun b o => W.cell? ⟨b, o, none⟩) (fun _ => none) x (vs j) /\ ∀ k, x ≠ .gptr k /\ ∀ t, x ≠ .iface t (.gptr k)
theorem start_rel {E : Env} {G : Nat -> Option (List PV)} (hG : GOk G) (hE : E.G = G) {W : World} (h : ErrsAt W) (hp : PlainAt G W) : Rel E 0 (fun b o => W.cell? ⟨b, o, none⟩) (fun _ => none) [] W := by
  obtain ⟨ads, h1, h2, h3⟩ := h
  have hge : ∀ g cells, G g = some cells -> memN g errGs = true -> ∃ (i : Nat) (a : Addr), errGs[i]? = some g /\ ads[i]? = some a /\ cells = [.iface 128 (.gptr g)] := by
    intro g cells hg hlt
    rw [hG.err g hlt, errG_at hlt] at hg
    cases hg
    obtain ⟨i, k1, k2⟩ := at_of_memN g errGs hlt
    exact ⟨i, ads[i], k2, by simp [h1, k1], rfl⟩
  have hrk : ∀ (g : Nat) (t : TypeId), G g = some [.iface t (.gptr g)] -> memN g errGs = true := by
    intro g t hg
    cases hm : memN g errGs with
    | true => rfl
    | false =>
      obtain ⟨vs, hv⟩ := hp g _ hg hm
      exact absurd rfl (((hv 0 _ rfl).2.2.2 g).2 t)
  refine ⟨fun b o v hv => hv, fun id l hl => (by cases hl), fun id l m hl => (by cases hl), fun i j li lj hi => (by cases hi), fun g cells hg => ?_, fun b hb => ?_, fun g g' t t' a e1 e2 e3 e4 => ?_⟩
  . rw [hE] at hg
    cases hlt : memN g errGs with
    | true =>
      obtain ⟨i, a, hi, ha, rfl⟩ := hge g cells hg hlt
      have hc := (h3 i g a hi ha).1
      refine ⟨fun _ => .iface 128 (.pointer (some a)), fun j x hx => ?_⟩
      cases j with
      | zero =>
        simp only [List.getElem?_cons_zero, Option.some.injEq] at hx
        subst hx
        exact ⟨hc, rfl, .iface _ (.gptr _ a hc)⟩
      | succ j => simp at hx
    | false =>
      obtain ⟨vs, hv⟩ := hp g cells hg hlt
      exact ⟨vs, fun j x hx => ⟨(hv j x hx).1, (hv j x hx).2.1, (hv j x hx).2.2.1⟩⟩
  . obtain ⟨g, t, a, e1, e2, rfl⟩ := hb
    rw [hE] at e1
    have hlt := hrk g t e1
    obtain ⟨i, a', hi, ha', e3⟩ := hge g _ e1 hlt
    obtain ⟨c1, c2⟩ := h3 i g a' hi ha'
    have e2 : W.cell? ⟨g, 0, none⟩ = some (.iface t (.pointer (some a))) := e2
    rw [e2] at c1
    cases c1
    exact ⟨c2, fun id l hl => by cases hl⟩
  . rw [hE] at e1 e2
    have l1 := hrk g t e1
    have l2 := hrk g' t' e2
    obtain ⟨i1, a1, hi1, ha1, _⟩ := hge g _ e1 l1
    obtain ⟨i2, a2, hi2, ha2, _⟩ := hge g' _ e2 l2
    have c1 := (h3 i1 g a1 hi1 ha1).1
    have c2 := (h3 i2 g' a2 hi2 ha2).1
    have e3 : W.cell? ⟨g, 0, none⟩ = some (.iface t (.pointer (some a))) := e3
    have e4 : W.cell? ⟨g', 0, none⟩ = some (.iface t' (.pointer (some a))) := e4
    rw [e3] at c1
    rw [e4] at c2
    cases c1
    cases c2
    have hlt : i1 < ads.length := (List.getElem?_eq_some_iff.1 ha1).1
    have hlt' : i2 < ads.length := (List.getElem?_eq_some_iff.1 ha2).1
    rw [List.getElem?_eq_getElem hlt] at ha1
    rw [List.getElem?_eq_getElem hlt'] at ha2
    have : ads[i1] = ads[i2] := (Option.some.inj ha1).trans (Option.some.inj ha2).symm
    obtain rfl := (List.getElem_inj h2).1 this
    rw [hi1] at hi2
    exact Option.some.inj hi2
theorem calls_of_apart {G : Nat -> Option (List PV)} (hG : GOk G) {f : FuncId} {args : List PV} {vs : List Value} {p : PV} {w : World} {n k : Nat} (hs : ErrsAt w) (hpl : PlainAt G w) (h : apartA (ES G) (runA (ES G) n k) f args = some p)
    (hr : Reps (fun b o => w.cell? ⟨b, o, none⟩) (fun _ => none) args vs) :
    Calls Tryd.prog f vs.toArray w fun e w' => ∃ r Γ ρ, e = .returned r /\ Rep Γ ρ p r /\ Go.RowKit.Below w.heap.size w w' := by
  have hR := start_rel (E := ES G) hG rfl hs hpl
  obtain ⟨σ2, _, key⟩ := apartA_ok (ES_ok hG) (runA_ok (ES_ok hG) n k) h
  refine Calls.mono (key _ w vs hR hr) fun e w' he => ?_
  obtain ⟨r, e1, Γ, ρ, h1, h2, h3⟩ := he
  exact ⟨r, Γ, ρ, e1, h1, h3.os, h3.tape, h3.output.out, h3.size, fun b hb => h3.frame b hb fun id l hl => by cases hl⟩
end Go.Proofs.YtaofbpldflcjmaaDoor.Am
