/- RulesOrder: what its arguments are, and what the machine answers. -/
import Derived.Test.YtbnfofcbajaiiaaOrd4
import Derived.Test.YtbnfofcbajaiiaaRun3
import Derived.KernelRfl
import Derived.WideShapes
set_option linter.unusedVariables false
set_option linter.unusedSimpArgs false
set_option maxRecDepth 100000
namespace Go.Proofs.Ytbnfofcbajaiiaa.Am
open Go.RowKit

theorem EO_ok : EO.Ok where
  plain := by
    intro t ht
    have : t ∈ [35, 37, 39, 41, 43, 46, 47] := by simpa [EO] using ht
    simp only [List.mem_cons, List.not_mem_nil, or_false] at this
    rcases this with rfl | rfl | rfl | rfl | rfl | rfl | rfl <;> exact ⟨by kernel_rfl, by kernel_rfl⟩
  ext := by
    intro f hf
    have : f = 108 := by
      by_cases h : f = 108
      · exact h
      · simp [EO, h] at hf
    subst this
    exact ⟨Try.f108, Try.func108, by kernel_rfl, by kernel_rfl, by kernel_rfl, by kernel_rfl⟩
  mixed := by kernel_rfl
  glob := fun g cells h => by cases h

/-- From a run with nothing ahead of it to the machine. -/
theorem calls_of_run {f : FuncId} {args : List PV} {vs : List Value} {p : PV} {σ1 : Store} {w : World} {n k : Nat} (h : runA EO n k f args [] 0 = some (p, σ1))
    (hr : Reps (fun b o => w.cell? ⟨b, o, none⟩) (fun _ => none) args vs) :
    Calls Try.prog f vs.toArray w fun e w' => ∃ r Γ ρ, e = .returned r ∧ Rep Γ ρ p r ∧ Below w.heap.size w w' := by
  have hR : Rel EO 0 (fun b o => w.cell? ⟨b, o, none⟩) (fun _ => none) [] w := ⟨fun b o v hv => hv, fun id l hl => (by cases hl), fun id l m hl => (by cases hl), fun i j li lj hi => (by cases hi), fun g cells hg => (by cases hg)⟩
  refine Calls.mono (runA_ok EO_ok n k f args [] 0 p σ1 h (Nat.le_refl _) _ _ w vs hR hr) fun e w' he => ?_
  obtain ⟨r, e1, Γ, ρ, h1, h2, h3⟩ := he
  exact ⟨r, Γ, ρ, e1, h1, h3.os, h3.tape, h3.output, h3.size, fun b hb => h3.frame b hb fun id l hl => by cases hl⟩

theorem order_calls (a b : Fr) (g h : Gi) (ha : Ok8 a.pt.ad.b) (hb : Ok8 b.pt.ad.b) {w : World} {vs : List Value} (hr : Reps (fun b o => w.cell? ⟨b, o, none⟩) (fun _ => none) [.agg a.cs, .agg b.cs, .agg (g.cs ++ h.cs)] vs) :
    Calls Try.prog 4 vs.toArray w fun e w' => e = .returned (.bool true) ∧ Below w.heap.size w w' := by
  obtain ⟨σ1, h1⟩ := order_true a b g h ha hb
  refine Calls.mono (calls_of_run h1 hr) fun e w' he => ?_
  obtain ⟨r, Γ, ρ, rfl, h2, h3⟩ := he
  cases h2
  exact ⟨rfl, h3⟩

theorem int_cell {P : Program} {w : World} {r : Reach} {base : Nat} {t : TypeId} {k : IntKind} {v : Value} (ht : P.underlying t = some (.int k)) (h : Cell.okWide P w r base t v) : ∃ n, v = .int k n ∧ k.has n := by
  unfold Cell.okWide at h
  rw [ht] at h
  cases v <;> simp [Cell.ok, ht] at h
  obtain ⟨rfl, h2⟩ := h
  exact ⟨_, rfl, h2⟩

theorem bool_cell {P : Program} {w : World} {r : Reach} {base : Nat} {t : TypeId} {v : Value} (ht : P.underlying t = some .bool) (h : Cell.okWide P w r base t v) : ∃ n, v = .bool n := by
  unfold Cell.okWide at h
  rw [ht] at h
  cases v <;> simp [Cell.ok, ht] at h
  exact ⟨_, rfl⟩

theorem str_cell {P : Program} {w : World} {r : Reach} {base : Nat} {t : TypeId} {v : Value} (ht : P.underlying t = some .string) (h : Cell.okWide P w r base t v) : ∃ l : List UInt8, v = .string ⟨⟨l⟩⟩ := by
  unfold Cell.okWide at h
  rw [ht] at h
  cases v with
  | string s => exact ⟨s.data.toList, by simp⟩
  | _ => simp [Cell.ok, ht] at h

theorem byte_range {n : Int} (h : IntKind.has .u8 n) : 0 ≤ n ∧ n < 256 := by
  obtain ⟨h1, h2⟩ := h
  simp [IntKind.min, IntKind.max, IntKind.signed, IntKind.bits] at h1 h2
  omega

def Fr.value (a : Fr) : Value := .agg #[.int .i64 a.proto, .bool a.pt.ad.six, .int .u8 (a.pt.ad.b 0), .int .u8 (a.pt.ad.b 1), .int .u8 (a.pt.ad.b 2), .int .u8 (a.pt.ad.b 3), .int .u8 (a.pt.ad.b 4), .int .u8 (a.pt.ad.b 5), .int .u8 (a.pt.ad.b 6), .int .u8 (a.pt.ad.b 7), .int .u8 (a.pt.ad.b 8), .int .u8 (a.pt.ad.b 9), .int .u8 (a.pt.ad.b 10), .int .u8 (a.pt.ad.b 11), .int .u8 (a.pt.ad.b 12), .int .u8 (a.pt.ad.b 13), .int .u8 (a.pt.ad.b 14), .int .u8 (a.pt.ad.b 15), .int .i64 a.pt.port, .string ⟨⟨a.key.space⟩⟩, .string ⟨⟨a.key.name⟩⟩, .string ⟨⟨a.name⟩⟩, .int .i64 a.how, .bool a.loc, .bool a.asked, .int .i64 a.ticks]

def Gi.values (a : Gi) : List Value := [.string ⟨⟨a.key.space⟩⟩, .string ⟨⟨a.key.name⟩⟩, .string ⟨⟨a.name⟩⟩, .bool a.six, .bool a.loc]

theorem front_of {w : World} {base : Nat} {v : Value} (h : Value.okWide Try.prog w .any base 41 v) : ∃ a : Fr, Ok8 a.pt.ad.b ∧ v = a.value := by
  unfold Value.okWide at h
  have hu : ∃ x, Try.prog.underlying 41 = some x := ⟨_, Try.underlying41⟩
  rw [Try.underlying41] at h
  obtain ⟨cs, rfl, hsz, ts, hts, _, hc⟩ := h
  have e1 : Try.prog.cellsOf 41 = 26 := by kernel_rfl
  have e2 : Try.prog.cellTypes Try.prog.depth 41 = some [3, 4, 5, 5, 5, 5, 5, 5, 5, 5, 5, 5, 5, 5, 5, 5, 5, 5, 3, 9, 9, 9, 3, 4, 4, 3] := by kernel_rfl
  rw [e2] at hts
  cases hts
  rw [e1] at hsz
  have hcell : ∀ (i u : Nat), i < 26 → ([3, 4, 5, 5, 5, 5, 5, 5, 5, 5, 5, 5, 5, 5, 5, 5, 5, 5, 3, 9, 9, 9, 3, 4, 4, 3] : List Nat)[i]? = some u → ∃ c, cs[i]? = some c ∧ Cell.okWide Try.prog w .any base u c := by
    intro i u hi hu
    have hi' : i < cs.size := by omega
    obtain ⟨u', hu', hk⟩ := hc i cs[i] (by simp [hi'])
    rw [Nat.mod_eq_of_lt (by simpa using hi)] at hu'
    rw [hu] at hu'
    cases hu'
    exact ⟨cs[i], by simp [hi'], hk⟩
  obtain ⟨c0, h0, k0⟩ := hcell 0 3 (by decide) rfl
  obtain ⟨c1, h1, k1⟩ := hcell 1 4 (by decide) rfl
  obtain ⟨c2, h2, k2⟩ := hcell 2 5 (by decide) rfl
  obtain ⟨c3, h3, k3⟩ := hcell 3 5 (by decide) rfl
  obtain ⟨c4, h4, k4⟩ := hcell 4 5 (by decide) rfl
  obtain ⟨c5, h5, k5⟩ := hcell 5 5 (by decide) rfl
  obtain ⟨c6, h6, k6⟩ := hcell 6 5 (by decide) rfl
  obtain ⟨c7, h7, k7⟩ := hcell 7 5 (by decide) rfl
  obtain ⟨c8, h8, k8⟩ := hcell 8 5 (by decide) rfl
  obtain ⟨c9, h9, k9⟩ := hcell 9 5 (by decide) rfl
  obtain ⟨c10, h10, k10⟩ := hcell 10 5 (by decide) rfl
  obtain ⟨c11, h11, k11⟩ := hcell 11 5 (by decide) rfl
  obtain ⟨c12, h12, k12⟩ := hcell 12 5 (by decide) rfl
  obtain ⟨c13, h13, k13⟩ := hcell 13 5 (by decide) rfl
  obtain ⟨c14, h14, k14⟩ := hcell 14 5 (by decide) rfl
  obtain ⟨c15, h15, k15⟩ := hcell 15 5 (by decide) rfl
  obtain ⟨c16, h16, k16⟩ := hcell 16 5 (by decide) rfl
  obtain ⟨c17, h17, k17⟩ := hcell 17 5 (by decide) rfl
  obtain ⟨c18, h18, k18⟩ := hcell 18 3 (by decide) rfl
  obtain ⟨c19, h19, k19⟩ := hcell 19 9 (by decide) rfl
  obtain ⟨c20, h20, k20⟩ := hcell 20 9 (by decide) rfl
  obtain ⟨c21, h21, k21⟩ := hcell 21 9 (by decide) rfl
  obtain ⟨c22, h22, k22⟩ := hcell 22 3 (by decide) rfl
  obtain ⟨c23, h23, k23⟩ := hcell 23 4 (by decide) rfl
  obtain ⟨c24, h24, k24⟩ := hcell 24 4 (by decide) rfl
  obtain ⟨c25, h25, k25⟩ := hcell 25 3 (by decide) rfl
  obtain ⟨x0, rfl, g0⟩ := int_cell (k := .i64) Try.underlying3 k0
  obtain ⟨x1, rfl⟩ := bool_cell Try.underlying4 k1
  obtain ⟨x2, rfl, g2⟩ := int_cell (k := .u8) Try.underlying5 k2
  obtain ⟨x3, rfl, g3⟩ := int_cell (k := .u8) Try.underlying5 k3
  obtain ⟨x4, rfl, g4⟩ := int_cell (k := .u8) Try.underlying5 k4
  obtain ⟨x5, rfl, g5⟩ := int_cell (k := .u8) Try.underlying5 k5
  obtain ⟨x6, rfl, g6⟩ := int_cell (k := .u8) Try.underlying5 k6
  obtain ⟨x7, rfl, g7⟩ := int_cell (k := .u8) Try.underlying5 k7
  obtain ⟨x8, rfl, g8⟩ := int_cell (k := .u8) Try.underlying5 k8
  obtain ⟨x9, rfl, g9⟩ := int_cell (k := .u8) Try.underlying5 k9
  obtain ⟨x10, rfl, g10⟩ := int_cell (k := .u8) Try.underlying5 k10
  obtain ⟨x11, rfl, g11⟩ := int_cell (k := .u8) Try.underlying5 k11
  obtain ⟨x12, rfl, g12⟩ := int_cell (k := .u8) Try.underlying5 k12
  obtain ⟨x13, rfl, g13⟩ := int_cell (k := .u8) Try.underlying5 k13
  obtain ⟨x14, rfl, g14⟩ := int_cell (k := .u8) Try.underlying5 k14
  obtain ⟨x15, rfl, g15⟩ := int_cell (k := .u8) Try.underlying5 k15
  obtain ⟨x16, rfl, g16⟩ := int_cell (k := .u8) Try.underlying5 k16
  obtain ⟨x17, rfl, g17⟩ := int_cell (k := .u8) Try.underlying5 k17
  obtain ⟨x18, rfl, g18⟩ := int_cell (k := .i64) Try.underlying3 k18
  obtain ⟨x19, rfl⟩ := str_cell Try.underlying9 k19
  obtain ⟨x20, rfl⟩ := str_cell Try.underlying9 k20
  obtain ⟨x21, rfl⟩ := str_cell Try.underlying9 k21
  obtain ⟨x22, rfl, g22⟩ := int_cell (k := .i64) Try.underlying3 k22
  obtain ⟨x23, rfl⟩ := bool_cell Try.underlying4 k23
  obtain ⟨x24, rfl⟩ := bool_cell Try.underlying4 k24
  obtain ⟨x25, rfl, g25⟩ := int_cell (k := .i64) Try.underlying3 k25
  have hcs : cs = #[.int .i64 x0, .bool x1, .int .u8 x2, .int .u8 x3, .int .u8 x4, .int .u8 x5, .int .u8 x6, .int .u8 x7, .int .u8 x8, .int .u8 x9, .int .u8 x10, .int .u8 x11, .int .u8 x12, .int .u8 x13, .int .u8 x14, .int .u8 x15, .int .u8 x16, .int .u8 x17, .int .i64 x18, .string ⟨⟨x19⟩⟩, .string ⟨⟨x20⟩⟩, .string ⟨⟨x21⟩⟩, .int .i64 x22, .bool x23, .bool x24, .int .i64 x25] := by
    apply Array.ext
    · simpa using hsz
    · intro i hi1 hi2
      have hi3 : i < 26 := by omega
      match i, hi3 with
      | 0, _ => exact (Array.getElem?_eq_some_iff.1 h0).2
      | 1, _ => exact (Array.getElem?_eq_some_iff.1 h1).2
      | 2, _ => exact (Array.getElem?_eq_some_iff.1 h2).2
      | 3, _ => exact (Array.getElem?_eq_some_iff.1 h3).2
      | 4, _ => exact (Array.getElem?_eq_some_iff.1 h4).2
      | 5, _ => exact (Array.getElem?_eq_some_iff.1 h5).2
      | 6, _ => exact (Array.getElem?_eq_some_iff.1 h6).2
      | 7, _ => exact (Array.getElem?_eq_some_iff.1 h7).2
      | 8, _ => exact (Array.getElem?_eq_some_iff.1 h8).2
      | 9, _ => exact (Array.getElem?_eq_some_iff.1 h9).2
      | 10, _ => exact (Array.getElem?_eq_some_iff.1 h10).2
      | 11, _ => exact (Array.getElem?_eq_some_iff.1 h11).2
      | 12, _ => exact (Array.getElem?_eq_some_iff.1 h12).2
      | 13, _ => exact (Array.getElem?_eq_some_iff.1 h13).2
      | 14, _ => exact (Array.getElem?_eq_some_iff.1 h14).2
      | 15, _ => exact (Array.getElem?_eq_some_iff.1 h15).2
      | 16, _ => exact (Array.getElem?_eq_some_iff.1 h16).2
      | 17, _ => exact (Array.getElem?_eq_some_iff.1 h17).2
      | 18, _ => exact (Array.getElem?_eq_some_iff.1 h18).2
      | 19, _ => exact (Array.getElem?_eq_some_iff.1 h19).2
      | 20, _ => exact (Array.getElem?_eq_some_iff.1 h20).2
      | 21, _ => exact (Array.getElem?_eq_some_iff.1 h21).2
      | 22, _ => exact (Array.getElem?_eq_some_iff.1 h22).2
      | 23, _ => exact (Array.getElem?_eq_some_iff.1 h23).2
      | 24, _ => exact (Array.getElem?_eq_some_iff.1 h24).2
      | 25, _ => exact (Array.getElem?_eq_some_iff.1 h25).2
      | i + 26, hi => exact absurd hi (by omega)
  subst hcs
  refine ⟨⟨x0, ⟨⟨x1, fun i => [x2, x3, x4, x5, x6, x7, x8, x9, x10, x11, x12, x13, x14, x15, x16, x17].getD i 0⟩, x18⟩, ⟨x19, x20⟩, x21, x22, x23, x24, x25⟩, ?_, rfl⟩
  intro i hi
  match i, hi with
  | 0, _ => exact byte_range g2
  | 1, _ => exact byte_range g3
  | 2, _ => exact byte_range g4
  | 3, _ => exact byte_range g5
  | 4, _ => exact byte_range g6
  | 5, _ => exact byte_range g7
  | 6, _ => exact byte_range g8
  | 7, _ => exact byte_range g9
  | 8, _ => exact byte_range g10
  | 9, _ => exact byte_range g11
  | 10, _ => exact byte_range g12
  | 11, _ => exact byte_range g13
  | 12, _ => exact byte_range g14
  | 13, _ => exact byte_range g15
  | 14, _ => exact byte_range g16
  | 15, _ => exact byte_range g17
  | i + 16, hi => exact absurd hi (by omega)


theorem ids_of {w : World} {base : Nat} {v : Value} (h : Value.okWide Try.prog w .any base 44 v) : ∃ a b : Gi, v = .agg (a.values ++ b.values).toArray := by
  unfold Value.okWide at h
  have hu : ∃ x, Try.prog.underlying 44 = some x := ⟨_, Try.underlying44⟩
  rw [Try.underlying44] at h
  obtain ⟨cs, rfl, hsz, ts, hts, _, hc⟩ := h
  have e1 : Try.prog.cellsOf 44 = 10 := by kernel_rfl
  have e2 : Try.prog.cellTypes Try.prog.depth 44 = some [9, 9, 9, 4, 4, 9, 9, 9, 4, 4] := by kernel_rfl
  rw [e2] at hts
  cases hts
  rw [e1] at hsz
  have hcell : ∀ (i u : Nat), i < 10 → ([9, 9, 9, 4, 4, 9, 9, 9, 4, 4] : List Nat)[i]? = some u → ∃ c, cs[i]? = some c ∧ Cell.okWide Try.prog w .any base u c := by
    intro i u hi hu
    have hi' : i < cs.size := by omega
    obtain ⟨u', hu', hk⟩ := hc i cs[i] (by simp [hi'])
    rw [Nat.mod_eq_of_lt (by simpa using hi)] at hu'
    rw [hu] at hu'
    cases hu'
    exact ⟨cs[i], by simp [hi'], hk⟩
  obtain ⟨c0, h0, k0⟩ := hcell 0 9 (by decide) rfl
  obtain ⟨c1, h1, k1⟩ := hcell 1 9 (by decide) rfl
  obtain ⟨c2, h2, k2⟩ := hcell 2 9 (by decide) rfl
  obtain ⟨c3, h3, k3⟩ := hcell 3 4 (by decide) rfl
  obtain ⟨c4, h4, k4⟩ := hcell 4 4 (by decide) rfl
  obtain ⟨c5, h5, k5⟩ := hcell 5 9 (by decide) rfl
  obtain ⟨c6, h6, k6⟩ := hcell 6 9 (by decide) rfl
  obtain ⟨c7, h7, k7⟩ := hcell 7 9 (by decide) rfl
  obtain ⟨c8, h8, k8⟩ := hcell 8 4 (by decide) rfl
  obtain ⟨c9, h9, k9⟩ := hcell 9 4 (by decide) rfl
  obtain ⟨x0, rfl⟩ := str_cell Try.underlying9 k0
  obtain ⟨x1, rfl⟩ := str_cell Try.underlying9 k1
  obtain ⟨x2, rfl⟩ := str_cell Try.underlying9 k2
  obtain ⟨x3, rfl⟩ := bool_cell Try.underlying4 k3
  obtain ⟨x4, rfl⟩ := bool_cell Try.underlying4 k4
  obtain ⟨x5, rfl⟩ := str_cell Try.underlying9 k5
  obtain ⟨x6, rfl⟩ := str_cell Try.underlying9 k6
  obtain ⟨x7, rfl⟩ := str_cell Try.underlying9 k7
  obtain ⟨x8, rfl⟩ := bool_cell Try.underlying4 k8
  obtain ⟨x9, rfl⟩ := bool_cell Try.underlying4 k9
  have hcs : cs = #[.string ⟨⟨x0⟩⟩, .string ⟨⟨x1⟩⟩, .string ⟨⟨x2⟩⟩, .bool x3, .bool x4, .string ⟨⟨x5⟩⟩, .string ⟨⟨x6⟩⟩, .string ⟨⟨x7⟩⟩, .bool x8, .bool x9] := by
    apply Array.ext
    · simpa using hsz
    · intro i hi1 hi2
      have hi3 : i < 10 := by omega
      match i, hi3 with
      | 0, _ => exact (Array.getElem?_eq_some_iff.1 h0).2
      | 1, _ => exact (Array.getElem?_eq_some_iff.1 h1).2
      | 2, _ => exact (Array.getElem?_eq_some_iff.1 h2).2
      | 3, _ => exact (Array.getElem?_eq_some_iff.1 h3).2
      | 4, _ => exact (Array.getElem?_eq_some_iff.1 h4).2
      | 5, _ => exact (Array.getElem?_eq_some_iff.1 h5).2
      | 6, _ => exact (Array.getElem?_eq_some_iff.1 h6).2
      | 7, _ => exact (Array.getElem?_eq_some_iff.1 h7).2
      | 8, _ => exact (Array.getElem?_eq_some_iff.1 h8).2
      | 9, _ => exact (Array.getElem?_eq_some_iff.1 h9).2
      | i + 10, hi => exact absurd hi (by omega)
  subst hcs
  exact ⟨⟨⟨x0, x1⟩, x2, x3, x4⟩, ⟨⟨x5, x6⟩, x7, x8, x9⟩, rfl⟩

end Go.Proofs.Ytbnfofcbajaiiaa.Am
