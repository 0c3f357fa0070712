/- What data read as, cell by cell: each of its kind, and of no object; rows of a slice that came in. -/
import Derived.Test.YtaofbpldflcjmaaDoorMZRead
import Derived.Test.YtaofbpldflcjmaaDoorMMSo
set_option linter.unusedVariables false
set_option linter.unusedSimpArgs false
namespace Go.Proofs.YtaofbpldflcjmaaDoor.Am
mutual
def Sh.kd : Sh -> List Kd
  | .int k => [.int k]
  | .bool => [.bool]
  | .str => [.str]
  | .sl _ s => [.sl s]
  | .st fs => Sh.kdL fs
def Sh.kdL : List Sh -> List Kd
  | [] => []
  | s :: ss => s.kd ++ Sh.kdL ss
end
theorem wk_append : ∀ {K K' : List Kd} {xs ys : List PV}, wk K xs = true -> wk K' ys = true -> wk (K ++ K') (xs ++ ys) = true
  | [], K', [], ys, _, h => h
  | [], K', _ :: _, ys, h, _ => by cases h
  | _ :: _, K', [], ys, h, _ => by cases h
  | k :: K, K', x :: xs, ys, h, h' => by
    simp only [wk, Bool.and_eq_true, List.cons_append] at h ⊢
    exact ⟨h.1, wk_append h.2 h'⟩
theorem old_rows {c : Nat} : ∀ (rows : List {r : List PV // r.length = c}), (∀ r ∈ rows, oldL 0 r.val = true) -> oldL 0 (rows.flatMap Subtype.val) = true
  | [], _ => rfl
  | r :: rows, h => by
    rw [List.flatMap_cons, oldL_append, h r (by simp), old_rows rows fun r hr => h r (by simp [hr])]
    rfl
mutual
theorem Sh.Has.wk : ∀ (s : Sh) (xs : List PV), s.Has xs -> Am.wk s.kd xs = true /\ oldL 0 xs = true
  | .int k, xs, h => by obtain ⟨n, rfl, _⟩ := (by simpa only [Sh.Has] using h); exact ⟨by simp [Sh.kd, Am.wk, Kd.wk], rfl⟩
  | .bool, xs, h => by obtain ⟨b, rfl⟩ := (by simpa only [Sh.Has] using h); exact ⟨rfl, rfl⟩
  | .str, xs, h => by obtain ⟨s, rfl, _⟩ := (by simpa only [Sh.Has] using h); exact ⟨rfl, rfl⟩
  | .sl e s, xs, h => by
    obtain ⟨rows, rfl, hr⟩ := (by simpa only [Sh.Has] using h)
    refine ⟨by simp [Sh.kd, Am.wk, Kd.wk], ?_⟩
    have := old_rows rows fun r hm => (Sh.Has.wk e r.val (hr r hm)).2
    simp only [oldL, oldV, this, Bool.and_self]
  | .st fs, xs, h => by
    simp only [Sh.Has] at h
    exact Sh.HasL.wk fs xs h
theorem Sh.HasL.wk : ∀ (ss : List Sh) (xs : List PV), Sh.HasL ss xs -> Am.wk (Sh.kdL ss) xs = true /\ oldL 0 xs = true
  | [], xs, h => by simp only [Sh.HasL] at h; subst h; exact ⟨rfl, rfl⟩
  | s :: ss, xs, h => by
    simp only [Sh.HasL] at h
    obtain ⟨a, b, rfl, h1, h2⟩ := h
    obtain ⟨k1, k2⟩ := Sh.Has.wk s a h1
    obtain ⟨k3, k4⟩ := Sh.HasL.wk ss b h2
    exact ⟨by simp only [Sh.kdL]; exact wk_append k1 k3, by rw [oldL_append, k2, k4]; rfl⟩
end
theorem chunks_list : ∀ (R : List (List PV)) (es : Nat), (∀ r ∈ R, r.length = es) -> chunks es R.length R.flatten = R
  | [], es, h => rfl
  | r :: R, es, h => by
    have h1 := h r (by simp)
    simp only [List.length_cons, chunks, List.flatten_cons]
    rw [<- h1, List.take_left, List.drop_left, h1, chunks_list R es fun r hr => h r (by simp [hr])]
theorem rows_has {s : Sh} {c : Nat} (rows : List {r : List PV // r.length = c}) (h : ∀ r ∈ rows, s.Has r.val) : rowsOk s.kd (rows.map Subtype.val) = true /\ rows.flatMap Subtype.val = (rows.map Subtype.val).flatten /\ (rows.map Subtype.val).length = rows.length := by
  refine ⟨?_, by rw [List.flatMap_def], by simp⟩
  unfold rowsOk
  rw [List.all_eq_true]
  intro r hr
  obtain ⟨x, hx, rfl⟩ := List.mem_map.1 hr
  have := Sh.Has.wk s x.val (h x hx)
  simp only [this.1, this.2, Bool.and_self]
end Go.Proofs.YtaofbpldflcjmaaDoor.Am
