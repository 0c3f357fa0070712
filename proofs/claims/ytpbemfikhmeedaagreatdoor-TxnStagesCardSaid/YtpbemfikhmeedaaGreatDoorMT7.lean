/- From how Go's data read to the interpreter's values: numbers, truths, texts, slices, structs, arrays, at any depth. -/
import Derived.Test.YtpbemfikhmeedaaGreatDoorMZDat
import Derived.OpenShut
import Derived.ChangeArms
import Derived.DataReads
import Derived.Test.YtpbemfikhmeedaaGreatDoorML
import Derived.Test.YtpbemfikhmeedaaGreatDoorMT6
set_option linter.unusedVariables false
set_option linter.unusedSimpArgs false
set_option maxRecDepth 100000
set_option maxHeartbeats 4000000
namespace Go.Proofs.YtpbemfikhmeedaaGreatDoor.Am
section
inductive Sh where
  | int (k : IntKind)
  | bool
  | str
  | sl (e : Sh) (s : Nat)
  | st (fs : List Sh)
  deriving Inhabited
def shAll (f : TypeId -> Option Sh) : List TypeId -> Option (List Sh)
  | [] => some []
  | t :: ts => match f t, shAll f ts with
    | some s, some ss => some (s :: ss)
    | _, _ => none
def offsOk (P : Program) : List Field -> Nat -> Option Nat
  | [], o => some o
  | f :: r, o => if f.offset = o then offsOk P r (o + P.cellsOf f.type) else none
def shOf (P : Program) : Nat -> TypeId -> Option Sh
  | 0, _ => none
  | d + 1, t => match P.underlying t with
    | some (.int k) => some (.int k)
    | some .bool => some .bool
    | some .string => some .str
    | some (.slice e) => match shOf P d e with
      | some s => some (.sl s (P.cellsOf e))
      | none => none
    | some (.struct fs) => match shAll (shOf P d) (fs.toList.map (·.type)), offsOk P fs.toList 0 with
      | some ss, some o => if o = P.cellsOf t then some (.st ss) else none
      | _, _ => none
    | some (.array n e) => match shOf P d e with
      | some s => if n * P.cellsOf e = P.cellsOf t then some (.st (List.replicate n s)) else none
      | none => none
    | _ => none
mutual
def Sh.Has : Sh -> List PV -> Prop
  | .int k, xs => ∃ n, xs = [.int k n] /\ (Lit.int k n).wf = true
  | .bool, xs => ∃ b, xs = [.bool b]
  | .str, xs => ∃ s : List UInt8, xs = [.str s] /\ s.length <= maxLen
  | .sl e s, xs => ∃ rows : List {r : List PV // r.length = s}, xs = [.sl (rows.flatMap Subtype.val) s rows.length none] /\ ∀ r ∈ rows, e.Has r.val
  | .st fs, xs => Sh.HasL fs xs
def Sh.HasL : List Sh -> List PV -> Prop
  | [], xs => xs = []
  | s :: ss, xs => ∃ a b, xs = a ++ b /\ s.Has a /\ Sh.HasL ss b
end
mutual
theorem Sh.Has.one : ∀ (s : Sh) (xs : List PV), s.Has xs -> xs.all PV.oneCell = true
  | .int k, xs, h => by obtain ⟨n, rfl, _⟩ := (by simpa only [Sh.Has] using h); rfl
  | .bool, xs, h => by obtain ⟨b, rfl⟩ := (by simpa only [Sh.Has] using h); rfl
  | .str, xs, h => by obtain ⟨s, rfl, _⟩ := (by simpa only [Sh.Has] using h); rfl
  | .sl e s, xs, h => by obtain ⟨rows, rfl, _⟩ := (by simpa only [Sh.Has] using h); rfl
  | .st fs, xs, h => Sh.HasL.one fs xs (by simpa only [Sh.Has] using h)
theorem Sh.HasL.one : ∀ (ss : List Sh) (xs : List PV), Sh.HasL ss xs -> xs.all PV.oneCell = true
  | [], xs, h => by have h : xs = [] := (by simpa only [Sh.HasL] using h); subst h; rfl
  | s :: ss, xs, h => by
    obtain ⟨a, b, rfl, h1, h2⟩ := (by simpa only [Sh.HasL] using h : ∃ a b, xs = a ++ b /\ s.Has a /\ Sh.HasL ss b)
    rw [List.all_append, Sh.Has.one s a h1, Sh.HasL.one ss b h2]
    rfl
end
section
variable {H : Type} {enc : TypeId × Value -> H} {P : Program} {W : World} {sp : Nat -> Bool} {held : Bool}
abbrev memG (W : World) : Sealed := fun b o => W.cell? ⟨b, o, none⟩
theorem shAll_cons {f : TypeId -> Option Sh} {t : TypeId} {ts : List TypeId} {ss : List Sh} (h : shAll f (t :: ts) = some ss) : ∃ s r, ss = s :: r /\ f t = some s /\ shAll f ts = some r := by
  unfold shAll at h
  split at h
  . rename_i s r h1 h2
    cases h
    exact ⟨s, r, rfl, h1, h2⟩
  . cases h
theorem fields_rep {d n : Nat} {cs : List Value} (ih : ∀ (t : TypeId) (s : Sh) (l : List Value) (x : DataW H × List MemPlace), shOf P d t = some s -> DataW.trod enc P W 0 sp held n t l = some x -> ∃ xs, s.Has xs /\ Reps (memG W) (fun _ => none) xs l) :
    ∀ (fl : List Field) (ss : List Sh) (o e : Nat), shAll (shOf P d) (fl.map (·.type)) = some ss -> offsOk P fl o = some e -> (∀ f ∈ fl, ∃ x, DataW.trod enc P W 0 sp held n f.type ((cs.drop f.offset).take (P.cellsOf f.type)) = some x) ->
      o <= e /\ ∃ ys, Sh.HasL ss ys /\ Reps (memG W) (fun _ => none) ys ((cs.drop o).take (e - o))
  | [], ss, o, e, h1, h2, h3 => by
    cases h1
    cases h2
    refine ⟨Nat.le_refl _, [], by simp only [Sh.HasL], ?_⟩
    rw [Nat.sub_self]
    exact Reps.nil
  | f :: fl, ss, o, e, h1, h2, h3 => by
    obtain ⟨s, r, rfl, e1, e2⟩ := shAll_cons h1
    unfold offsOk at h2
    split at h2
    . rename_i ho
      obtain ⟨x, hx⟩ := h3 f (by simp)
      obtain ⟨k1, ys, k2, k3⟩ := fields_rep ih fl r _ e e2 h2 fun f hf => h3 f (by simp [hf])
      obtain ⟨xs, q1, q2⟩ := ih _ _ _ _ e1 hx
      refine ⟨by omega, xs ++ ys, by simp only [Sh.HasL]; exact ⟨xs, ys, rfl, q1, k2⟩, ?_⟩
      have : (cs.drop o).take (e - o) = (cs.drop o).take (P.cellsOf f.type) ++ (cs.drop (o + P.cellsOf f.type)).take (e - (o + P.cellsOf f.type)) := by
        rw [show e - o = P.cellsOf f.type + (e - (o + P.cellsOf f.type)) by omega, List.take_add, List.drop_drop]
      rw [this]
      rw [ho] at q2
      exact q2.append k3
    . cases h2
theorem elems_rep {n : Nat} {e : TypeId} {s : Sh} {cs : List Value} {c : Nat} (ih : ∀ (l : List Value) (x : DataW H × List MemPlace), DataW.trod enc P W 0 sp held n e l = some x -> ∃ xs, s.Has xs /\ Reps (memG W) (fun _ => none) xs l) :
    ∀ (k i : Nat), (∀ j, j < k -> ∃ x, DataW.trod enc P W 0 sp held n e ((cs.drop ((i + j) * c)).take c) = some x) ->
      ∃ ys, Sh.HasL (List.replicate k s) ys /\ Reps (memG W) (fun _ => none) ys ((cs.drop (i * c)).take (k * c))
  | 0, i, h => ⟨[], by simp only [List.replicate_zero, Sh.HasL], by rw [Nat.zero_mul]; exact Reps.nil⟩
  | k + 1, i, h => by
    obtain ⟨x, hx⟩ := h 0 (by omega)
    obtain ⟨ys, k2, k3⟩ := elems_rep (s := s) ih k (i + 1) fun j hj => by
      obtain ⟨y, hy⟩ := h (j + 1) (by omega)
      exact ⟨y, by rw [show i + 1 + j = i + (j + 1) by omega]; exact hy⟩
    obtain ⟨xs, q1, q2⟩ := ih _ _ hx
    refine ⟨xs ++ ys, by simp only [List.replicate_succ, Sh.HasL]; exact ⟨xs, ys, rfl, q1, k2⟩, ?_⟩
    have : (cs.drop (i * c)).take ((k + 1) * c) = (cs.drop (i * c)).take c ++ (cs.drop ((i + 1) * c)).take (k * c) := by
      rw [show (k + 1) * c = c + k * c by rw [Nat.add_mul]; omega, List.take_add, List.drop_drop, show i * c + c = (i + 1) * c by rw [Nat.add_mul]; omega]
    rw [this]
    rw [Nat.add_zero] at q2
    exact q2.append k3
theorem rows_rep {n : Nat} {e : TypeId} {s : Sh} {c : Nat} {a : Addr} (ih : ∀ (l : List Value) (x : DataW H × List MemPlace), DataW.trod enc P W 0 sp held n e l = some x -> ∃ xs, s.Has xs /\ Reps (memG W) (fun _ => none) xs l) :
    ∀ (k : Nat), (∀ j, j < k -> ∃ l x, W.cells? 0 (a.add (j * c)) c = some l /\ DataW.trod enc P W 0 sp held n e l = some x) ->
      ∃ rows : List {r : List PV // r.length = c}, rows.length = k /\ (∀ r ∈ rows, s.Has r.val) /\
        ∀ (i : Nat) (hi : i < rows.length) (j : Nat) (x : PV), rows[i].val[j]? = some x -> ∃ v, W.cell? ((a.add (i * c)).add j) = some v /\ Rep (memG W) (fun _ => none) x v
  | 0, h => ⟨[], rfl, fun r hr => (by cases hr), fun i hi => (by simp at hi)⟩
  | k + 1, h => by
    obtain ⟨rows, h1, h2, h3⟩ := rows_rep ih k fun j hj => h j (by omega)
    obtain ⟨l, x, hl, hx⟩ := h k (by omega)
    obtain ⟨xs, q1, q2⟩ := ih _ _ hx
    unfold World.cells? at hl
    rw [if_pos (Nat.zero_le _)] at hl
    have hlen : l.length = c := by simpa using mapM_some_length hl
    have hxs : xs.length = c := by rw [<- hlen, q2.1]
    refine ⟨rows ++ [⟨xs, hxs⟩], by simp [h1], fun r hr => ?_, fun i hi j y hy => ?_⟩
    . rcases List.mem_append.1 hr with hr | hr
      . exact h2 r hr
      . simp only [List.mem_singleton] at hr
        subst hr
        exact q1
    . by_cases hk : i < rows.length
      . have e1 : (rows ++ [⟨xs, hxs⟩])[i] = rows[i] := List.getElem_append_left hk
        rw [e1] at hy
        exact h3 i hk j y hy
      . have hik : i = rows.length := by simp at hi; omega
        subst hik
        have e1 : (rows ++ [(⟨xs, hxs⟩ : {r : List PV // r.length = c})])[rows.length] = ⟨xs, hxs⟩ := by simp
        rw [e1] at hy
        have hj : j < c := by rw [<- hxs]; exact (List.getElem?_eq_some_iff.1 hy).1
        have hg := mapM_some_get hl j j (by simp [hj])
        have hjl : j < l.length := by omega
        rw [List.getElem?_eq_getElem hjl] at hg
        exact ⟨_, by rw [h1]; exact hg, q2.2 j y l[j] hy (by simp [hjl])⟩
theorem trod_rep : ∀ (n d : Nat) (t : TypeId) (s : Sh) (l : List Value) (x : DataW H × List MemPlace), shOf P d t = some s -> DataW.trod enc P W 0 sp held n t l = some x -> ∃ xs, s.Has xs /\ Reps (memG W) (fun _ => none) xs l
  | 0, d, t, s, l, x, hs, h => by simp [DataW.trod] at h
  | n + 1, 0, t, s, l, x, hs, h => by cases hs
  | n + 1, d + 1, t, s, l, x, hs, h => by
    unfold shOf at hs
    split at hs
    . rename_i k hu
      cases hs
      obtain ⟨m, rfl, _, hw⟩ := DataW.trod_int hu h
      exact ⟨[.int k m], by simp only [Sh.Has]; exact ⟨m, rfl, hw⟩, Reps.cons (.int _ _) Reps.nil⟩
    . rename_i hu
      cases hs
      obtain ⟨b, rfl, _⟩ := DataW.trod_bool hu h
      exact ⟨[.bool b], by simp only [Sh.Has]; exact ⟨b, rfl⟩, Reps.cons (.bool _) Reps.nil⟩
    . rename_i hu
      cases hs
      obtain ⟨b, rfl, _, hz⟩ := DataW.trod_string hu h
      obtain ⟨⟨b⟩⟩ := b
      exact ⟨[.str b], by simp only [Sh.Has]; exact ⟨b, rfl, hz⟩, Reps.cons (.str _) Reps.nil⟩
    . rename_i e hu
      split at hs
      . rename_i se hse
        cases hs
        rcases DataW.trod_slice hu h with ⟨rfl, _⟩ | ⟨a, len, cap, elems, rest, n', hn', rfl, _, _, hlc, _, hel, hE, _, _⟩
        . exact ⟨[.sl [] (P.cellsOf e) 0 none], by simp only [Sh.Has]; exact ⟨[], rfl, fun r hr => by cases hr⟩, Reps.cons (.slNil (fun c hc => by cases hc)) Reps.nil⟩
        . have hn' : n' = n := by omega
          subst hn'
          obtain ⟨rows, h1, h2, h3⟩ := rows_rep (P := P) (enc := enc) (sp := sp) (held := held) (n := n') (e := e) (s := se) (c := P.cellsOf e) (a := a) (fun l x hx => trod_rep n' d e se l x hse hx) len fun j hj => by
            have hE := hE j hj
            have hjl : j < elems.length := by omega
            rw [List.getElem?_eq_getElem hjl] at hE
            obtain ⟨l, hl1, hl2⟩ := Option.bind_eq_some_iff.1 hE
            exact ⟨l, _, hl1, hl2⟩
          have he : ∀ r : {r : List PV // r.length = P.cellsOf e}, r.val.length = P.cellsOf e := fun r => r.2
          have hfl : (rows.flatMap Subtype.val).length = rows.length * P.cellsOf e := flat_length (enc := Subtype.val) he rows
          have cell : ∀ (j : Nat) (x : PV), (rows.flatMap Subtype.val)[j]? = some x -> ∃ v, a.spot = none /\ W.cell? ⟨a.block, a.off + j, none⟩ = some v /\ Rep (memG W) (fun _ => none) x v := by
            intro j x hj
            have hlt := (List.getElem?_eq_some_iff.1 hj).1
            rw [hfl] at hlt
            have hc0 : 0 < P.cellsOf e := Nat.pos_of_ne_zero fun e0 => by
              have e1 : rows.length * P.cellsOf e = rows.length * 0 := congrArg (rows.length * ·) e0
              omega
            have hi : j / P.cellsOf e < rows.length := by rw [Nat.div_lt_iff_lt_mul hc0]; exact hlt
            have hm : j % P.cellsOf e < P.cellsOf e := Nat.mod_lt _ hc0
            have hjj : j = j / P.cellsOf e * P.cellsOf e + j % P.cellsOf e := by rw [Nat.mul_comm]; exact (Nat.div_add_mod _ _).symm
            rw [hjj, flat_get? (enc := Subtype.val) he hi hm] at hj
            obtain ⟨v, hv1, hv2⟩ := h3 _ hi _ x hj
            have hsp : a.spot = none := by
              obtain ⟨ab, ao, asp⟩ := a
              by_cases h0 : j / P.cellsOf e * P.cellsOf e = 0 /\ j % P.cellsOf e = 0
              . have := World.cell?_spot hv1
                simpa [Addr.add, h0.1, h0.2] using this
              . -- the first element's first cell
                obtain ⟨l0, x0, hl0, _⟩ : ∃ l x, W.cells? 0 ((⟨ab, ao, asp⟩ : Addr).add (0 * P.cellsOf e)) (P.cellsOf e) = some l /\ DataW.trod enc P W 0 sp held n' e l = some x := by
                  have h00 : 0 < len := by
                    have hi2 := hi
                    rw [h1] at hi2
                    exact Nat.lt_of_le_of_lt (Nat.zero_le _) hi2
                  have hE := hE 0 h00
                  have hjl : 0 < elems.length := by omega
                  rw [List.getElem?_eq_getElem hjl] at hE
                  obtain ⟨l, hl1, hl2⟩ := Option.bind_eq_some_iff.1 hE
                  exact ⟨l, _, hl1, hl2⟩
                unfold World.cells? at hl0
                rw [if_pos (Nat.zero_le _)] at hl0
                have hg := mapM_some_get hl0 0 0 (by simp [hc0])
                have hl0l : l0.length = P.cellsOf e := by simpa using mapM_some_length hl0
                rw [List.getElem?_eq_getElem (by omega)] at hg
                have := World.cell?_spot hg
                simpa [Addr.add] using this
            refine ⟨v, hsp, ?_, hv2⟩
            rw [<- hv1]
            congr 1
            obtain ⟨ab, ao, asp⟩ := a
            simp only at hsp
            subst hsp
            have ad : ∀ (o k : Nat), (⟨ab, o, none⟩ : Addr).add k = ⟨ab, o + k, none⟩ := fun o k => by
              unfold Addr.add
              split
              . rename_i h0; subst h0; rfl
              . rfl
            rw [ad, ad]
            simp only [Addr.mk.injEq, and_true, true_and]
            omega
          refine ⟨[.sl (rows.flatMap Subtype.val) (P.cellsOf e) rows.length none], by simp only [Sh.Has]; exact ⟨rows, rfl, h2⟩, Reps.cons ?_ Reps.nil⟩
          rw [<- h1] at hlc ⊢
          have one : (rows.flatMap Subtype.val).all PV.oneCell = true := by
            rw [List.all_eq_true]
            intro y hy
            obtain ⟨r, hr, hy⟩ := List.mem_flatMap.1 hy
            exact List.all_eq_true.1 (Sh.Has.one se r.val (h2 r hr)) y hy
          refine .sl a cap (fun j => (W.cell? ⟨a.block, a.off + j, none⟩).getD (.bool false)) hfl hlc (fun c hc => by cases hc) (fun j x hj => ?_) (fun j x hj => ?_)
          . obtain ⟨v, c1, c2, c3⟩ := cell j x hj
            refine ⟨c1, ?_, List.all_eq_true.1 one x (List.mem_of_getElem? hj)⟩
            show W.cell? ⟨a.block, a.off + j, none⟩ = _
            rw [c2]; rfl
          . obtain ⟨v, c1, c2, c3⟩ := cell j x hj
            rw [c2]
            exact c3
      . cases hs
    . rename_i fs hu
      split at hs
      . rename_i ss o h1 h2
        split at hs
        . rename_i ho
          cases hs
          obtain ⟨xs, n', hn', _, hlen, hxl, hF⟩ := DataW.trod_struct hu h
          have hn' : n' = n := by omega
          subst hn'
          obtain ⟨_, ys, k1, k2⟩ := fields_rep (n := n') (cs := l) (fun t s l x h1 h2 => trod_rep n' d t s l x h1 h2) fs.toList ss 0 o h1 h2 fun f hf => by
            obtain ⟨i, hi, rfl⟩ := List.getElem_of_mem hf
            have hi' : i < fs.size := by simpa using hi
            have := hF i (fs.toList[i]) (by simp [hi'])
            have hix : i < xs.length := by omega
            rw [List.getElem?_eq_getElem hix] at this
            exact ⟨_, this⟩
          refine ⟨ys, by simp only [Sh.Has]; exact k1, ?_⟩
          rw [List.drop_zero, Nat.sub_zero, ho, <- hlen, List.take_length] at k2
          exact k2
        . cases hs
      . cases hs
    . rename_i m e hu
      split at hs
      . rename_i se hse
        split at hs
        . rename_i hm
          cases hs
          obtain ⟨xs, n', hn', _, hlen, hxl, hF⟩ := DataW.trod_array hu h
          have hn' : n' = n := by omega
          subst hn'
          obtain ⟨ys, k1, k2⟩ := elems_rep (n := n') (cs := l) (c := P.cellsOf e) (s := se) (fun l x h2 => trod_rep n' d e se l x hse h2) m 0 fun j hj => by
            have := hF j hj
            have hix : j < xs.length := by omega
            rw [List.getElem?_eq_getElem hix] at this
            exact ⟨_, by rw [Nat.zero_add]; exact this⟩
          refine ⟨ys, by simp only [Sh.Has]; exact k1, ?_⟩
          rw [Nat.zero_mul, List.drop_zero, hm, <- hlen, List.take_length] at k2
          exact k2
        . cases hs
      . cases hs
    . cases hs
end
end
section
open St
mutual
def Sh.kd : Sh -> List Kd
  | .int k => [.int k]
  | .bool => [.bool]
  | .str => [.str]
  | .sl _ s => [.sl s]
  | .st fs => Sh.kdL fs
def Sh.kdL : List Sh -> List Kd
  | [] => []
  | s :: ss => s.kd ++ Sh.kdL ss
end
theorem wk_append : ∀ {K K' : List Kd} {xs ys : List PV}, wk K xs = true -> wk K' ys = true -> wk (K ++ K') (xs ++ ys) = true
  | [], K', [], ys, _, h => h
  | [], K', _ :: _, ys, h, _ => by cases h
  | _ :: _, K', [], ys, h, _ => by cases h
  | k :: K, K', x :: xs, ys, h, h' => by
    simp only [wk, Bool.and_eq_true, List.cons_append] at h ⊢
    exact ⟨h.1, wk_append h.2 h'⟩
theorem old_rows {c : Nat} : ∀ (rows : List {r : List PV // r.length = c}), (∀ r ∈ rows, oldL 0 r.val = true) -> oldL 0 (rows.flatMap Subtype.val) = true
  | [], _ => rfl
  | r :: rows, h => by
    rw [List.flatMap_cons, oldL_append, h r (by simp), old_rows rows fun r hr => h r (by simp [hr])]
    rfl
mutual
theorem Sh.Has.wk : ∀ (s : Sh) (xs : List PV), s.Has xs -> Am.wk s.kd xs = true /\ oldL 0 xs = true
  | .int k, xs, h => by obtain ⟨n, rfl, _⟩ := (by simpa only [Sh.Has] using h); exact ⟨by simp [Sh.kd, Am.wk, Kd.wk], rfl⟩
  | .bool, xs, h => by obtain ⟨b, rfl⟩ := (by simpa only [Sh.Has] using h); exact ⟨rfl, rfl⟩
  | .str, xs, h => by obtain ⟨s, rfl, _⟩ := (by simpa only [Sh.Has] using h); exact ⟨rfl, rfl⟩
  | .sl e s, xs, h => by
    obtain ⟨rows, rfl, hr⟩ := (by simpa only [Sh.Has] using h)
    refine ⟨by simp [Sh.kd, Am.wk, Kd.wk], ?_⟩
    have := old_rows rows fun r hm => (Sh.Has.wk e r.val (hr r hm)).2
    simp only [oldL, oldV, this, Bool.and_self]
  | .st fs, xs, h => by
    simp only [Sh.Has] at h
    exact Sh.HasL.wk fs xs h
theorem Sh.HasL.wk : ∀ (ss : List Sh) (xs : List PV), Sh.HasL ss xs -> Am.wk (Sh.kdL ss) xs = true /\ oldL 0 xs = true
  | [], xs, h => by simp only [Sh.HasL] at h; subst h; exact ⟨rfl, rfl⟩
  | s :: ss, xs, h => by
    simp only [Sh.HasL] at h
    obtain ⟨a, b, rfl, h1, h2⟩ := h
    obtain ⟨k1, k2⟩ := Sh.Has.wk s a h1
    obtain ⟨k3, k4⟩ := Sh.HasL.wk ss b h2
    exact ⟨by simp only [Sh.kdL]; exact wk_append k1 k3, by rw [oldL_append, k2, k4]; rfl⟩
end
theorem rows_has {s : Sh} {c : Nat} (rows : List {r : List PV // r.length = c}) (h : ∀ r ∈ rows, s.Has r.val) : rowsOk s.kd (rows.map Subtype.val) = true /\ rows.flatMap Subtype.val = (rows.map Subtype.val).flatten /\ (rows.map Subtype.val).length = rows.length := by
  refine ⟨?_, by rw [List.flatMap_def], by simp⟩
  unfold rowsOk
  rw [List.all_eq_true]
  intro r hr
  obtain ⟨x, hx, rfl⟩ := List.mem_map.1 hr
  have := Sh.Has.wk s x.val (h x hx)
  simp only [this.1, this.2, Bool.and_self]
mutual
def Sh.sk : Sh -> List (Option (List Kd))
  | .int _ => [none]
  | .bool => [none]
  | .str => [none]
  | .sl e _ => [some e.kd]
  | .st fs => Sh.skL fs
def Sh.skL : List Sh -> List (Option (List Kd))
  | [] => []
  | s :: ss => s.sk ++ Sh.skL ss
end
def cellR : Option (List Kd) -> PV -> Prop
  | none, x => ∀ k n, x = .int k n -> (Lit.int k n).wf = true
  | some K, x => slR K x
def wkS : List (Option (List Kd)) -> List PV -> Prop
  | [], [] => True
  | o :: os, x :: xs => cellR o x /\ wkS os xs
  | _, _ => False
theorem wkS_append : ∀ {a b : List (Option (List Kd))} {xs ys : List PV}, wkS a xs -> wkS b ys -> wkS (a ++ b) (xs ++ ys)
  | [], b, [], ys, _, h => h
  | [], b, _ :: _, ys, h, _ => by cases h
  | _ :: _, b, [], ys, h, _ => by cases h
  | o :: a, b, x :: xs, ys, h, h' => ⟨h.1, wkS_append h.2 h'⟩
theorem wkS_get : ∀ {os : List (Option (List Kd))} {xs : List PV} {j : Nat} {o : Option (List Kd)}, wkS os xs -> os[j]? = some o -> cellR o (xs.getD j .nilp)
  | [], _, j, o, _, h => by cases j <;> cases h
  | _ :: _, [], _, _, h, _ => by cases h
  | p :: os, x :: xs, 0, o, h, e => by
    cases e
    exact h.1
  | p :: os, x :: xs, j + 1, o, h, e => by
    have := wkS_get (j := j) h.2 (by simpa using e)
    simpa using this
theorem slR_rows {s : Sh} {c : Nat} (rows : List {r : List PV // r.length = c}) (h : ∀ r ∈ rows, s.Has r.val) : slR s.kd (.sl (rows.flatMap Subtype.val) c rows.length none) := by
  obtain ⟨h1, h2, h3⟩ := rows_has rows h
  exact ⟨rows.map Subtype.val, h1, h2.symm, h3⟩
mutual
theorem Sh.Has.wkS : ∀ (s : Sh) (xs : List PV), s.Has xs -> Am.wkS s.sk xs
  | .int k, xs, h => by
    obtain ⟨n, rfl, hw⟩ := (by simpa only [Sh.Has] using h)
    refine ⟨fun k' n' e => ?_, trivial⟩
    cases e
    exact hw
  | .bool, xs, h => by
    obtain ⟨b, rfl⟩ := (by simpa only [Sh.Has] using h)
    exact ⟨fun k' n' e => (by cases e), trivial⟩
  | .str, xs, h => by
    obtain ⟨s, rfl, _⟩ := (by simpa only [Sh.Has] using h)
    exact ⟨fun k' n' e => (by cases e), trivial⟩
  | .sl e s, xs, h => by
    obtain ⟨rows, rfl, hr⟩ := (by simpa only [Sh.Has] using h)
    exact ⟨slR_rows rows hr, trivial⟩
  | .st fs, xs, h => by
    simp only [Sh.Has] at h
    exact Sh.HasL.wkS fs xs h
theorem Sh.HasL.wkS : ∀ (ss : List Sh) (xs : List PV), Sh.HasL ss xs -> Am.wkS (Sh.skL ss) xs
  | [], xs, h => by simp only [Sh.HasL] at h; subst h; exact trivial
  | s :: ss, xs, h => by
    simp only [Sh.HasL] at h
    obtain ⟨a, b, rfl, h1, h2⟩ := h
    exact wkS_append (Sh.Has.wkS s a h1) (Sh.HasL.wkS ss b h2)
end
theorem wk_get : ∀ {K : List Kd} {xs : List PV} {j : Nat} {k : Kd}, wk K xs = true -> K[j]? = some k -> k.wk (xs.getD j .nilp) = true
  | [], _, j, k, _, h => by cases j <;> cases h
  | _ :: _, [], _, _, h, _ => by cases h
  | p :: K, x :: xs, 0, k, h, e => by
    cases e
    simp only [wk, Bool.and_eq_true] at h
    exact h.1
  | p :: K, x :: xs, j + 1, k, h, e => by
    simp only [wk, Bool.and_eq_true] at h
    have := wk_get (j := j) h.2 (by simpa using e)
    simpa using this
theorem r8_of {x : List PV} (h : wk KFr x = true) (hs : wkS (List.replicate 26 none) x) : r8 x := by
  intro i hi
  have hk : KFr[2 + i]? = some (.int .u8) := by
    have key : ∀ i, i < 16 -> KFr[2 + i]? = some (.int .u8) := by
      intro i hi
      match i, hi with
      | 0, _ => rfl
      | 1, _ => rfl
      | 2, _ => rfl
      | 3, _ => rfl
      | 4, _ => rfl
      | 5, _ => rfl
      | 6, _ => rfl
      | 7, _ => rfl
      | 8, _ => rfl
      | 9, _ => rfl
      | 10, _ => rfl
      | 11, _ => rfl
      | 12, _ => rfl
      | 13, _ => rfl
      | 14, _ => rfl
      | 15, _ => rfl
      | i + 16, h => exact absurd h (by omega)
    exact key i hi
  have hn : (List.replicate 26 (none : Option (List Kd)))[2 + i]? = some none := by
    rw [List.getElem?_replicate]
    rw [if_pos (by omega)]
  have h1 := wk_get h hk
  have h2 := wkS_get hs hn
  show 0 <= asI (x.getD (1 + 1 + i) .nilp) /\ asI (x.getD (1 + 1 + i) .nilp) < 256
  rw [show 1 + 1 + i = 2 + i from by omega]
  generalize x.getD (2 + i) .nilp = y at h1 h2 ⊢
  cases y with
  | int k n =>
    have hkk : k = .u8 := by
      have : IntKind.u8 = k := by simpa [Kd.wk] using h1
      exact this.symm
    subst hkk
    have hw := h2 _ _ rfl
    simp only [Lit.wf, Bool.and_eq_true, decide_eq_true_eq] at hw
    obtain ⟨w1, w2⟩ := hw
    simp [IntKind.min, IntKind.max, IntKind.signed, IntKind.bits] at w1 w2
    show 0 <= n /\ n < 256
    omega
  | _ => simp [Kd.wk] at h1
end
section
open St
def opSk : List (Option (List Kd)) := none :: (List.replicate 26 none ++ ([none, none, none, none, none, none, some KPt, some KIn] ++ [none, none, some KPt]))
structure OW (u : List PV) : Prop where
  a : askO u = true
  s : wkS opSk u
theorem slR_eq {K : List Kd} {x y : PV} (h : slR K x) (e1 : slCells y = slCells x) (e2 : slLen y = slLen x) : slR K y := by
  obtain ⟨R, h1, h2, h3⟩ := h
  exact ⟨R, h1, by rw [e1]; exact h2, by rw [e2]; exact h3⟩
theorem OW.r8 {u : List PV} (h : OW u) : r8 (opF u) := by
  have ha := h.a
  unfold askO at ha
  simp only [Bool.and_eq_true] at ha
  have hw := ha.1
  intro i hi
  have hk : KOp[3 + i]? = some (.int .u8) /\ opSk[3 + i]? = some none /\ asI ((opF u).getD (1 + 1 + i) .nilp) = asI (u.getD (3 + i) .nilp) := by
    match i, hi with
    | 0, _ => exact ⟨rfl, rfl, rfl⟩
    | 1, _ => exact ⟨rfl, rfl, rfl⟩
    | 2, _ => exact ⟨rfl, rfl, rfl⟩
    | 3, _ => exact ⟨rfl, rfl, rfl⟩
    | 4, _ => exact ⟨rfl, rfl, rfl⟩
    | 5, _ => exact ⟨rfl, rfl, rfl⟩
    | 6, _ => exact ⟨rfl, rfl, rfl⟩
    | 7, _ => exact ⟨rfl, rfl, rfl⟩
    | 8, _ => exact ⟨rfl, rfl, rfl⟩
    | 9, _ => exact ⟨rfl, rfl, rfl⟩
    | 10, _ => exact ⟨rfl, rfl, rfl⟩
    | 11, _ => exact ⟨rfl, rfl, rfl⟩
    | 12, _ => exact ⟨rfl, rfl, rfl⟩
    | 13, _ => exact ⟨rfl, rfl, rfl⟩
    | 14, _ => exact ⟨rfl, rfl, rfl⟩
    | 15, _ => exact ⟨rfl, rfl, rfl⟩
    | i + 16, h => exact absurd h (by omega)
  obtain ⟨k1, k2, k3⟩ := hk
  have h1 := wk_get hw k1
  have h2 := wkS_get h.s k2
  show 0 <= asI ((opF u).getD (1 + 1 + i) .nilp) /\ asI ((opF u).getD (1 + 1 + i) .nilp) < 256
  rw [k3]
  generalize u.getD (3 + i) .nilp = y at h1 h2 ⊢
  cases y with
  | int k n =>
    have hkk : k = .u8 := by
      have : IntKind.u8 = k := by simpa [Kd.wk] using h1
      exact this.symm
    subst hkk
    have hw := h2 _ _ rfl
    simp only [Lit.wf, Bool.and_eq_true, decide_eq_true_eq] at hw
    obtain ⟨w1, w2⟩ := hw
    simp [IntKind.min, IntKind.max, IntKind.signed, IntKind.bits] at w1 w2
    show 0 <= n /\ n < 256
    omega
  | _ => simp [Kd.wk] at h1
theorem OW.wr {u : List PV} (h : OW u) : WR (oneR u) [opF u] [opG u] [opI u] := by
  have one : ∀ {K : List Kd} {x : List PV}, wk K x = true /\ oldL 0 x = true -> rowsOk K [x] = true := fun {K x} hx => by unfold rowsOk; simp [hx.1, hx.2]
  refine ⟨one (opF_ok h.a), one (opG_ok h.a), one (opI_ok h.a), by simp [oneR], by simp [oneR], by simp [oneR], rfl, rfl, rfl, ?_, ?_, ?_⟩
  . intro x hx
    rw [List.mem_singleton.1 hx]
    exact h.r8
  . intro x hx
    rw [List.mem_singleton.1 hx]
    have a6 : slR KPt (u.getD 33 .nilp) := wkS_get h.s (show opSk[33]? = some (some KPt) from rfl)
    have a7 : slR KIn (u.getD 34 .nilp) := wkS_get h.s (show opSk[34]? = some (some KIn) from rfl)
    exact ⟨slR_eq a6 rfl rfl, slR_eq a7 rfl rfl⟩
  . intro x hx
    rw [List.mem_singleton.1 hx]
    have a2 : slR KPt (u.getD 37 .nilp) := wkS_get h.s (show opSk[37]? = some (some KPt) from rfl)
    exact slR_eq a2 rfl rfl
theorem OW.ok {u : List PV} (h : OW u) (hl : (oneR u).longR = false) : opOk u = true := by
  have hk := h.wr.ok (by rfl) hl
  have lx := Rw.lists hk
  have g := lx.gk (opG u) (by rw [h.wr.eG]; simp)
  have i := lx.ik (opI u) (by rw [h.wr.eI]; simp)
  unfold opOk
  rw [h.a, g, i]
  rfl
end
section
open St
theorem thirdX_ok {c : List PV} {n : Nat} {u : List PV} {i e : Int} {A : Rw} {k : Option PV} (hA : A.ok = true) (hu : askO u = true) (hat : (atX c n i).all id = true) : thirdX c n u i A A e e k = k := by
  unfold thirdX
  have e0 : (e != e) = false := by simp
  have e1 : (!(svA u == svA u && (svB u == svB u && true))) = false := by simp
  rw [e0, cond_false, asks_of (o3_ok hA 7), asks_of (o3_ok hA 0), asks_of (ask1 (Rw.ok_0 hA)), asks_of (o3_ok hA 7), asks_of (o3_ok hA 0), asks_of (o3_ok hA 0), asks_of (ask1 (by rw [hA]; rfl)), Rw.same_refl, Bool.not_true, cond_false,
    asks_of (oOld_ok hu 7), asks_of (oOld_ok hu 0), asks_of (ask1 hu), asks_of hat, asks_of (oOld_ok hu 7), asks_of (oOld_ok hu 0), asks_of (ask1 hu), e1, cond_false]
theorem roundX_ok {r : Rw} {c : List PV} {n : Nat} {u : List PV} {i : Int} {k : Option PV} (h : r.ok = true) (hb : ∀ x ∈ r.F, r8 x) (ho : opOk u = true) (hp : r8 (opF u)) (n1 : r.nf < 1000000) (n2 : r.ng < 1000000) (n3 : r.ni < 1000000) (hat : (atX c n i).all id = true) : roundX r c n u i k = k := by
  have hu := opOk_ask ho
  unfold roundX
  rw [asks_of hat, asks_of (o3_ok h 0), asks_of (oOld_ok hu 0)]
  cases hk : known u with
  | false =>
    rw [cond_false, asks_of (ask1 hu)]
    unfold secondX
    rw [asks_of (o3_ok h 6), asks_of hat, asks_of (oOld_ok hu 6), asks_of (o3_ok h 0), asks_of (oOld_ok hu 0), hk, cond_false, asks_of (ask1 hu)]
    exact thirdX_ok nilR_ok hu hat
  | true =>
    obtain ⟨d1, d2, d3, d4, d5⟩ := do_same h hb ho hp n1 n2 n3 hk
    rw [cond_true, d1]
    cases hn : noneR r u with
    | true =>
      rw [cond_true, asks_of (ask1 (by rw [h, hu]; rfl))]
      unfold secondX
      rw [asks_of (o3_ok h 6), asks_of hat, asks_of (oOld_ok hu 6), asks_of (o3_ok h 0), asks_of (oOld_ok hu 0), hk, cond_true, hn, cond_true, asks_of (ask1 (by rw [h, hu, d4]; rfl))]
      exact thirdX_ok nilR_ok hu hat
    | false =>
      rw [cond_false, asks_of (ask1 (by rw [h, hu, d3]; rfl))]
      unfold secondX
      rw [asks_of (o3_ok h 6), asks_of hat, asks_of (oOld_ok hu 6), asks_of (o3_ok h 0), asks_of (oOld_ok hu 0), hk, cond_true, hn, cond_false, asks_of (ask1 (by rw [h, hu, d4]; rfl)), d2]
      exact thirdX_ok d5 hu hat
theorem exitX_ok {n : Nat} {R : List (List PV)} (hR : rowsOk KOp R = true) (hl : R.length = n) (hn : n <= 1000000) : exitX R.flatten n = some (.bool true) := by
  have hc : chunks 38 n R.flatten = R := by
    rw [<- hl]
    exact chunks_of (K := KOp) hR
  have hk := keysT_ok R
  have hU := sortU_ok hk
  have hlen : (sortU (keysT R)).length <= 1000000 := by
    have h1 := sortU_len (keysT R) []
    rw [List.length_nil] at h1
    have h2 : (keysT R).length <= R.length := by
      unfold keysT
      rw [List.length_map]
      exact List.length_filter_le _ _
    have h3 : (sortU (keysT R)).length <= (keysT R).length := Nat.le_trans h1 (by omega)
    omega
  have hcu : chunks 2 (sortU (keysT R)).length (sortU (keysT R)).flatten = sortU (keysT R) := chunks_of (K := KKy) hU
  have ho := rows_old hR
  have hr : rowsC KOp n R.flatten = true := by
    rw [<- hl]
    exact rowsC_of hR (by omega)
  have hru : rowsC KKy (sortU (keysT R)).length (sortU (keysT R)).flatten = true := rowsC_of hU hlen
  unfold exitX touT
  rw [hc, hr, ho, rows_old hU, hru, hcu, show Nat.beq (sortU (keysT R)).length (sortU (keysT R)).length = true from Nat.beq_refl _, eqRows_refl _ fun x _ => by unfold eqK2; simp]
  rfl
theorem endX_ok {r : Rw} {c : List PV} {S G : Sg} (h : r.ok = true) (hS : S.1.ok = true) (hG : G.1.ok = true) (hc : oldL 0 c = true) : (endX r c S G).all id = true := by
  have a := o3_ok h 4
  have b := o3_ok hS 4
  have d := o3_ok hG 4
  have e : oldL 4 c = true := oldL_le (Nat.zero_le 4) _ hc
  have e1 : ([oldL 4 c] : List Bool).all id = true := ask1 e
  have e2 : ([oldL 4 c, oldL 4 c] : List Bool).all id = true := cons_ok e (ask1 e)
  unfold endX
  exact all_app' a (all_app' e2 (all_app' a (all_app' e1 (all_app' a (all_app' a (all_app' e2 (all_app' b (all_app' a (all_app' e1 (all_app' b (all_app' b (all_app' d (all_app' a (all_app' e1 (all_app' d (all_app' d (all_app' b (all_app' b (all_app' d
    (all_app' a (all_app' a (all_app' a (all_app' e1 (all_app' a (all_app' a (all_app' b d))))))))))))))))))))))))))
theorem x_loop {n : Nat} {r : Rw} {R : List (List PV)} {S G : Sg} {g : Nat -> Int -> Option PV} (hg : ∀ m i, g (m + 1) i = (bif decide (i < (n : Int)) then roundX r R.flatten n (opAt R.flatten i) i (asks (endX r R.flatten S G) <| g m (IntKind.i64.wrap (i + 1))) else exitX R.flatten n))
    (h : r.ok = true) (hb : ∀ x ∈ r.F, r8 x) (hR : rowsOk KOp R = true) (hu : ∀ u ∈ R, opOk u = true /\ r8 (opF u)) (n1 : r.nf < 1000000) (n2 : r.ng < 1000000) (n3 : r.ni < 1000000) (hS : S.1.ok = true) (hG : G.1.ok = true) (hl : R.length = n) (hn : n <= 1000000) :
    ∀ (k i t : Nat), i + k = n -> g (t + k + 1) (i : Int) = some (.bool true)
  | 0, i, t, e => by
    rw [hg, cond_f (show decide ((i : Int) < (n : Int)) = false from by simp; omega)]
    exact exitX_ok hR hl hn
  | k + 1, i, t, e => by
    have hi : i < R.length := by omega
    have hp := op_at hR hi
    have hui := hu R[i] (List.getElem_mem hi)
    have hat : (atX R.flatten n (i : Int)).all id = true := cons_ok (inside (by omega : i < n)) (cons_ok (by rw [Int.toNat_natCast]; exact hp.2) rfl)
    rw [show t + (k + 1) + 1 = (t + k + 1) + 1 from by omega, hg, cond_t (show decide ((i : Int) < (n : Int)) = true from by simp; omega), hp.1, roundX_ok h hb hui.1 hui.2 n1 n2 n3 hat, asks_of (endX_ok h hS hG (rows_old hR)), wrap_succ (by omega : i < 9223372036854775807)]
    exact x_loop hg h hb hR hu n1 n2 n3 hS hG hl hn k (i + 1) t (by omega)
theorem chkX_ok {N : Nat} {r : Rw} {S : Sg} {k : Option PV} (h : r.ok = true) (hS : S.1.ok = true) : chkX N r S S (S.2.2 : Int) k = k := by
  unfold chkX
  have e0 : ((S.2.2 : Int) != (S.2.2 : Int)) = false := by simp
  have e1 : ((S.2.1 : Int) != (S.2.1 : Int)) = false := by simp
  rw [e0, cond_false, e1, cond_false, asks_of (o3_ok hS 4), asks_of (o3_ok hS 0), asks_of (ask1 (Rw.ok_0 hS)), asks_of (o3_ok hS 4), asks_of (o3_ok hS 0), asks_of (o3_ok hS 0), asks_of (ask1 (by rw [hS]; rfl)), Rw.same_refl, Bool.not_true, cond_false,
    asks_of (o3_ok h 4), asks_of (o3_ok h 0), asks_of (ask1 (Rw.ok_0 h)), asks_of (o3_ok h 4), asks_of (o3_ok h 0), asks_of (o3_ok h 0), asks_of (ask1 (by rw [h]; rfl)), Rw.same_refl, Bool.not_true, cond_false]
theorem holdsX {r : Rw} {F G I R : List (List PV)} (W : WR r F G I) (hR : rowsOk KOp R = true) (hO : ∀ u ∈ R, OW u) : apartS EN TX H0 1000009 5 3 [r.pv, .sl R.flatten 38 R.length none] = some (.bool true) := by
  have ho := rows_old hR
  have hcR : chunks 38 R.length R.flatten = R := chunks_of (K := KOp) hR
  rw [x0, asks_of (W.old 0)]
  cases h1 : gt r.nf 40 || (gt r.ng 40 || gt r.ni 40) with
  | true => rfl
  | false =>
    rw [cond_false, asks_of (ask1 (W.ok0 h1))]
    cases h2 : r.longR with
    | true => rfl
    | false =>
      have hr := W.ok h1 h2
      simp only [Bool.or_eq_false_iff] at h1
      obtain ⟨a1, a2, a3⟩ := h1
      have n1 := gt_false (k := 40) a1
      have n2 := gt_false (k := 40) a2
      have n3 := gt_false (k := 40) a3
      rw [cond_false, asks_of (ask1 ho)]
      cases h3 : decide (((R.length : Nat) : Int) > 12) with
      | true => rfl
      | false =>
        have hlen : R.length <= 12 := by have := of_decide_eq_false h3; omega
        have hrc : (Nat.beq 38 38 && rowsC KOp R.length R.flatten) = true := by rw [rowsC_of hR (by omega)]; rfl
        rw [cond_false, asks_of (ask1 hrc)]
        cases h4 : anyL R.flatten R.length with
        | true => rfl
        | false =>
          have hop : ∀ u ∈ R, opOk u = true /\ r8 (opF u) := fun u hu => by
            unfold anyL at h4
            rw [hcR, List.any_eq_false] at h4
            have := h4 u hu
            exact ⟨(hO u hu).ok (by simpa using this), (hO u hu).r8⟩
          have hb : ∀ x ∈ r.F, r8 x := fun x hx => W.b8 x (by rw [<- W.eF]; exact hx)
          obtain ⟨s1, s2, s3, s4, s5⟩ := stage_same R r 0 hr hb hop (by omega) (by omega) (by omega)
          have eS : SG r R.flatten R.length = stgR r R 0 := by unfold SG; rw [hcR]
          have eG : GG r R.flatten R.length = stgR r R 0 := by unfold GG; rw [hcR, s3]
          have hstA : stA r R.flatten R.length = true := by unfold stA; rw [hcR, rowsC_of hR (by omega), s1]; rfl
          have hrgA : rgA r R.flatten R.length = true := by unfold rgA; rw [hcR, rowsC_of hR (by omega), s2]; rfl
          have fin : ∀ (e : PV) (g : Nat -> Int -> Option PV), (∀ m i, LX 1000009 m r R.flatten R.length (stgR r R 0) (stgR r R 0) e ((stgR r R 0).2.2 : Int) i = g m i) ->
              (∀ m i, g (m + 1) i = (bif decide (i < (R.length : Int)) then roundX r R.flatten R.length (opAt R.flatten i) i (asks (endX r R.flatten (stgR r R 0) (stgR r R 0)) <| g m (IntKind.i64.wrap (i + 1))) else exitX R.flatten R.length)) ->
              arm 1000009 r R.flatten R.length e ((stgR r R 0).2.2 : Int) = some (.bool true) := by
            intro e g h0 hg
            have main := x_loop hg hr hb hR hop (by omega) (by omega) (by omega) s4 s4 rfl (by omega) R.length 0 (1000008 - R.length) (by omega)
            rw [show 1000008 - R.length + R.length + 1 = 1000009 from by omega] at main
            unfold arm
            rw [asks_of (ask1 hstA), asks_of (o3_ok hr 0), asks_of (ask1 ho), asks_of (ask1 hrgA), eS, eG, chkX_ok hr s4, h0]
            exact main
          rw [cond_false, asks_of (o3_ok hr 0), asks_of (ask1 (Rw.ok_0 hr)), asks_of (ask1 ho), asks_of (ask1 hrc), asks_of (o3_ok hr 0), asks_of (ask1 ho), eS]
          rcases s5 with e | e | e
          . have := fin .nilif _ (fun m i => rfl) (fun m i => x10 1000009 m r _ _ _ _ _ i)
            rw [e] at this ⊢
            exact this
          . have := fin errK _ (fun m i => rfl) (fun m i => x1K 1000009 m r _ _ _ _ _ i)
            rw [e] at this ⊢
            exact this
          . have := fin errN _ (fun m i => rfl) (fun m i => x1N 1000009 m r _ _ _ _ _ i)
            rw [e] at this ⊢
            exact this
theorem lawX {r : Rw} {F G I R : List (List PV)} (W : WR r F G I) (hR : rowsOk KOp R = true) (hO : ∀ u ∈ R, OW u) : ∃ K, apartA EN (runA EN 1000009 K) 3 [r.pv, .sl R.flatten 38 R.length none] = some (.bool true) := by
  obtain ⟨K, hT⟩ := TXok
  exact ⟨_, apartS_ok (K := K) (d := 5) hT (by rfl) (holdsX W hR hO)⟩
end
section
open St
noncomputable def opShp : Sh := match shOf Tryz.prog 9 27 with
  | some (.sl s _) => s
  | _ => .bool
theorem opShpOf : shOf Tryz.prog 9 27 = some (.sl opShp 38) := by kernel_rfl
theorem opShpKd : opShp.kd = KOp := by kernel_rfl
theorem opShpSk : opShp.sk = opSk := by kernel_rfl
theorem ops_repW {H : Type} {enc : TypeId × Value -> H} {W : World} {v : Value} {d : DataW H} {ps : List MemPlace} {a0 : Option Addr} {len cap : Nat} (hv : v = .slice a0 len cap) (h : DataW.Trod enc Tryz.prog W 0 (fun _ => true) true 27 v d ps) :
    ∃ R : List (List PV), rowsOk KOp R = true /\ (∀ u ∈ R, OW u) /\ Rep (memG W) (fun _ => none) (.sl R.flatten 38 R.length none) v := by
  subst hv
  obtain ⟨fuel, hf⟩ := h
  obtain ⟨xs, h1, h2⟩ := trod_rep fuel 9 _ _ _ _ opShpOf hf
  obtain ⟨rows, rfl, hr⟩ := (by simpa only [Sh.Has] using h1 : ∃ rows : List {r : List PV // r.length = 38}, xs = [.sl (rows.flatMap Subtype.val) 38 rows.length none] /\ ∀ r ∈ rows, opShp.Has r.val)
  obtain ⟨k1, k2, k3⟩ := rows_has rows hr
  rw [opShpKd] at k1
  refine ⟨rows.map Subtype.val, k1, fun u hu => ?_, ?_⟩
  . obtain ⟨y, hy, rfl⟩ := List.mem_map.1 hu
    have hk := Sh.Has.wkS opShp y.val (hr y hy)
    rw [opShpSk] at hk
    have hw := rowsOk_get k1 hu
    exact ⟨by unfold askO; rw [hw.1, hw.2]; rfl, hk⟩
  . rw [<- k2, k3]
    exact h2.2 0 _ _ rfl rfl
end
end Go.Proofs.YtpbemfikhmeedaaGreatDoor.Am
