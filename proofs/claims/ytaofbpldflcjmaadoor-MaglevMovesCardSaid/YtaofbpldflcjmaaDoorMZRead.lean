/- From how Go's data read to the interpreter's values: numbers, truths, texts, slices, structs, arrays, at any depth. -/
import Derived.Test.YtaofbpldflcjmaaDoorMMDk
import Derived.OpenShut
import Derived.ChangeArms
import Derived.DataReads
set_option linter.unusedVariables false
set_option linter.unusedSimpArgs false
namespace Go.Proofs.YtaofbpldflcjmaaDoor.Am
inductive Sh where
  | int (k : IntKind)
  | bool
  | str
  | sl (e : Sh) (s : Nat)
  | st (fs : List Sh)
  deriving Inhabited
def shAll (f : TypeId -> Option Sh) : List TypeId -> Option (List Sh)
  | [] => some []
  | t :: ts => match f t, shAll f ts with
    | some s, some ss => some (s :: ss)
    | _, _ => none
def offsOk (P : Program) : List Field -> Nat -> Option Nat
  | [], o => some o
  | f :: r, o => if f.offset = o then offsOk P r (o + P.cellsOf f.type) else none
def shOf (P : Program) : Nat -> TypeId -> Option Sh
  | 0, _ => none
  | d + 1, t => match P.underlying t with
    | some (.int k) => some (.int k)
    | some .bool => some .bool
    | some .string => some .str
    | some (.slice e) => match shOf P d e with
      | some s => some (.sl s (P.cellsOf e))
      | none => none
    | some (.struct fs) => match shAll (shOf P d) (fs.toList.map (·.type)), offsOk P fs.toList 0 with
      | some ss, some o => if o = P.cellsOf t then some (.st ss) else none
      | _, _ => none
    | some (.array n e) => match shOf P d e with
      | some s => if n * P.cellsOf e = P.cellsOf t then some (.st (List.replicate n s)) else none
      | none => none
    | _ => none
mutual
def Sh.Has : Sh -> List PV -> Prop
  | .int k, xs => ∃ n, xs = [.int k n] /\ (Lit.int k n).wf = true
  | .bool, xs => ∃ b, xs = [.bool b]
  | .str, xs => ∃ s : List UInt8, xs = [.str s] /\ s.length <= maxLen
  | .sl e s, xs => ∃ rows : List {r : List PV // r.length = s}, xs = [.sl (rows.flatMap Subtype.val) s rows.length none] /\ ∀ r ∈ rows, e.Has r.val
  | .st fs, xs => Sh.HasL fs xs
def Sh.HasL : List Sh -> List PV -> Prop
  | [], xs => xs = []
  | s :: ss, xs => ∃ a b, xs = a ++ b /\ s.Has a /\ Sh.HasL ss b
end
mutual
theorem Sh.Has.one : ∀ (s : Sh) (xs : List PV), s.Has xs -> xs.all PV.oneCell = true
  | .int k, xs, h => by obtain ⟨n, rfl, _⟩ := (by simpa only [Sh.Has] using h); rfl
  | .bool, xs, h => by obtain ⟨b, rfl⟩ := (by simpa only [Sh.Has] using h); rfl
  | .str, xs, h => by obtain ⟨s, rfl, _⟩ := (by simpa only [Sh.Has] using h); rfl
  | .sl e s, xs, h => by obtain ⟨rows, rfl, _⟩ := (by simpa only [Sh.Has] using h); rfl
  | .st fs, xs, h => Sh.HasL.one fs xs (by simpa only [Sh.Has] using h)
theorem Sh.HasL.one : ∀ (ss : List Sh) (xs : List PV), Sh.HasL ss xs -> xs.all PV.oneCell = true
  | [], xs, h => by have h : xs = [] := (by simpa only [Sh.HasL] using h); subst h; rfl
  | s :: ss, xs, h => by
    obtain ⟨a, b, rfl, h1, h2⟩ := (by simpa only [Sh.HasL] using h : ∃ a b, xs = a ++ b /\ s.Has a /\ Sh.HasL ss b)
    rw [List.all_append, Sh.Has.one s a h1, Sh.HasL.one ss b h2]
    rfl
end
section
variable {H : Type} {enc : TypeId × Value -> H} {P : Program} {W : World} {sp : Nat -> Bool} {held : Bool}
abbrev memG (W : World) : Sealed := fun b o => W.cell? ⟨b, o, none⟩
theorem shAll_cons {f : TypeId -> Option Sh} {t : TypeId} {ts : List TypeId} {ss : List Sh} (h : shAll f (t :: ts) = some ss) : ∃ s r, ss = s :: r /\ f t = some s /\ shAll f ts = some r := by
  unfold shAll at h
  split at h
  . rename_i s r h1 h2
    cases h
    exact ⟨s, r, rfl, h1, h2⟩
  . cases h
theorem fields_rep {d n : Nat} {cs : List Value} (ih : ∀ (t : TypeId) (s : Sh) (l : List Value) (x : DataW H × List MemPlace), shOf P d t = some s -> DataW.trod enc P W 0 sp held n t l = some x -> ∃ xs, s.Has xs /\ Reps (memG W) (fun _ => none) xs l) :
    ∀ (fl : List Field) (ss : List Sh) (o e : Nat), shAll (shOf P d) (fl.map (·.type)) = some ss -> offsOk P fl o = some e -> (∀ f ∈ fl, ∃ x, DataW.trod enc P W 0 sp held n f.type ((cs.drop f.offset).take (P.cellsOf f.type)) = some x) ->
      o <= e /\ ∃ ys, Sh.HasL ss ys /\ Reps (memG W) (fun _ => none) ys ((cs.drop o).take (e - o))
  | [], ss, o, e, h1, h2, h3 => by
    cases h1
    cases h2
    refine ⟨Nat.le_refl _, [], by simp only [Sh.HasL], ?_⟩
    rw [Nat.sub_self]
    exact Reps.nil
  | f :: fl, ss, o, e, h1, h2, h3 => by
    obtain ⟨s, r, rfl, e1, e2⟩ := shAll_cons h1
    unfold offsOk at h2
    split at h2
    . rename_i ho
      obtain ⟨x, hx⟩ := h3 f (by simp)
      obtain ⟨k1, ys, k2, k3⟩ := fields_rep ih fl r _ e e2 h2 fun f hf => h3 f (by simp [hf])
      obtain ⟨xs, q1, q2⟩ := ih _ _ _ _ e1 hx
      refine ⟨by omega, xs ++ ys, by simp only [Sh.HasL]; exact ⟨xs, ys, rfl, q1, k2⟩, ?_⟩
      have : (cs.drop o).take (e - o) = (cs.drop o).take (P.cellsOf f.type) ++ (cs.drop (o + P.cellsOf f.type)).take (e - (o + P.cellsOf f.type)) := by
        rw [show e - o = P.cellsOf f.type + (e - (o + P.cellsOf f.type)) by omega, List.take_add, List.drop_drop]
      rw [this]
      rw [ho] at q2
      exact q2.append k3
    . cases h2
theorem elems_rep {n : Nat} {e : TypeId} {s : Sh} {cs : List Value} {c : Nat} (ih : ∀ (l : List Value) (x : DataW H × List MemPlace), DataW.trod enc P W 0 sp held n e l = some x -> ∃ xs, s.Has xs /\ Reps (memG W) (fun _ => none) xs l) :
    ∀ (k i : Nat), (∀ j, j < k -> ∃ x, DataW.trod enc P W 0 sp held n e ((cs.drop ((i + j) * c)).take c) = some x) ->
      ∃ ys, Sh.HasL (List.replicate k s) ys /\ Reps (memG W) (fun _ => none) ys ((cs.drop (i * c)).take (k * c))
  | 0, i, h => ⟨[], by simp only [List.replicate_zero, Sh.HasL], by rw [Nat.zero_mul]; exact Reps.nil⟩
  | k + 1, i, h => by
    obtain ⟨x, hx⟩ := h 0 (by omega)
    obtain ⟨ys, k2, k3⟩ := elems_rep (s := s) ih k (i + 1) fun j hj => by
      obtain ⟨y, hy⟩ := h (j + 1) (by omega)
      exact ⟨y, by rw [show i + 1 + j = i + (j + 1) by omega]; exact hy⟩
    obtain ⟨xs, q1, q2⟩ := ih _ _ hx
    refine ⟨xs ++ ys, by simp only [List.replicate_succ, Sh.HasL]; exact ⟨xs, ys, rfl, q1, k2⟩, ?_⟩
    have : (cs.drop (i * c)).take ((k + 1) * c) = (cs.drop (i * c)).take c ++ (cs.drop ((i + 1) * c)).take (k * c) := by
      rw [show (k + 1) * c = c + k * c by rw [Nat.add_mul]; omega, List.take_add, List.drop_drop, show i * c + c = (i + 1) * c by rw [Nat.add_mul]; omega]
    rw [this]
    rw [Nat.add_zero] at q2
    exact q2.append k3
theorem rows_rep {n : Nat} {e : TypeId} {s : Sh} {c : Nat} {a : Addr} (ih : ∀ (l : List Value) (x : DataW H × List MemPlace), DataW.trod enc P W 0 sp held n e l = some x -> ∃ xs, s.Has xs /\ Reps (memG W) (fun _ => none) xs l) :
    ∀ (k : Nat), (∀ j, j < k -> ∃ l x, W.cells? 0 (a.add (j * c)) c = some l /\ DataW.trod enc P W 0 sp held n e l = some x) ->
      ∃ rows : List {r : List PV // r.length = c}, rows.length = k /\ (∀ r ∈ rows, s.Has r.val) /\
        ∀ (i : Nat) (hi : i < rows.length) (j : Nat) (x : PV), rows[i].val[j]? = some x -> ∃ v, W.cell? ((a.add (i * c)).add j) = some v /\ Rep (memG W) (fun _ => none) x v
  | 0, h => ⟨[], rfl, fun r hr => (by cases hr), fun i hi => (by simp at hi)⟩
  | k + 1, h => by
    obtain ⟨rows, h1, h2, h3⟩ := rows_rep ih k fun j hj => h j (by omega)
    obtain ⟨l, x, hl, hx⟩ := h k (by omega)
    obtain ⟨xs, q1, q2⟩ := ih _ _ hx
    unfold World.cells? at hl
    rw [if_pos (Nat.zero_le _)] at hl
    have hlen : l.length = c := by simpa using mapM_some_length hl
    have hxs : xs.length = c := by rw [<- hlen, q2.1]
    refine ⟨rows ++ [⟨xs, hxs⟩], by simp [h1], fun r hr => ?_, fun i hi j y hy => ?_⟩
    . rcases List.mem_append.1 hr with hr | hr
      . exact h2 r hr
      . simp only [List.mem_singleton] at hr
        subst hr
        exact q1
    . by_cases hk : i < rows.length
      . have e1 : (rows ++ [⟨xs, hxs⟩])[i] = rows[i] := List.getElem_append_left hk
        rw [e1] at hy
        exact h3 i hk j y hy
      . have hik : i = rows.length := by simp at hi; omega
        subst hik
        have e1 : (rows ++ [(⟨xs, hxs⟩ : {r : List PV // r.length = c})])[rows.length] = ⟨xs, hxs⟩ := by simp
        rw [e1] at hy
        have hj : j < c := by rw [<- hxs]; exact (List.getElem?_eq_some_iff.1 hy).1
        have hg := mapM_some_get hl j j (by simp [hj])
        have hjl : j < l.length := by omega
        rw [List.getElem?_eq_getElem hjl] at hg
        exact ⟨_, by rw [h1]; exact hg, q2.2 j y l[j] hy (by simp [hjl])⟩
theorem trod_rep : ∀ (n d : Nat) (t : TypeId) (s : Sh) (l : List Value) (x : DataW H × List MemPlace), shOf P d t = some s -> DataW.trod enc P W 0 sp held n t l = some x -> ∃ xs, s.Has xs /\ Reps (memG W) (fun _ => none) xs l
  | 0, d, t, s, l, x, hs, h => by simp [DataW.trod] at h
  | n + 1, 0, t, s, l, x, hs, h => by cases hs
  | n + 1, d + 1, t, s, l, x, hs, h => by
    unfold shOf at hs
    split at hs
    . rename_i k hu
      cases hs
      obtain ⟨m, rfl, _, hw⟩ := DataW.trod_int hu h
      exact ⟨[.int k m], by simp only [Sh.Has]; exact ⟨m, rfl, hw⟩, Reps.cons (.int _ _) Reps.nil⟩
    . rename_i hu
      cases hs
      obtain ⟨b, rfl, _⟩ := DataW.trod_bool hu h
      exact ⟨[.bool b], by simp only [Sh.Has]; exact ⟨b, rfl⟩, Reps.cons (.bool _) Reps.nil⟩
    . rename_i hu
      cases hs
      obtain ⟨b, rfl, _, hz⟩ := DataW.trod_string hu h
      obtain ⟨⟨b⟩⟩ := b
      exact ⟨[.str b], by simp only [Sh.Has]; exact ⟨b, rfl, hz⟩, Reps.cons (.str _) Reps.nil⟩
    . rename_i e hu
      split at hs
      . rename_i se hse
        cases hs
        rcases DataW.trod_slice hu h with ⟨rfl, _⟩ | ⟨a, len, cap, elems, rest, n', hn', rfl, _, _, hlc, _, hel, hE, _, _⟩
        . exact ⟨[.sl [] (P.cellsOf e) 0 none], by simp only [Sh.Has]; exact ⟨[], rfl, fun r hr => by cases hr⟩, Reps.cons (.slNil (fun c hc => by cases hc)) Reps.nil⟩
        . have hn' : n' = n := by omega
          subst hn'
          obtain ⟨rows, h1, h2, h3⟩ := rows_rep (P := P) (enc := enc) (sp := sp) (held := held) (n := n') (e := e) (s := se) (c := P.cellsOf e) (a := a) (fun l x hx => trod_rep n' d e se l x hse hx) len fun j hj => by
            have hE := hE j hj
            have hjl : j < elems.length := by omega
            rw [List.getElem?_eq_getElem hjl] at hE
            obtain ⟨l, hl1, hl2⟩ := Option.bind_eq_some_iff.1 hE
            exact ⟨l, _, hl1, hl2⟩
          have he : ∀ r : {r : List PV // r.length = P.cellsOf e}, r.val.length = P.cellsOf e := fun r => r.2
          have hfl : (rows.flatMap Subtype.val).length = rows.length * P.cellsOf e := flat_length (enc := Subtype.val) he rows
          have cell : ∀ (j : Nat) (x : PV), (rows.flatMap Subtype.val)[j]? = some x -> ∃ v, a.spot = none /\ W.cell? ⟨a.block, a.off + j, none⟩ = some v /\ Rep (memG W) (fun _ => none) x v := by
            intro j x hj
            have hlt := (List.getElem?_eq_some_iff.1 hj).1
            rw [hfl] at hlt
            have hc0 : 0 < P.cellsOf e := Nat.pos_of_ne_zero fun e0 => by
              have e1 : rows.length * P.cellsOf e = rows.length * 0 := congrArg (rows.length * ·) e0
              omega
            have hi : j / P.cellsOf e < rows.length := by rw [Nat.div_lt_iff_lt_mul hc0]; exact hlt
            have hm : j % P.cellsOf e < P.cellsOf e := Nat.mod_lt _ hc0
            have hjj : j = j / P.cellsOf e * P.cellsOf e + j % P.cellsOf e := by rw [Nat.mul_comm]; exact (Nat.div_add_mod _ _).symm
            rw [hjj, flat_get? (enc := Subtype.val) he hi hm] at hj
            obtain ⟨v, hv1, hv2⟩ := h3 _ hi _ x hj
            have hsp : a.spot = none := by
              obtain ⟨ab, ao, asp⟩ := a
              by_cases h0 : j / P.cellsOf e * P.cellsOf e = 0 /\ j % P.cellsOf e = 0
              . have := World.cell?_spot hv1
                simpa [Addr.add, h0.1, h0.2] using this
              . -- the first element's first cell
                obtain ⟨l0, x0, hl0, _⟩ : ∃ l x, W.cells? 0 ((⟨ab, ao, asp⟩ : Addr).add (0 * P.cellsOf e)) (P.cellsOf e) = some l /\ DataW.trod enc P W 0 sp held n' e l = some x := by
                  have h00 : 0 < len := by
                    have hi2 := hi
                    rw [h1] at hi2
                    exact Nat.lt_of_le_of_lt (Nat.zero_le _) hi2
                  have hE := hE 0 h00
                  have hjl : 0 < elems.length := by omega
                  rw [List.getElem?_eq_getElem hjl] at hE
                  obtain ⟨l, hl1, hl2⟩ := Option.bind_eq_some_iff.1 hE
                  exact ⟨l, _, hl1, hl2⟩
                unfold World.cells? at hl0
                rw [if_pos (Nat.zero_le _)] at hl0
                have hg := mapM_some_get hl0 0 0 (by simp [hc0])
                have hl0l : l0.length = P.cellsOf e := by simpa using mapM_some_length hl0
                rw [List.getElem?_eq_getElem (by omega)] at hg
                have := World.cell?_spot hg
                simpa [Addr.add] using this
            refine ⟨v, hsp, ?_, hv2⟩
            rw [<- hv1]
            congr 1
            obtain ⟨ab, ao, asp⟩ := a
            simp only at hsp
            subst hsp
            have ad : ∀ (o k : Nat), (⟨ab, o, none⟩ : Addr).add k = ⟨ab, o + k, none⟩ := fun o k => by
              unfold Addr.add
              split
              . rename_i h0; subst h0; rfl
              . rfl
            rw [ad, ad]
            simp only [Addr.mk.injEq, and_true, true_and]
            omega
          refine ⟨[.sl (rows.flatMap Subtype.val) (P.cellsOf e) rows.length none], by simp only [Sh.Has]; exact ⟨rows, rfl, h2⟩, Reps.cons ?_ Reps.nil⟩
          rw [<- h1] at hlc ⊢
          have one : (rows.flatMap Subtype.val).all PV.oneCell = true := by
            rw [List.all_eq_true]
            intro y hy
            obtain ⟨r, hr, hy⟩ := List.mem_flatMap.1 hy
            exact List.all_eq_true.1 (Sh.Has.one se r.val (h2 r hr)) y hy
          refine .sl a cap (fun j => (W.cell? ⟨a.block, a.off + j, none⟩).getD (.bool false)) hfl hlc (fun c hc => by cases hc) (fun j x hj => ?_) (fun j x hj => ?_)
          . obtain ⟨v, c1, c2, c3⟩ := cell j x hj
            refine ⟨c1, ?_, List.all_eq_true.1 one x (List.mem_of_getElem? hj)⟩
            show W.cell? ⟨a.block, a.off + j, none⟩ = _
            rw [c2]; rfl
          . obtain ⟨v, c1, c2, c3⟩ := cell j x hj
            rw [c2]
            exact c3
      . cases hs
    . rename_i fs hu
      split at hs
      . rename_i ss o h1 h2
        split at hs
        . rename_i ho
          cases hs
          obtain ⟨xs, n', hn', _, hlen, hxl, hF⟩ := DataW.trod_struct hu h
          have hn' : n' = n := by omega
          subst hn'
          obtain ⟨_, ys, k1, k2⟩ := fields_rep (n := n') (cs := l) (fun t s l x h1 h2 => trod_rep n' d t s l x h1 h2) fs.toList ss 0 o h1 h2 fun f hf => by
            obtain ⟨i, hi, rfl⟩ := List.getElem_of_mem hf
            have hi' : i < fs.size := by simpa using hi
            have := hF i (fs.toList[i]) (by simp [hi'])
            have hix : i < xs.length := by omega
            rw [List.getElem?_eq_getElem hix] at this
            exact ⟨_, this⟩
          refine ⟨ys, by simp only [Sh.Has]; exact k1, ?_⟩
          rw [List.drop_zero, Nat.sub_zero, ho, <- hlen, List.take_length] at k2
          exact k2
        . cases hs
      . cases hs
    . rename_i m e hu
      split at hs
      . rename_i se hse
        split at hs
        . rename_i hm
          cases hs
          obtain ⟨xs, n', hn', _, hlen, hxl, hF⟩ := DataW.trod_array hu h
          have hn' : n' = n := by omega
          subst hn'
          obtain ⟨ys, k1, k2⟩ := elems_rep (n := n') (cs := l) (c := P.cellsOf e) (s := se) (fun l x h2 => trod_rep n' d e se l x hse h2) m 0 fun j hj => by
            have := hF j hj
            have hix : j < xs.length := by omega
            rw [List.getElem?_eq_getElem hix] at this
            exact ⟨_, by rw [Nat.zero_add]; exact this⟩
          refine ⟨ys, by simp only [Sh.Has]; exact k1, ?_⟩
          rw [Nat.zero_mul, List.drop_zero, hm, <- hlen, List.take_length] at k2
          exact k2
        . cases hs
      . cases hs
    . cases hs
end
theorem rows_of {α : Type} {enc : α -> List PV} {c : Nat} : ∀ (rows : List {r : List PV // r.length = c}), (∀ r ∈ rows, ∃ a, r.val = enc a) -> ∃ l : List α, rows.flatMap Subtype.val = l.flatMap enc /\ l.length = rows.length
  | [], _ => ⟨[], rfl, rfl⟩
  | r :: rows, h => by
    obtain ⟨a, ha⟩ := h r (by simp)
    obtain ⟨l, h1, h2⟩ := rows_of rows fun r hr => h r (by simp [hr])
    exact ⟨a :: l, by simp [ha, h1], by simp [h2]⟩
def toByte (n : Int) : UInt8 := UInt8.ofNat n.toNat
theorem toByte_eq {n : Int} (h : (Lit.int .u8 n).wf = true) : bpv (toByte n) = .int .u8 n := by
  simp only [Lit.wf, Bool.and_eq_true, decide_eq_true_eq] at h
  obtain ⟨h1, h2⟩ := h
  simp [IntKind.min, IntKind.max, IntKind.signed, IntKind.bits] at h1 h2
  have h3 : (toByte n).toNat = n.toNat := by
    unfold toByte
    rw [UInt8.toNat_ofNat']
    apply Nat.mod_eq_of_lt
    omega
  unfold bpv
  rw [h3, Int.toNat_of_nonneg h1]
theorem has_bytes {xs : List PV} (h : (Sh.sl (.int .u8) 1).Has xs) : ∃ l : List UInt8, xs = [.sl (l.map bpv) 1 l.length none] := by
  obtain ⟨rows, rfl, hh⟩ := (by simpa only [Sh.Has] using h : ∃ rows : List {r : List PV // r.length = 1}, xs = [.sl (rows.flatMap Subtype.val) 1 rows.length none] /\ ∀ r ∈ rows, (Sh.int .u8).Has r.val)
  obtain ⟨l, h1, h2⟩ := rows_of (enc := fun b => [bpv b]) rows fun r hr => by
    obtain ⟨n, hn, hw⟩ := (by simpa only [Sh.Has] using hh r hr : ∃ n, r.val = [.int .u8 n] /\ (Lit.int .u8 n).wf = true)
    exact ⟨toByte n, by rw [hn, toByte_eq hw]⟩
  exact ⟨l, by rw [h1, h2, List.map_eq_flatMap]⟩
end Go.Proofs.YtaofbpldflcjmaaDoor.Am
