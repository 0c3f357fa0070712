/- linkboy/sums.Add: its contract: a sum and bytes, pair by pair (a range over slices.Chunk: after the kit's worked walk of slices.Values). -/
import Derived.Test.YtcjcinipfdameacGreatDoorChecked
import Derived.RangeFuncBox
import Derived.RangeFuncWrites
import Derived.RangeFuncLeaves
import Derived.Shelf.Abstract
import Derived.WalkKit
import Derived.OwnWalkIn
import Derived.TacticsInMore
import Derived.LoopNIn
import Derived.LoopIn
import Derived.RegionIn
import Derived.Shelf.RegionOpen
import Derived.RangeFuncCalls
namespace Go.Proofs.YtcjcinipfdameacGreatDoor
open Go.RowKit Go.Shelf

attribute [local go_sem] Oper.semAt_some

/-- What lies at a place (none: 0). -/
def Sp_at (bs : List Nat) (j : Nat) : Nat := bs[j]?.getD 0

/-- The pair from a place on. -/
def Sp_pair (bs : List Nat) (j : Nat) : Int := if j + 1 < bs.length then (Sp_at bs j * 256 + Sp_at bs (j + 1) : Nat) else (Sp_at bs j * 256 : Nat)

/-- A round's number, where there is one. -/
def Sp_c (len j : Nat) : Nat := if 2 * j < len then j else 0

/-- The sum of the first rounds. -/
def Sp_sums (bs : List Nat) : List Nat → Int → Int
  | [], s => s
  | j :: js, s => Sp_sums bs js (wrap64 (s + Sp_pair bs (2 * Sp_c bs.length j)))

theorem Sp_sums_snoc (bs : List Nat) (js : List Nat) (j : Nat) (s : Int) : Sp_sums bs (js ++ [j]) s = wrap64 (Sp_sums bs js s + Sp_pair bs (2 * Sp_c bs.length j)) := by
  induction js generalizing s with
  | nil => rfl
  | cons k ks ih => simp [Sp_sums, ih]

/-- The slice that a round gets. -/
def Sp_two (b off len j : Nat) : Array Value := #[.slice (some ⟨b, off + 2 * Sp_c len j, none⟩) (min 2 (len - 2 * Sp_c len j)) (min 2 (len - 2 * Sp_c len j))]

/-- What was there, and two blocks more, stay. -/
structure Kp3 (n₀ x y : Nat) (A B : World) : Prop where
  below : Below n₀ A B
  one : B.heap[x]? = A.heap[x]?
  two : B.heap[y]? = A.heap[y]?

theorem Kp3.refl (n₀ x y : Nat) (A : World) : Kp3 n₀ x y A A := ⟨.refl _ _, rfl, rfl⟩
theorem Kp3.trans {n₀ x y : Nat} {A B C : World} (h : Kp3 n₀ x y A B) (k : Kp3 n₀ x y B C) : Kp3 n₀ x y A C := ⟨h.below.trans k.below, k.one.trans h.one, k.two.trans h.two⟩
theorem Kp3.drew {n₀ x y : Nat} {A B : World} (h : Kp3 n₀ x y A B) : Kp3 n₀ x y A B.drew := ⟨h.below.drew, h.one, h.two⟩
theorem Kp3.cell1 {n₀ x y : Nat} {A B : World} (h : Kp3 n₀ x y A B) (o : Nat) : B.cell? ⟨x, o, none⟩ = A.cell? ⟨x, o, none⟩ := World.cell?_of_block (w := A) (a := ⟨x, o, none⟩) h.one
theorem Kp3.cell2 {n₀ x y : Nat} {A B : World} (h : Kp3 n₀ x y A B) (o : Nat) : B.cell? ⟨y, o, none⟩ = A.cell? ⟨y, o, none⟩ := World.cell?_of_block (w := A) (a := ⟨y, o, none⟩) h.two
theorem Kp3.put {n₀ x y : Nat} {w : World} (hn : n₀ ≤ w.heap.size) (hx : x < w.heap.size) (hy : y < w.heap.size) (W : World) (l : Nat) (o o' : Obj) (hl : w.heap.size ≤ l) (h : W.heap[l]? = some o) (h1 : o.isCells = false) (h2 : o.isWalk = false) : Kp3 n₀ x y W (W.putObj l o') :=
  ⟨belowK_b hn W l o o' hl h h1 h2, World.putObj_heap_other (by omega), World.putObj_heap_other (by omega)⟩

set_option maxRecDepth 100000 in
set_option maxHeartbeats 4000000 in
theorem chunk1_in (F : Fence) (n : Nat) (hf : F.fn 196) (hro : F.round = none) (hn : 1 ≤ n) (l Bs Bn n₀ b off len cap : Nat) (hreach : len * 8 ≤ 140737488351232) (hcap : len ≤ cap)
    (J Jx : List Nat → World → Prop)
    (W : World) (hJa : AbidesFrom W.heap.size J)
    (hY : ∀ pre x W, J pre W → pre.length < (len + 1) / 2 → YieldAt F (n - 1) Tryz.prog l (Sp_two b off len x) W fun e W' =>
      (e = .returned (.bool true) ∧ J (pre ++ [x]) W' ∧ Kp3 n₀ Bs Bn W W') ∨ (e = .returned (.bool false) ∧ Jx (pre ++ [x]) W'))
    (hBs : W.cell? ⟨Bs, 0, none⟩ = some (.slice (some ⟨b, off, none⟩) len cap)) (hBn : W.cell? ⟨Bn, 0, none⟩ = some (.int .i64 2)) (h0 : J [] W) :
    CallsIn F n Tryz.prog 196 #[.func (.yield l) #[] #[], .pointer (some ⟨Bs, 0, none⟩), .pointer (some ⟨Bn, 0, none⟩)] W fun e W' => (∃ v, e = .returned v) ∧
      ((∃ ys, ys = List.range ((len + 1) / 2) ∧ J ys W') ∨ (∃ pre, Jx pre W')) := by
  refine callsIn_of_wp Tryz.func196 rfl hf ?_ hro
  simp only [Tryz.ntmps196, List.size_toArray, List.length_cons, List.length_nil, Nat.reduceAdd, Nat.reduceSub, Array.replicate_succ, Array.replicate_zero, List.push_toArray, List.append_toArray, List.nil_append, List.cons_append]
  gi_wp2
  gi_loopw [4] (fun i wr => ∃ k : Nat, (k ≤ (len + 1) / 2) ∧ i = .int .i64 (2 * k : Nat) ∧ J (List.range k) wr ∧ Kp3 n₀ Bs Bn W wr)
    (fun i _ => 2 * len + 2 - (intOf i).toNat)
  case atStart => exact ⟨0, Nat.zero_le _, rfl, h0, Kp3.refl _ _ _ _⟩
  case round =>
    obtain ⟨k, hk, rfl, hJs, hnx⟩ := hrel
    have hcs : wr.cell? ⟨Bs, 0, none⟩ = some (.slice (some ⟨b, off, none⟩) len cap) := (hnx.cell1 0).trans hBs
    have hcn : wr.cell? ⟨Bn, 0, none⟩ = some (.int .i64 2) := (hnx.cell2 0).trans hBn
    by_cases hlt : 2 * k < len
    · have hJd : J (List.range k) wr.drew := hJa _ wr _ none hJs ⟨rfl, rfl, rfl, Nat.le_refl _, fun _ _ _ => rfl⟩ (fun r e => by cases e)
      have hcsd : wr.drew.cell? ⟨Bs, 0, none⟩ = some (.slice (some ⟨b, off, none⟩) len cap) := hcs
      obtain ⟨fn, tmps, assign, body, hy, hR⟩ := hY _ k wr.drew hJd (by simp; omega)
      obtain ⟨e, hed⟩ : ∃ e : Nat, e = min 2 (len - 2 * k) := ⟨_, rfl⟩
      have hei : (if ((len - 2 * k : Nat) : Int) < 2 then ((len - 2 * k : Nat) : Int) else 2) = (e : Int) := by split <;> omega
      have he1 : 1 ≤ e := by omega
      have he2 : 2 * k + e ≤ len := by omega
      rw [Sp_two, show Sp_c len k = k from if_pos hlt, ← hed] at hy
      clear hed
      gi_wp2
      gi_region
      clear hei
      all_goals gi_wp2
      all_goals
        refine hR.mono ?_
        rintro e3 W3 (⟨rfl, hJ3, hk3⟩ | ⟨rfl, hJx3⟩)
        · have hcn3 : W3.cell? ⟨Bn, 0, none⟩ = some (.int .i64 2) := (hk3.cell2 0).trans hcn
          gi_wp2
          go_roundw
          case rel => exact ⟨k + 1, by omega, by simp; omega, by rw [List.range_succ]; exact hJ3, hnx.drew.trans hk3⟩
          case measure => simp [intOf]; omega
        · gi_wp2
          refine bodyPost_ret (results_none rfl _ _ _) rfl ?_
          exact ⟨⟨_, rfl⟩, .inr ⟨_, hJx3⟩⟩
    · gi_wp2
      go_end0
      refine ⟨⟨_, rfl⟩, .inl ⟨_, rfl, ?_⟩⟩
      have : (len + 1) / 2 = k := by omega
      rw [this]
      exact hJs

set_option maxRecDepth 100000 in
set_option maxHeartbeats 1000000 in
/-- .. at the nil slice: no round. -/
theorem chunk1_nil_in (F : Fence) (n : Nat) (hf : F.fn 196) (hro : F.round = none) (l Bs Bn : Nat) (J : List Nat → World → Prop) (W : World) (a : Option Addr) (cap : Nat) (hBs : W.cell? ⟨Bs, 0, none⟩ = some (.slice a 0 cap)) (h0 : J [] W) :
    CallsIn F n Tryz.prog 196 #[.func (.yield l) #[] #[], .pointer (some ⟨Bs, 0, none⟩), .pointer (some ⟨Bn, 0, none⟩)] W fun e W' => (∃ v, e = .returned v) ∧ J [] W' := by
  refine callsIn_of_wp Tryz.func196 rfl hf ?_ hro
  simp only [Tryz.ntmps196, List.size_toArray, List.length_cons, List.length_nil, Nat.reduceAdd, Nat.reduceSub, Array.replicate_succ, Array.replicate_zero, List.push_toArray, List.append_toArray, List.nil_append, List.cons_append]
  gi_wp2
  gi_loopw [4] (fun i wr => i = .int .i64 0 ∧ wr = W) (fun _ _ => 0)
  case atStart => exact ⟨rfl, rfl⟩
  case round =>
    obtain ⟨rfl, rfl⟩ := hrel
    gi_wp2
    go_end0
    exact ⟨⟨_, rfl⟩, h0⟩

set_option maxHeartbeats 1000000 in
/-- slices.Chunk(b, 2): both are boxed; the function value captures the boxes. -/
theorem chunk_in (F : Fence) (n : Nat) (hf : F.fn 151) (hro : F.round = none) (a : Option Addr) (len cap : Nat) (w : World) :
    CallsIn F n Tryz.prog 151 #[.slice a len cap, .int .i64 2] w fun e w' =>
      e = .returned (.func (.func 196) #[] #[.pointer (some ⟨w.heap.size, 0, none⟩), .pointer (some ⟨w.heap.size + 1, 0, none⟩)]) ∧
      w' = (w.alloc (.cells #[.slice a len cap] 72)).alloc (.cells #[.int .i64 2] 3) := by
  refine callsIn_of_wp Tryz.func151 rfl hf ?_ hro
  simp only [Tryz.ntmps151, List.size_toArray, List.length_cons, List.length_nil, Nat.reduceAdd, Nat.reduceSub, Array.replicate_succ, Array.replicate_zero, List.push_toArray, List.append_toArray, List.nil_append, List.cons_append]
  gi_wp2
  go_ret
  exact ⟨rfl, rfl⟩

theorem or_low (x y : Nat) (hy : y < 256) : x * 256 ||| y = x * 256 + y := by
  have := Nat.shiftLeft_add_eq_or_of_lt (i := 8) (by simpa using hy) x
  simp only [Nat.shiftLeft_eq] at this
  exact this.symm

theorem i64_or_nat (a b : Nat) (ha : a < 9223372036854775808) (hb : b < 9223372036854775808) : bits .or .i64 (a : Int) (b : Int) = ((a ||| b : Nat) : Int) := by
  have hx : a ||| b < 2 ^ 63 := Nat.or_lt_two_pow (by omega) (by omega)
  have h1 : (BitVec.ofInt 64 (a : Int)).toNat = a := by
    rw [BitVec.ofInt_natCast, BitVec.toNat_ofNat]; exact Nat.mod_eq_of_lt (by omega)
  have h2 : (BitVec.ofInt 64 (b : Int)).toNat = b := by
    rw [BitVec.ofInt_natCast, BitVec.toNat_ofNat]; exact Nat.mod_eq_of_lt (by omega)
  show IntKind.i64.wrap ((BitVec.ofInt 64 (a : Int) ||| BitVec.ofInt 64 (b : Int)).toNat : Int) = _
  rw [BitVec.toNat_or, h1, h2]
  rw [IntKind.wrap_i64]
  omega

set_option maxRecDepth 100000 in
set_option maxHeartbeats 1000000 in
theorem pair2_in (F : Fence) (n : Nat) (hf : F.fn 152) (hro : F.round = none) (b o cap x y : Nat) (hx : x < 256) (hy : y < 256) (w : World) (h0 : w.cell? ⟨b, o, none⟩ = some (.int .u8 x)) (h1 : w.cell? ⟨b, o + 1, none⟩ = some (.int .u8 y)) :
    CallsIn F n Tryz.prog 152 #[.slice (some ⟨b, o, none⟩) 2 cap] w fun e w' => e = .returned (.int .i64 ((x * 256 + y : Nat) : Int)) ∧ w' = w := by
  refine callsIn_of_wp Tryz.func152 rfl hf ?_ hro
  simp only [Tryz.ntmps152, List.size_toArray, List.length_cons, List.length_nil, Nat.reduceAdd, Nat.reduceSub, Array.replicate_succ, Array.replicate_zero, List.push_toArray, List.append_toArray, List.nil_append, List.cons_append]
  have hb : bits .or .i64 ((x : Int) * 256) (y : Int) = ((x * 256 + y : Nat) : Int) := by
    rw [show (x : Int) * 256 = ((x * 256 : Nat) : Int) from by push_cast; rfl, i64_or_nat _ _ (by omega) (by omega), or_low x y hy]
  gi_wp2
  go_ret
  exact ⟨by simp, rfl⟩

set_option maxRecDepth 100000 in
set_option maxHeartbeats 1000000 in
theorem pair1_in (F : Fence) (n : Nat) (hf : F.fn 152) (hro : F.round = none) (b o cap x : Nat) (hx : x < 256) (w : World) (h0 : w.cell? ⟨b, o, none⟩ = some (.int .u8 x)) :
    CallsIn F n Tryz.prog 152 #[.slice (some ⟨b, o, none⟩) 1 cap] w fun e w' => e = .returned (.int .i64 ((x * 256 : Nat) : Int)) ∧ w' = w := by
  refine callsIn_of_wp Tryz.func152 rfl hf ?_ hro
  simp only [Tryz.ntmps152, List.size_toArray, List.length_cons, List.length_nil, Nat.reduceAdd, Nat.reduceSub, Array.replicate_succ, Array.replicate_zero, List.push_toArray, List.append_toArray, List.nil_append, List.cons_append]
  gi_wp2
  go_ret
  exact ⟨by simp, rfl⟩

theorem chunk_stops (F : Fence) (n : Nat) (hf : F.fn 196) (hro : F.round = none) (hn : 1 ≤ n) (Bs Bn b off len cap : Nat) (hreach : len * 8 ≤ 140737488351232) (hcap : len ≤ cap) (n₀ : Nat) 
    (w : World) (hBs0 : Bs < w.heap.size) (hBn0 : Bn < w.heap.size) (hBs : w.cell? ⟨Bs, 0, none⟩ = some (.slice (some ⟨b, off, none⟩) len cap)) (hBn : w.cell? ⟨Bn, 0, none⟩ = some (.int .i64 2)) :
    SeqStopsK F n Tryz.prog 196 #[.pointer (some ⟨Bs, 0, none⟩), .pointer (some ⟨Bn, 0, none⟩)] (Sp_two b off len) (Kp3 n₀ Bs Bn) (fun ys => ys = List.range ((len + 1) / 2)) (fun _ => True) ((len + 1) / 2) w := fun l J Jx W hW hJ _ hY h0 => by
  have hs' := (hW.cell (p := ⟨Bs, 0, none⟩) hBs0).trans hBs
  have hn' := (hW.cell (p := ⟨Bn, 0, none⟩) hBn0).trans hBn
  refine (chunk1_in F n hf hro hn l Bs Bn n₀ b off len cap hreach hcap J Jx W hJ hY hs' hn' h0).mono ?_
  rintro e W' ⟨he, ⟨ys, rfl, hj⟩ | ⟨pre, hj⟩⟩
  · exact ⟨he, .inl ⟨_, rfl, hj⟩⟩
  · exact ⟨he, .inr ⟨_, trivial, hj⟩⟩

/-- What sums.Add answers. -/
def Sp_add (s : Int) (bs : List Nat) : Int := Sp_sums bs (List.range ((bs.length + 1) / 2)) s

set_option maxRecDepth 100000 in
set_option maxHeartbeats 4000000 in
theorem add_in (F : Fence) (n : Nat) (h1 : F.fn 119) (h2 : F.fn 151) (h3 : F.fn 196) (h4 : F.fn 152) (hro : F.round = none) (hn : 5 ≤ n) (s : Int) (hs0 : 0 ≤ s) (hs1 : s ≤ 1099511627776) (b off cap : Nat) (bs : List Nat) (hlen : 0 < bs.length)
    (hreach : bs.length * 8 ≤ 140737488351232) (hcap : bs.length ≤ cap) (hu : ∀ j, j < bs.length → Sp_at bs j < 256) (w : World) (hb : b < w.heap.size) (hcs : ∀ j, j < bs.length → w.cell? ⟨b, off + j, none⟩ = some (.int .u8 (Sp_at bs j))) :
    CallsIn F n Tryz.prog 119 #[.int .i64 s, .slice (some ⟨b, off, none⟩) bs.length cap] w fun e W' => e = .returned (.int .i64 (Sp_add s bs)) ∧ Below w.heap.size w W' := by
  have h1n : 1 ≤ n := by omega
  refine callsIn_of_wp_marks Tryz.func119 rfl h1 ?_ hro
  simp only [Tryz.ntmps119, List.size_toArray, List.length_cons, List.length_nil, Nat.reduceAdd, Nat.reduceSub, Array.replicate_succ, Array.replicate_zero, List.push_toArray, List.append_toArray, List.nil_append, List.cons_append]
  gi_wp2_with (gi_at_call 151; refine (chunk_in F (n - 1) h2 hro _ _ _ _).mono ?_; rintro e w' ⟨rfl, rfl⟩)
  have bS := Boxed.new w 3 (.int .i64 s)
  have bA := Boxed.new (w.alloc (.cells #[.int .i64 s] 3)) 72 (.slice (some ⟨b, off, none⟩) bs.length cap)
  have bB := Boxed.new ((w.alloc (.cells #[.int .i64 s] 3)).alloc (.cells #[.slice (some ⟨b, off, none⟩) bs.length cap] 72)) 3 (.int .i64 2)
  rw [World.size_alloc] at bA
  rw [World.size_alloc, World.size_alloc] at bB
  have hB0 : Below w.heap.size w (((w.alloc (.cells #[.int .i64 s] 3)).alloc (.cells #[.slice (some ⟨b, off, none⟩) bs.length cap] 72)).alloc (.cells #[.int .i64 2] 3)) :=
    (((Below.refl _ w).alloc (Nat.le_refl _) _).alloc (by simp) _).alloc (by simp; omega) _
  refine wpIn_rangeFunc_ownG hro h1n (gf := 196) (lb := #[.pointer (some ⟨w.heap.size + 1, 0, none⟩), .pointer (some ⟨w.heap.size + 1 + 1, 0, none⟩)]) rfl h3 (enters_of Tryz.func196 (by kernel_rfl) rfl)
    (chunk_stops F (n - 1) h3 hro (by omega) (w.heap.size + 1) (w.heap.size + 1 + 1) b off bs.length cap hreach hcap w.heap.size _ (by simp) (by simp) (bA.alloc _).cell bB.cell) Kp3.trans (Kp3.put (by simp; omega) (by simp) (by simp)) (Below.refl _ _) (fun _ => rfl)
    (fun pre W => (W.cell? ⟨w.heap.size, 0, none⟩ = some (.int .i64 (Sp_sums bs pre s)) ∧ W.frozen? ⟨w.heap.size, 0, none⟩ = false) ∧ Below w.heap.size w W)
    (fun _ _ _ => False)
    (OwnFrom.and (Own.from (fun s A B row hs hg hr => ⟨cell_kept hs.1 hg hr, (frozen_kept hs.1 hg hr).trans hs.2⟩) _) (ownFrom_below (Nat.le_refl _) (by simp; omega)))
    (fun _ _ _ _ _ hs _ _ => hs)
    ⟨⟨((bS.alloc _).alloc _).cell, ((bS.alloc _).alloc _).frozen⟩, hB0⟩
    (fun x => { tmps := #[.int .i64 s, .slice (some ⟨b, off, none⟩) bs.length cap, .pointer (some ⟨w.heap.size, 0, none⟩), undef, .int .i64 0, (Sp_two b off bs.length x)[0]!, .int .i64 s, .int .i64 s, .int .i64 s, .slice (some ⟨b, off, none⟩) bs.length cap,
      .func (.func 196) #[] #[.pointer (some ⟨w.heap.size + 1, 0, none⟩), .pointer (some ⟨w.heap.size + 1 + 1, 0, none⟩)], (Sp_two b off bs.length x)[0]!, undef, undef, undef, undef, undef], defers := [] }) ?assign ?body ?done ?stop
  case assign =>
    intro l x W K hK
    simp only [Sp_two]
    gi_wp2
    exact hK
  case body =>
    rintro l pre x W ⟨⟨hc, hf⟩, hB⟩ hpre
    have hci : ∀ j, j < bs.length → W.cell? ⟨b, off + j, none⟩ = some (.int .u8 (Sp_at bs j)) := fun j hj => (hB.cell (p := ⟨b, off + j, none⟩) hb).trans (hcs j hj)
    have hsn := Sp_sums_snoc bs pre x s
    have hxl : 2 * Sp_c bs.length x < bs.length := by unfold Sp_c; split <;> omega
    simp only [Sp_two]
    generalize Sp_c bs.length x = y at hxl hsn ⊢
    have hx0 := hci (2 * y) hxl
    have hu0 := hu (2 * y) hxl
    generalize Sp_sums bs pre s = t at hc hsn
    have hfin : ∀ p : Int, p = Sp_pair bs (2 * y) →
      KeepsFrom (((w.alloc (.cells #[.int .i64 s] 3)).alloc (.cells #[.slice (some ⟨b, off, none⟩) bs.length cap] 72)).alloc (.cells #[.int .i64 2] 3)).heap.size W (W.setCell ⟨w.heap.size, 0, none⟩ (.int .i64 (IntKind.i64.wrap (t + p)))).drew ∧
      Kp3 w.heap.size (w.heap.size + 1) (w.heap.size + 1 + 1) W (W.setCell ⟨w.heap.size, 0, none⟩ (.int .i64 (IntKind.i64.wrap (t + p)))).drew ∧
      ((W.setCell ⟨w.heap.size, 0, none⟩ (.int .i64 (IntKind.i64.wrap (t + p)))).drew.cell? ⟨w.heap.size, 0, none⟩ = some (.int .i64 (Sp_sums bs (pre ++ [x]) s)) ∧ (W.setCell ⟨w.heap.size, 0, none⟩ (.int .i64 (IntKind.i64.wrap (t + p)))).drew.frozen? ⟨w.heap.size, 0, none⟩ = false) ∧
      Below w.heap.size w (W.setCell ⟨w.heap.size, 0, none⟩ (.int .i64 (IntKind.i64.wrap (t + p)))).drew := by
      rintro p rfl
      have k1 : KeepsFrom (((w.alloc (.cells #[.int .i64 s] 3)).alloc (.cells #[.slice (some ⟨b, off, none⟩) bs.length cap] 72)).alloc (.cells #[.int .i64 2] 3)).heap.size W (W.setCell ⟨w.heap.size, 0, none⟩ (.int .i64 (IntKind.i64.wrap (t + Sp_pair bs (2 * y))))) := (KeepsOthers.setCell _ _ _).from _
      refine ⟨⟨k1.size, k1.same⟩, ⟨((Below.refl w.heap.size W).setCell (p := ⟨w.heap.size, 0, none⟩) (Nat.le_refl _) _).drew, Below.heap_setCell _ _ _ _ (by show _ ≠ w.heap.size; omega), Below.heap_setCell _ _ _ _ (by show _ ≠ w.heap.size; omega)⟩, ⟨?_, ?_⟩, (hB.setCell (p := ⟨w.heap.size, 0, none⟩) (Nat.le_refl _) _).drew⟩
      · rw [hsn, ← IntWalk.i64_left]
        exact World.cell?_setCell_same' W ⟨w.heap.size, 0, none⟩ _ (by rw [hc]; rfl)
      · exact (World.frozen?_setCell ..).trans hf
    by_cases h2 : 2 * y + 1 < bs.length
    · have hx1 := hci (2 * y + 1) h2
      have hu1 := hu (2 * y + 1) h2
      have hm : min 2 (bs.length - 2 * y) = 2 := by omega
      rw [← Nat.add_assoc] at hx1
      have hbit : bits .or .i64 ((Sp_at bs (2 * y) : Int) * 256) (Sp_at bs (2 * y + 1) : Int) = (Sp_pair bs (2 * y) : Int) := by
        rw [Sp_pair, if_pos h2, show (Sp_at bs (2 * y) : Int) * 256 = ((Sp_at bs (2 * y) * 256 : Nat) : Int) from by push_cast; rfl, i64_or_nat _ _ (by omega) (by omega), or_low _ _ hu1]
      rw [hm]
      clear hsn hci hm
      have hmix : Tryz.prog.follows .mixedOrders = true := by kernel_rfl
      have hn3 : 1 ≤ n - 1 - 1 := by omega
      have hpc := pair2_in F (n - 1 - 1 - 1) h4 hro b (off + 2 * y) 2 (Sp_at bs (2 * y)) (Sp_at bs (2 * y + 1)) hu0 hu1 W.drew hx0 hx1
      gi_wp2
      gi_region_with_o (gi_at_call 152; refine (CallsIn.inRound l hpc).mono ?_; rintro e w' ⟨rfl, rfl⟩)
      all_goals exact hfin _ (by rw [Sp_pair, if_pos h2]; push_cast; rfl)
    · have hm : min 2 (bs.length - 2 * y) = 1 := by omega
      rw [hm]
      clear hsn hci hm
      have hmix : Tryz.prog.follows .mixedOrders = true := by kernel_rfl
      have hn3 : 1 ≤ n - 1 - 1 := by omega
      have hpc := pair1_in F (n - 1 - 1 - 1) h4 hro b (off + 2 * y) 1 (Sp_at bs (2 * y)) hu0 W.drew hx0
      gi_wp2
      gi_region_with_o (gi_at_call 152; refine (CallsIn.inRound l hpc).mono ?_; rintro e w' ⟨rfl, rfl⟩)
      all_goals exact hfin _ (by rw [Sp_pair, if_neg h2]; push_cast; rfl)
  case done =>
    rintro D ys W hD rfl ⟨⟨hc, _⟩, hB⟩ hK
    gi_wp2
    refine ⟨by simp, .inl ⟨_, _, rfl, run_takeDeferred hK, ?_⟩⟩
    exact ⟨_, results_tmp rfl _ _ _, rfl, hB.trans (belowK_b (w := w) (Nat.le_refl _) W D _ _ (by simp at hD; omega) hK rfl rfl)⟩
  case stop =>
    rintro D c pre W _ _ h _
    exact h.elim

theorem chunk0_stops (F : Fence) (n : Nat) (hf : F.fn 196) (hro : F.round = none) (Bs Bn n₀ : Nat) (a : Option Addr) (cap : Nat) (w : World) (hBs0 : Bs < w.heap.size) (hBs : w.cell? ⟨Bs, 0, none⟩ = some (.slice a 0 cap)) :
    SeqStopsK F n Tryz.prog 196 #[.pointer (some ⟨Bs, 0, none⟩), .pointer (some ⟨Bn, 0, none⟩)] (Sp_two 0 0 0) (Kp3 n₀ Bs Bn) (fun ys => ys = []) (fun _ => True) 0 w := fun l J Jx W hW hJ _ hY h0 => by
  have hs' := (hW.cell (p := ⟨Bs, 0, none⟩) hBs0).trans hBs
  exact (chunk1_nil_in F n hf hro l Bs Bn J W a cap hs' h0).mono fun e W' ⟨he, hj⟩ => ⟨he, .inl ⟨_, rfl, hj⟩⟩

set_option maxRecDepth 100000 in
set_option maxHeartbeats 4000000 in
theorem add0_in (F : Fence) (n : Nat) (h1 : F.fn 119) (h2 : F.fn 151) (h3 : F.fn 196) (hro : F.round = none) (hn : 5 ≤ n) (s : Int) (hs0 : 0 ≤ s) (hs1 : s ≤ 1099511627776) (a : Option Addr) (cap : Nat) (w : World) :
    CallsIn F n Tryz.prog 119 #[.int .i64 s, .slice a 0 cap] w fun e W' => e = .returned (.int .i64 s) ∧ Below w.heap.size w W' := by
  have h1n : 1 ≤ n := by omega
  refine callsIn_of_wp_marks Tryz.func119 rfl h1 ?_ hro
  simp only [Tryz.ntmps119, List.size_toArray, List.length_cons, List.length_nil, Nat.reduceAdd, Nat.reduceSub, Array.replicate_succ, Array.replicate_zero, List.push_toArray, List.append_toArray, List.nil_append, List.cons_append]
  gi_wp2_with (gi_at_call 151; refine (chunk_in F (n - 1) h2 hro _ _ _ _).mono ?_; rintro e w' ⟨rfl, rfl⟩)
  have bS := Boxed.new w 3 (.int .i64 s)
  have bA := Boxed.new (w.alloc (.cells #[.int .i64 s] 3)) 72 (.slice a 0 cap)
  rw [World.size_alloc] at bA
  have hB0 : Below w.heap.size w (((w.alloc (.cells #[.int .i64 s] 3)).alloc (.cells #[.slice a 0 cap] 72)).alloc (.cells #[.int .i64 2] 3)) :=
    (((Below.refl _ w).alloc (Nat.le_refl _) _).alloc (by simp) _).alloc (by simp; omega) _
  refine wpIn_rangeFunc_ownG hro h1n (gf := 196) (lb := #[.pointer (some ⟨w.heap.size + 1, 0, none⟩), .pointer (some ⟨w.heap.size + 1 + 1, 0, none⟩)]) rfl h3 (enters_of Tryz.func196 (by kernel_rfl) rfl)
    (chunk0_stops F (n - 1) h3 hro (w.heap.size + 1) (w.heap.size + 1 + 1) w.heap.size a cap _ (by simp) (bA.alloc _).cell) Kp3.trans (Kp3.put (by simp; omega) (by simp) (by simp)) (Below.refl _ _) (fun _ => rfl)
    (fun pre W => (W.cell? ⟨w.heap.size, 0, none⟩ = some (.int .i64 s) ∧ W.frozen? ⟨w.heap.size, 0, none⟩ = false) ∧ Below w.heap.size w W)
    (fun _ _ _ => False)
    (OwnFrom.and (Own.from (fun s A B row hs hg hr => ⟨cell_kept hs.1 hg hr, (frozen_kept hs.1 hg hr).trans hs.2⟩) _) (ownFrom_below (Nat.le_refl _) (by simp; omega)))
    (fun _ _ _ _ _ hs _ _ => hs)
    ⟨⟨((bS.alloc _).alloc _).cell, ((bS.alloc _).alloc _).frozen⟩, hB0⟩
    (fun x => { tmps := #[.int .i64 s, .slice a 0 cap, .pointer (some ⟨w.heap.size, 0, none⟩), undef, .int .i64 0, (Sp_two 0 0 0 x)[0]!, .int .i64 s, .int .i64 s, .int .i64 s, .slice a 0 cap,
      .func (.func 196) #[] #[.pointer (some ⟨w.heap.size + 1, 0, none⟩), .pointer (some ⟨w.heap.size + 1 + 1, 0, none⟩)], (Sp_two 0 0 0 x)[0]!, undef, undef, undef, undef, undef], defers := [] }) ?assign ?body ?done ?stop
  case assign =>
    intro l x W K hK
    simp only [Sp_two]
    gi_wp2
    exact hK
  case body =>
    intro l pre x W _ hpre
    exact absurd hpre (Nat.not_lt_zero _)
  case done =>
    rintro D ys W hD rfl ⟨⟨hc, _⟩, hB⟩ hK
    gi_wp2
    refine ⟨by simp, .inl ⟨_, _, rfl, run_takeDeferred hK, ?_⟩⟩
    exact ⟨_, results_tmp rfl _ _ _, rfl, hB.trans (belowK_b (w := w) (Nat.le_refl _) W D _ _ (by simp at hD; omega) hK rfl rfl)⟩
  case stop =>
    rintro D c pre W _ _ h _
    exact h.elim

end Go.Proofs.YtcjcinipfdameacGreatDoor
