/- slices.SortFunc: the kit's contract, laid at this program by the kit's tools, in plain words. -/
import Derived.Shelf.SlSortCmp.WholeK
import Derived.Test.YtfpjlkkeelgffaaDoorChecked
import Derived.KernelRfl
namespace Go.Proofs.YtfpjlkkeelgffaaDoor
open Go.Shelf
def Tryd.laysSlF06_f11_ren : Go.Shelf.Ren := ⟨fun | 6 => 11 | 15 => 18 | 14 => 17 | 28 => 30 | 29 => 31 | 20 => 22 | 21 => 23 | 22 => 24 | 23 => 25 | 24 => 26 | 25 => 27 | 26 => 28 | 27 => 29 | 46 => 36 | 47 => 37 | 48 => 38 | 49 => 39 | 50 => 40 | 57 => 54 | n => n, fun | 22 => 22 | 24 => 25 | 25 => 27 | 3 => 3 | 39 => 41 | 0 => 0 | 53 => 53 | 55 => 55 | 4 => 4 | 46 => 46 | 45 => 45 | 50 => 50 | 5 => 5 | 9 => 9 | 66 => 58 | 70 => 62 | 76 => 73 | 77 => 74 | n => n, fun | n => n⟩
theorem Tryd.laysSlF06_f11 : Go.Proofs.SlLaysF0.n6 Tryd.prog Tryd.laysSlF06_f11_ren := {
  mixed := by kernel_rfl
  f6 := ⟨Tryd.f11.name, by decide, Tryd.func11.trans (congrArg some (by kernel_rfl))⟩
  f14 := ⟨Tryd.f17.name, by decide, Tryd.func17.trans (congrArg some (by kernel_rfl))⟩
  f15 := Tryd.func18.trans (congrArg some (by kernel_rfl))
  f20 := ⟨Tryd.f22.name, by decide, Tryd.func22.trans (congrArg some (by kernel_rfl))⟩
  f21 := ⟨Tryd.f23.name, by decide, Tryd.func23.trans (congrArg some (by kernel_rfl))⟩
  f22 := ⟨Tryd.f24.name, by decide, Tryd.func24.trans (congrArg some (by kernel_rfl))⟩
  f23 := ⟨Tryd.f25.name, by decide, Tryd.func25.trans (congrArg some (by kernel_rfl))⟩
  f24 := ⟨Tryd.f26.name, by decide, Tryd.func26.trans (congrArg some (by kernel_rfl))⟩
  f25 := ⟨Tryd.f27.name, by decide, Tryd.func27.trans (congrArg some (by kernel_rfl))⟩
  f26 := ⟨Tryd.f28.name, by decide, Tryd.func28.trans (congrArg some (by kernel_rfl))⟩
  f27 := ⟨Tryd.f29.name, by decide, Tryd.func29.trans (congrArg some (by kernel_rfl))⟩
  f28 := Tryd.func30.trans (congrArg some (by kernel_rfl))
  f29 := Tryd.func31.trans (congrArg some (by kernel_rfl))
  f46 := ⟨Tryd.f36.name, by decide, Tryd.func36.trans (congrArg some (by kernel_rfl))⟩
  f47 := Tryd.func37.trans (congrArg some (by kernel_rfl))
  f48 := Tryd.func38.trans (congrArg some (by kernel_rfl))
  f49 := ⟨Tryd.f39.name, by decide, Tryd.func39.trans (congrArg some (by kernel_rfl))⟩
  f50 := ⟨Tryd.f40.name, by decide, Tryd.func40.trans (congrArg some (by kernel_rfl))⟩
  f57 := ⟨Tryd.f54.name, by decide, Tryd.func54.trans (congrArg some (by kernel_rfl))⟩
  t0 := Tryd.underlying0
  a0 := Tryd.isAgg0
  z0 := Tryd.sizeOf0
  v0 := Tryd.zeroValue0
  t3 := Tryd.underlying3
  a3 := Tryd.isAgg3
  z3 := Tryd.sizeOf3
  v3 := Tryd.zeroValue3
  t4 := Tryd.underlying4
  a4 := Tryd.isAgg4
  z4 := Tryd.sizeOf4
  v4 := Tryd.zeroValue4
  t5 := Tryd.underlying5
  a5 := Tryd.isAgg5
  z5 := Tryd.sizeOf5
  v5 := Tryd.zeroValue5
  t9 := Tryd.underlying9
  a9 := Tryd.isAgg9
  z9 := Tryd.sizeOf9
  v9 := Tryd.zeroValue9
  t22 := Tryd.underlying22
  a22 := Tryd.isAgg22
  z22 := Tryd.sizeOf22
  v22 := Tryd.zeroValue22
  t25 := Tryd.underlying27
  a25 := Tryd.isAgg27
  z25 := Tryd.sizeOf27
  v25 := Tryd.zeroValue27
  t39 := Tryd.underlying41
  a39 := Tryd.isAgg41
  z39 := Tryd.sizeOf41
  v39 := Tryd.zeroValue41
  t45 := Tryd.underlying45
  a45 := Tryd.isAgg45
  z45 := Tryd.sizeOf45
  v45 := Tryd.zeroValue45
  t46 := Tryd.underlying46
  a46 := Tryd.isAgg46
  z46 := Tryd.sizeOf46
  v46 := Tryd.zeroValue46
  t50 := Tryd.underlying50
  a50 := Tryd.isAgg50
  z50 := Tryd.sizeOf50
  v50 := Tryd.zeroValue50
  t53 := Tryd.underlying53
  a53 := Tryd.isAgg53
  z53 := Tryd.sizeOf53
  v53 := Tryd.zeroValue53
  t55 := Tryd.underlying55
  a55 := Tryd.isAgg55
  z55 := Tryd.sizeOf55
  v55 := Tryd.zeroValue55
  t66 := Tryd.underlying58
  a66 := Tryd.isAgg58
  z66 := Tryd.sizeOf58
  v66 := Tryd.zeroValue58
  t70 := Tryd.underlying62
  a70 := Tryd.isAgg62
  z70 := Tryd.sizeOf62
  v70 := Tryd.zeroValue62
  t76 := Tryd.underlying73
  a76 := Tryd.isAgg73
  z76 := Tryd.sizeOf73
  v76 := Tryd.zeroValue73
  t77 := Tryd.underlying74
  a77 := Tryd.isAgg74
  z77 := Tryd.sizeOf74
  v77 := Tryd.zeroValue74 }
open Go.RowKit Go.Lib Go.Sort in
theorem Tryd.slices_SortFunc {α : Type} [Inhabited α] (k : Nat) (aE : ∀ w, (isAgg (Tryd.laysSlF06_f11_ren.t 24)).run Tryd.prog w = .ok true w) (zE : ∀ w, (Go.sizeOf (Tryd.laysSlF06_f11_ren.t 24)).run Tryd.prog w = .ok k w) (enc : α → List Value) (hk : ∀ x, (enc x).length = k) (h1 : ∀ x, ∀ v ∈ enc x, v.oneCell' = true) (cf : α → α → Int) (hO : SWO (ltOf cf)) (g : Nat) (cb : Array Value) (blk off cap : Nat) (d : Array α) (w : World) (eg : ∀ args w, (callFunc g args).run Tryd.prog w = .ok (.enter g args) w) (hcmp : CmpLays Tryd.prog g cb enc k cf blk off d.size w) (hH : HoldsK enc k w blk off d) (hblk : blk < w.heap.size) (hsz : d.size < 4611686018427387904) :
    Calls Tryd.prog 11 #[.slice (some ⟨blk, off, none⟩) d.size cap, .func (.func g) #[] cb] w fun e w' =>
      e = .returned (.tuple #[]) ∧ ∃ d' n os, PermIn 0 d.size d d' ∧ SortedIn (ltOf cf) 0 d.size d' ∧ w' = sortWorldK enc k w blk off n d' os := AnyQ.slices_SortFunc Tryd.laysSlF06_f11 k aE zE enc hk h1 cf hO g cb blk off cap d w eg hcmp hH hblk hsz
end Go.Proofs.YtfpjlkkeelgffaaDoor
