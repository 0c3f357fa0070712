/- The stable sort at one type. -/
import Derived.Test.YtpbemfikhmeedaaGreatDoorMZTxSp
set_option linter.unusedVariables false
set_option maxRecDepth 100000
set_option maxHeartbeats 8000000
namespace Go.Proofs.YtpbemfikhmeedaaGreatDoor.Am.SF
open St
@[reducible] noncomputable def iT : SoG.SoT where
  KF := [.int .i64, .bool, .int .u8, .int .u8, .int .u8, .int .u8, .int .u8, .int .u8, .int .u8, .int .u8, .int .u8, .int .u8, .int .u8, .int .u8, .int .u8, .int .u8, .int .u8, .int .u8, .int .i64, .str, .str, .str, .int .i64, .bool, .bool, .int .i64]
  fSw := 119
  cSw := Tryz.f119
  hSw := by rfl
  fRo := 114
  cRo := Tryz.f114
  hRo := by rfl
  fIn := 101
  cIn := Tryz.f101
  hIn := by rfl
  fSy := 102
  cSy := Tryz.f102
  hSy := by rfl
  fSt := 83
  cSt := Tryz.f83
  hSt := by rfl
  fSs := 69
  cSs := Tryz.f69
  hSs := by rfl
  fCmp := 70
theorem hT : @SoG.SoH iT := @SoG.SoH.mk iT
  (fun N m cells n a b k i g => by kernel_rfl)
  (fun N cells n a b k g => by kernel_rfl)
  (fun N q cells n a m b i0 j0 i j g => by kernel_rfl)
  (fun N cells n a m b g => by kernel_rfl)
  (fun cF N q cells n a b a1 i => by kernel_rfl)
  (fun cF N m q cells n a b a1 i j => by kernel_rfl)
  (fun cF N cells n a b => by kernel_rfl)
  (fun cF ask mg N q cells n a m b d i j => by kernel_rfl)
  (fun cF ask mg N q cells n a m b d i j k => by kernel_rfl)
  (fun cF ask mg N q cells n a m b d d2 i j => by kernel_rfl)
  (fun cF ask mg N q cells n a m b d d2 i j k => by kernel_rfl)
  (fun st0 cF ask mg N q cells n a m b d d2 md nn s1 u1 u2 p st r => by kernel_rfl)
  (fun cF ask mg N q cells n a m b d d2 md nn s1 u1 u2 p st r => by kernel_rfl)
  (fun cF ask mg N cells n a m b => by kernel_rfl)
  (fun cF ask mg N cells n => by kernel_rfl)
  (fun cF ask mg N q cells n a b => by kernel_rfl)
  (fun cF ask mg N q cells n bs a b a0 b0 => by kernel_rfl)
  (fun cF ask mg N q r cells n bs a b a0 b0 => by kernel_rfl)
  (fun cF N cells n => by kernel_rfl)
noncomputable abbrev cmpF : PV := @SoG.cmpF iT
noncomputable abbrev TCF := @SoG.TCF iT
noncomputable abbrev TSt2F := @SoG.TSt2F iT
noncomputable abbrev gSoF := @SoG.gSoF iT
theorem okSt2 {cF : List PV -> List PV -> Int} (h : Ord (ltOf cF)) (hc : ∃ K, TOk EN (TCF cF) (runA EN 1000009 K)) : ∃ K, TOk EN (TSt2F cF) (runA EN 1000009 K) := @SoG.okSt2 iT hT cF h hc
theorem runSoF (cF : List PV -> List PV -> Int) (xs : List PV) (t : Tr) (v : PV) (hg : gSoF cF xs = some t) (hv : t.val = some v) : ∃ H, footSR EN (TSt2F cF) H 1000009 5 69 xs = some v := @SoG.runSoF iT hT cF xs t v hg hv
end Go.Proofs.YtpbemfikhmeedaaGreatDoor.Am.SF
namespace Go.Proofs.YtpbemfikhmeedaaGreatDoor.Am.SG
open St
@[reducible] noncomputable def iT : SoG.SoT where
  KF := [.str, .str, .str, .bool, .bool, .int .i64, .sl 18, .sl 1]
  fSw := 120
  cSw := Tryz.f120
  hSw := by rfl
  fRo := 115
  cRo := Tryz.f115
  hRo := by rfl
  fIn := 104
  cIn := Tryz.f104
  hIn := by rfl
  fSy := 105
  cSy := Tryz.f105
  hSy := by rfl
  fSt := 85
  cSt := Tryz.f85
  hSt := by rfl
  fSs := 71
  cSs := Tryz.f71
  hSs := by rfl
  fCmp := 72
theorem hT : @SoG.SoH iT := @SoG.SoH.mk iT
  (fun N m cells n a b k i g => by kernel_rfl)
  (fun N cells n a b k g => by kernel_rfl)
  (fun N q cells n a m b i0 j0 i j g => by kernel_rfl)
  (fun N cells n a m b g => by kernel_rfl)
  (fun cF N q cells n a b a1 i => by kernel_rfl)
  (fun cF N m q cells n a b a1 i j => by kernel_rfl)
  (fun cF N cells n a b => by kernel_rfl)
  (fun cF ask mg N q cells n a m b d i j => by kernel_rfl)
  (fun cF ask mg N q cells n a m b d i j k => by kernel_rfl)
  (fun cF ask mg N q cells n a m b d d2 i j => by kernel_rfl)
  (fun cF ask mg N q cells n a m b d d2 i j k => by kernel_rfl)
  (fun st0 cF ask mg N q cells n a m b d d2 md nn s1 u1 u2 p st r => by kernel_rfl)
  (fun cF ask mg N q cells n a m b d d2 md nn s1 u1 u2 p st r => by kernel_rfl)
  (fun cF ask mg N cells n a m b => by kernel_rfl)
  (fun cF ask mg N cells n => by kernel_rfl)
  (fun cF ask mg N q cells n a b => by kernel_rfl)
  (fun cF ask mg N q cells n bs a b a0 b0 => by kernel_rfl)
  (fun cF ask mg N q r cells n bs a b a0 b0 => by kernel_rfl)
  (fun cF N cells n => by kernel_rfl)
noncomputable abbrev cmpF : PV := @SoG.cmpF iT
noncomputable abbrev TCF := @SoG.TCF iT
noncomputable abbrev TSt2F := @SoG.TSt2F iT
noncomputable abbrev gSoF := @SoG.gSoF iT
theorem okSt2 {cF : List PV -> List PV -> Int} (h : Ord (ltOf cF)) (hc : ∃ K, TOk EN (TCF cF) (runA EN 1000009 K)) : ∃ K, TOk EN (TSt2F cF) (runA EN 1000009 K) := @SoG.okSt2 iT hT cF h hc
theorem runSoF (cF : List PV -> List PV -> Int) (xs : List PV) (t : Tr) (v : PV) (hg : gSoF cF xs = some t) (hv : t.val = some v) : ∃ H, footSR EN (TSt2F cF) H 1000009 5 71 xs = some v := @SoG.runSoF iT hT cF xs t v hg hv
end Go.Proofs.YtpbemfikhmeedaaGreatDoor.Am.SG
namespace Go.Proofs.YtpbemfikhmeedaaGreatDoor.Am.SI
open St
@[reducible] noncomputable def iT : SoG.SoT where
  KF := [.str, .str, .sl 18]
  fSw := 121
  cSw := Tryz.f121
  hSw := by rfl
  fRo := 116
  cRo := Tryz.f116
  hRo := by rfl
  fIn := 106
  cIn := Tryz.f106
  hIn := by rfl
  fSy := 107
  cSy := Tryz.f107
  hSy := by rfl
  fSt := 87
  cSt := Tryz.f87
  hSt := by rfl
  fSs := 73
  cSs := Tryz.f73
  hSs := by rfl
  fCmp := 74
theorem hT : @SoG.SoH iT := @SoG.SoH.mk iT
  (fun N m cells n a b k i g => by kernel_rfl)
  (fun N cells n a b k g => by kernel_rfl)
  (fun N q cells n a m b i0 j0 i j g => by kernel_rfl)
  (fun N cells n a m b g => by kernel_rfl)
  (fun cF N q cells n a b a1 i => by kernel_rfl)
  (fun cF N m q cells n a b a1 i j => by kernel_rfl)
  (fun cF N cells n a b => by kernel_rfl)
  (fun cF ask mg N q cells n a m b d i j => by kernel_rfl)
  (fun cF ask mg N q cells n a m b d i j k => by kernel_rfl)
  (fun cF ask mg N q cells n a m b d d2 i j => by kernel_rfl)
  (fun cF ask mg N q cells n a m b d d2 i j k => by kernel_rfl)
  (fun st0 cF ask mg N q cells n a m b d d2 md nn s1 u1 u2 p st r => by kernel_rfl)
  (fun cF ask mg N q cells n a m b d d2 md nn s1 u1 u2 p st r => by kernel_rfl)
  (fun cF ask mg N cells n a m b => by kernel_rfl)
  (fun cF ask mg N cells n => by kernel_rfl)
  (fun cF ask mg N q cells n a b => by kernel_rfl)
  (fun cF ask mg N q cells n bs a b a0 b0 => by kernel_rfl)
  (fun cF ask mg N q r cells n bs a b a0 b0 => by kernel_rfl)
  (fun cF N cells n => by kernel_rfl)
noncomputable abbrev cmpF : PV := @SoG.cmpF iT
noncomputable abbrev TCF := @SoG.TCF iT
noncomputable abbrev TSt2F := @SoG.TSt2F iT
noncomputable abbrev gSoF := @SoG.gSoF iT
theorem okSt2 {cF : List PV -> List PV -> Int} (h : Ord (ltOf cF)) (hc : ∃ K, TOk EN (TCF cF) (runA EN 1000009 K)) : ∃ K, TOk EN (TSt2F cF) (runA EN 1000009 K) := @SoG.okSt2 iT hT cF h hc
theorem runSoF (cF : List PV -> List PV -> Int) (xs : List PV) (t : Tr) (v : PV) (hg : gSoF cF xs = some t) (hv : t.val = some v) : ∃ H, footSR EN (TSt2F cF) H 1000009 5 73 xs = some v := @SoG.runSoF iT hT cF xs t v hg hv
end Go.Proofs.YtpbemfikhmeedaaGreatDoor.Am.SI
