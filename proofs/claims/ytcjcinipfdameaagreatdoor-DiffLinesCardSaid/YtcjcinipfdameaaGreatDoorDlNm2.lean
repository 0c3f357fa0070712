/- Labels: the loops' states. -/
import Derived.Test.YtcjcinipfdameaaGreatDoorDlNm1
import Derived.KernelRfl
set_option linter.unusedVariables false
set_option maxRecDepth 100000
set_option maxHeartbeats 4000000
namespace Go.Proofs.YtcjcinipfdameaaGreatDoor.Am

noncomputable def L50 (H : FuncId → Hint) (N m : Nat) (s : List UInt8) (c : List PV) : Option PV := loopS EN T0 H N 5 111 Tryz.f111 [1, 0, 0] ([true, true, false, false, true] ++ List.replicate 11 false) 0 m ([some (PV.str s), some (PV.eptr c 0), none, none, some (PV.str [])] ++ List.replicate 11 none) []
noncomputable def L51 (H : FuncId → Hint) (N m : Nat) (s : List UInt8) (c : List PV) : Option PV := loopS EN T0 H N 5 112 Tryz.f112 [1, 0, 0] ([true, true, false, false, true] ++ List.replicate 17 false) 0 m ([some (PV.str s), some (PV.eptr c 0), none, none, some (PV.str [])] ++ List.replicate 17 none) []
noncomputable def L20 (H : FuncId → Hint) (N m : Nat) (s : List UInt8) (i : Int) : Option PV := loopS EN T0 H N 5 44 Tryz.f44 [1, 1, 0, 1, 0] ([true, false, true, true, false, true, true, true, true, true, true, true, true, true, true, true, true, true, true, true, true, true, true, true, true, true] ++ List.replicate 29 false) 0 m ([some (PV.str s), none, some (PV.bool false), some (PV.int IntKind.i64 i), none, some (PV.str s), some (PV.int IntKind.i64 (↑s.length : Int)), some (PV.bool (decide ((↑s.length : Int) < 1))), some (PV.bool false), some (PV.str s), some (PV.int IntKind.i64 (↑s.length : Int)), some (PV.bool (decide ((↑s.length : Int) > 15))), some (PV.bool (decide ((↑s.length : Int) > 15))), some (PV.bool false), some (PV.str s), some (PV.int IntKind.u8 (↑(s.getD 0 0).toNat : Int)), some (PV.bool ((↑(s.getD 0 0).toNat : Int) == 45)), some (PV.bool ((↑(s.getD 0 0).toNat : Int) == 45)), some (PV.bool false), some (PV.str s), some (PV.str s), some (PV.int IntKind.i64 (↑s.length : Int)), some (PV.int IntKind.i64 (IntKind.i64.wrap ((↑s.length : Int) - 1))), some (PV.int IntKind.u8 (↑(s.getD (IntKind.i64.wrap ((↑s.length : Int) - 1)).toNat 0).toNat : Int)), some (PV.bool ((↑(s.getD (IntKind.i64.wrap ((↑s.length : Int) - 1)).toNat 0).toNat : Int) == 45)), some (PV.bool false)] ++ List.replicate 29 none) []

end Go.Proofs.YtcjcinipfdameaaGreatDoor.Am
