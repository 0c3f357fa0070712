/- Rows, groups, filters: which are the same; which are too long. -/
import Derived.Test.YtpbemfikhmeedaaGreatDoorMC
set_option linter.unusedVariables false
set_option linter.unusedSimpArgs false
set_option maxRecDepth 100000
set_option maxHeartbeats 8000000
namespace Go.Proofs.YtpbemfikhmeedaaGreatDoor.Am
section
open St
noncomputable def LS1 (N q : Nat) (fc gc ic fd gd jd : List PV) (nf ng ni mf mg mi : Nat) (i : Int) : Option PV := loopS EN TQ2 H0 N 5 12 Tryz.f12 [1, 1, 0, 1, 0] (patOf (sparse 89 0 [(0, .agg [.sl fc 26 nf none, .sl gc 8 ng none, .sl ic 3 ni none]), (1, .agg [.sl fd 26 mf none, .sl gd 8 mg none, .sl jd 3 mi none]), (2, .ptr 0 1 0), (3, .ptr 1 1 0), (4, .bool false), (8, .ptr 0 1 0), (9, .sl fc 26 nf none), (10, .int .i64 (↑nf : Int)), (11, .ptr 1 1 0), (12, .sl fd 26 mf none), (13, .int .i64 (↑mf : Int)), (14, .bool ((↑nf : Int) != (↑mf : Int))), (15, .bool false), (16, .ptr 0 1 1), (17, .sl gc 8 ng none), (18, .int .i64 (↑ng : Int)), (19, .ptr 1 1 1), (20, .sl gd 8 mg none), (21, .int .i64 (↑mg : Int)), (22, .bool ((↑ng : Int) != (↑mg : Int))), (23, .bool ((↑ng : Int) != (↑mg : Int))), (24, .bool false), (25, .ptr 0 1 2), (26, .sl ic 3 ni none), (27, .int .i64 (↑ni : Int)), (28, .ptr 1 1 2), (29, .sl jd 3 mi none), (30, .int .i64 (↑mi : Int)), (31, .bool ((↑ni : Int) != (↑mi : Int))), (32, .bool false), (33, .ptr 0 1 0), (34, .sl fc 26 nf none), (35, .int .i64 (↑nf : Int)), (36, .int .i64 i)])) 2 q (sparse 89 0 [(0, .agg [.sl fc 26 nf none, .sl gc 8 ng none, .sl ic 3 ni none]), (1, .agg [.sl fd 26 mf none, .sl gd 8 mg none, .sl jd 3 mi none]), (2, .ptr 0 1 0), (3, .ptr 1 1 0), (4, .bool false), (8, .ptr 0 1 0), (9, .sl fc 26 nf none), (10, .int .i64 (↑nf : Int)), (11, .ptr 1 1 0), (12, .sl fd 26 mf none), (13, .int .i64 (↑mf : Int)), (14, .bool ((↑nf : Int) != (↑mf : Int))), (15, .bool false), (16, .ptr 0 1 1), (17, .sl gc 8 ng none), (18, .int .i64 (↑ng : Int)), (19, .ptr 1 1 1), (20, .sl gd 8 mg none), (21, .int .i64 (↑mg : Int)), (22, .bool ((↑ng : Int) != (↑mg : Int))), (23, .bool ((↑ng : Int) != (↑mg : Int))), (24, .bool false), (25, .ptr 0 1 2), (26, .sl ic 3 ni none), (27, .int .i64 (↑ni : Int)), (28, .ptr 1 1 2), (29, .sl jd 3 mi none), (30, .int .i64 (↑mi : Int)), (31, .bool ((↑ni : Int) != (↑mi : Int))), (32, .bool false), (33, .ptr 0 1 0), (34, .sl fc 26 nf none), (35, .int .i64 (↑nf : Int)), (36, .int .i64 i)]) [Ob.mem { cells := [.sl fc 26 nf none, .sl gc 8 ng none, .sl ic 3 ni none], size := 3, len := 1, exact := true, ice := false, box := true }, Ob.mem { cells := [.sl fd 26 mf none, .sl gd 8 mg none, .sl jd 3 mi none], size := 3, len := 1, exact := true, ice := false, box := true }]
noncomputable def LS2 (N q : Nat) (fc gc ic fd gd jd : List PV) (nf ng ni mf mg mi : Nat) (e1 : Int) (i : Int) : Option PV := loopS EN TQ2 H0 N 5 12 Tryz.f12 [1, 1, 1, 0, 1, 0] (patOf (sparse 89 0 [(0, .agg [.sl fc 26 nf none, .sl gc 8 ng none, .sl ic 3 ni none]), (1, .agg [.sl fd 26 mf none, .sl gd 8 mg none, .sl jd 3 mi none]), (2, .ptr 0 1 0), (3, .ptr 1 1 0), (4, .bool false), (8, .ptr 0 1 0), (9, .sl fc 26 nf none), (10, .int .i64 (↑nf : Int)), (11, .ptr 1 1 0), (12, .sl fd 26 mf none), (13, .int .i64 (↑mf : Int)), (14, .bool ((↑nf : Int) != (↑mf : Int))), (15, .bool false), (16, .ptr 0 1 1), (17, .sl gc 8 ng none), (18, .int .i64 (↑ng : Int)), (19, .ptr 1 1 1), (20, .sl gd 8 mg none), (21, .int .i64 (↑mg : Int)), (22, .bool ((↑ng : Int) != (↑mg : Int))), (23, .bool ((↑ng : Int) != (↑mg : Int))), (24, .bool false), (25, .ptr 0 1 2), (26, .sl ic 3 ni none), (27, .int .i64 (↑ni : Int)), (28, .ptr 1 1 2), (29, .sl jd 3 mi none), (30, .int .i64 (↑mi : Int)), (31, .bool ((↑ni : Int) != (↑mi : Int))), (32, .bool false), (33, .ptr 0 1 0), (34, .sl fc 26 nf none), (35, .int .i64 (↑nf : Int)), (36, .int .i64 e1), (37, .bool false), (51, .ptr 0 1 1), (52, .sl gc 8 ng none), (53, .int .i64 (↑ng : Int)), (54, .int .i64 i)])) 2 q (sparse 89 0 [(0, .agg [.sl fc 26 nf none, .sl gc 8 ng none, .sl ic 3 ni none]), (1, .agg [.sl fd 26 mf none, .sl gd 8 mg none, .sl jd 3 mi none]), (2, .ptr 0 1 0), (3, .ptr 1 1 0), (4, .bool false), (8, .ptr 0 1 0), (9, .sl fc 26 nf none), (10, .int .i64 (↑nf : Int)), (11, .ptr 1 1 0), (12, .sl fd 26 mf none), (13, .int .i64 (↑mf : Int)), (14, .bool ((↑nf : Int) != (↑mf : Int))), (15, .bool false), (16, .ptr 0 1 1), (17, .sl gc 8 ng none), (18, .int .i64 (↑ng : Int)), (19, .ptr 1 1 1), (20, .sl gd 8 mg none), (21, .int .i64 (↑mg : Int)), (22, .bool ((↑ng : Int) != (↑mg : Int))), (23, .bool ((↑ng : Int) != (↑mg : Int))), (24, .bool false), (25, .ptr 0 1 2), (26, .sl ic 3 ni none), (27, .int .i64 (↑ni : Int)), (28, .ptr 1 1 2), (29, .sl jd 3 mi none), (30, .int .i64 (↑mi : Int)), (31, .bool ((↑ni : Int) != (↑mi : Int))), (32, .bool false), (33, .ptr 0 1 0), (34, .sl fc 26 nf none), (35, .int .i64 (↑nf : Int)), (36, .int .i64 e1), (37, .bool false), (51, .ptr 0 1 1), (52, .sl gc 8 ng none), (53, .int .i64 (↑ng : Int)), (54, .int .i64 i)]) [Ob.mem { cells := [.sl fc 26 nf none, .sl gc 8 ng none, .sl ic 3 ni none], size := 3, len := 1, exact := true, ice := false, box := true }, Ob.mem { cells := [.sl fd 26 mf none, .sl gd 8 mg none, .sl jd 3 mi none], size := 3, len := 1, exact := true, ice := false, box := true }]
noncomputable def LS3 (N q : Nat) (fc gc ic fd gd jd : List PV) (nf ng ni mf mg mi : Nat) (e1 e2 : Int) (i : Int) : Option PV := loopS EN TQ2 H0 N 5 12 Tryz.f12 [1, 1, 1, 1, 0, 1, 0] (patOf (sparse 89 0 [(0, .agg [.sl fc 26 nf none, .sl gc 8 ng none, .sl ic 3 ni none]), (1, .agg [.sl fd 26 mf none, .sl gd 8 mg none, .sl jd 3 mi none]), (2, .ptr 0 1 0), (3, .ptr 1 1 0), (4, .bool false), (8, .ptr 0 1 0), (9, .sl fc 26 nf none), (10, .int .i64 (↑nf : Int)), (11, .ptr 1 1 0), (12, .sl fd 26 mf none), (13, .int .i64 (↑mf : Int)), (14, .bool ((↑nf : Int) != (↑mf : Int))), (15, .bool false), (16, .ptr 0 1 1), (17, .sl gc 8 ng none), (18, .int .i64 (↑ng : Int)), (19, .ptr 1 1 1), (20, .sl gd 8 mg none), (21, .int .i64 (↑mg : Int)), (22, .bool ((↑ng : Int) != (↑mg : Int))), (23, .bool ((↑ng : Int) != (↑mg : Int))), (24, .bool false), (25, .ptr 0 1 2), (26, .sl ic 3 ni none), (27, .int .i64 (↑ni : Int)), (28, .ptr 1 1 2), (29, .sl jd 3 mi none), (30, .int .i64 (↑mi : Int)), (31, .bool ((↑ni : Int) != (↑mi : Int))), (32, .bool false), (33, .ptr 0 1 0), (34, .sl fc 26 nf none), (35, .int .i64 (↑nf : Int)), (36, .int .i64 e1), (37, .bool false), (51, .ptr 0 1 1), (52, .sl gc 8 ng none), (53, .int .i64 (↑ng : Int)), (54, .int .i64 e2), (55, .bool false), (70, .ptr 0 1 2), (71, .sl ic 3 ni none), (72, .int .i64 (↑ni : Int)), (73, .int .i64 i)])) 2 q (sparse 89 0 [(0, .agg [.sl fc 26 nf none, .sl gc 8 ng none, .sl ic 3 ni none]), (1, .agg [.sl fd 26 mf none, .sl gd 8 mg none, .sl jd 3 mi none]), (2, .ptr 0 1 0), (3, .ptr 1 1 0), (4, .bool false), (8, .ptr 0 1 0), (9, .sl fc 26 nf none), (10, .int .i64 (↑nf : Int)), (11, .ptr 1 1 0), (12, .sl fd 26 mf none), (13, .int .i64 (↑mf : Int)), (14, .bool ((↑nf : Int) != (↑mf : Int))), (15, .bool false), (16, .ptr 0 1 1), (17, .sl gc 8 ng none), (18, .int .i64 (↑ng : Int)), (19, .ptr 1 1 1), (20, .sl gd 8 mg none), (21, .int .i64 (↑mg : Int)), (22, .bool ((↑ng : Int) != (↑mg : Int))), (23, .bool ((↑ng : Int) != (↑mg : Int))), (24, .bool false), (25, .ptr 0 1 2), (26, .sl ic 3 ni none), (27, .int .i64 (↑ni : Int)), (28, .ptr 1 1 2), (29, .sl jd 3 mi none), (30, .int .i64 (↑mi : Int)), (31, .bool ((↑ni : Int) != (↑mi : Int))), (32, .bool false), (33, .ptr 0 1 0), (34, .sl fc 26 nf none), (35, .int .i64 (↑nf : Int)), (36, .int .i64 e1), (37, .bool false), (51, .ptr 0 1 1), (52, .sl gc 8 ng none), (53, .int .i64 (↑ng : Int)), (54, .int .i64 e2), (55, .bool false), (70, .ptr 0 1 2), (71, .sl ic 3 ni none), (72, .int .i64 (↑ni : Int)), (73, .int .i64 i)]) [Ob.mem { cells := [.sl fc 26 nf none, .sl gc 8 ng none, .sl ic 3 ni none], size := 3, len := 1, exact := true, ice := false, box := true }, Ob.mem { cells := [.sl fd 26 mf none, .sl gd 8 mg none, .sl jd 3 mi none], size := 3, len := 1, exact := true, ice := false, box := true }]
theorem tS0 (N : Nat) (fc : List PV) (gc : List PV) (ic : List PV) (fd : List PV) (gd : List PV) (jd : List PV) (nf : Nat) (ng : Nat) (ni : Nat) (mf : Nat) (mg : Nat) (mi : Nat) : apartS EN TQ2 H0 N 5 12 [PV.agg [PV.sl fc 26 nf none, PV.sl gc 8 ng none, PV.sl ic 3 ni none], PV.agg [PV.sl fd 26 mf none, PV.sl gd 8 mg none, PV.sl jd 3 mi none]] =
  (bif (↑nf : Int) != (↑mf : Int) then
    (some (PV.bool false))
  else
    (bif (↑ng : Int) != (↑mg : Int) then
      (some (PV.bool false))
    else
      (bif (↑ni : Int) != (↑mi : Int) then
        (some (PV.bool false))
      else
        (LS1 N N fc gc ic fd gd jd nf ng ni mf mg mi  0)))) := by kernel_rfl
theorem tS1 (N : Nat) (q : Nat) (fc : List PV) (gc : List PV) (ic : List PV) (fd : List PV) (gd : List PV) (jd : List PV) (nf : Nat) (ng : Nat) (ni : Nat) (mf : Nat) (mg : Nat) (mi : Nat) (i : Int) : LS1 N (q + 1) fc gc ic fd gd jd nf ng ni mf mg mi i =
  (bif decide (i < (↑nf : Int)) then
    (asks [oldL 2 fc, decide (0 <= i) && decide (i < (↑nf : Int)), okAt KFr fc (i.toNat * 26), oldL 2 fd, decide (0 <= i) && decide (i < (↑mf : Int)), okAt KFr fd (i.toNat * 26)] <|
              bif !(eqFr (shapeAt KFr fc (i.toNat * 26)) (shapeAt KFr fd (i.toNat * 26))) then
                  (some (PV.bool false))
                else
    (asks [oldL 2 fc, oldL 2 gc, oldL 2 ic, oldL 2 fd, oldL 2 gd, oldL 2 jd, oldL 2 fc, oldL 2 fd, oldL 2 gc, oldL 2 gd, oldL 2 ic, oldL 2 jd, oldL 2 fc, oldL 2 fc, oldL 2 gc, oldL 2 ic, oldL 2 fd, oldL 2 gd, oldL 2 jd] <|
                                                      LS1 N (q) (fc) (gc) (ic) (fd) (gd) (jd) (nf) (ng) (ni) (mf) (mg) (mi) (IntKind.i64.wrap (i + 1))))
  else
    (LS2 N N fc gc ic fd gd jd nf ng ni mf mg mi  i 0)) := by kernel_rfl
theorem tS2 (N : Nat) (q : Nat) (fc : List PV) (gc : List PV) (ic : List PV) (fd : List PV) (gd : List PV) (jd : List PV) (nf : Nat) (ng : Nat) (ni : Nat) (mf : Nat) (mg : Nat) (mi : Nat) (e1 : Int) (i : Int) : LS2 N (q + 1) fc gc ic fd gd jd nf ng ni mf mg mi e1 i =
  (bif decide (i < (↑ng : Int)) then
    (asks [oldL 2 gc, decide (0 <= i) && decide (i < (↑ng : Int)), okAt KGr gc (i.toNat * 8), oldL 2 (slCells ((shapeAt KGr gc (i.toNat * 8)).getD 6 .nilp)), oldL 2 (slCells ((shapeAt KGr gc (i.toNat * 8)).getD 7 .nilp)), oldL 2 gd, decide (0 <= i) && decide (i < (↑mg : Int)), okAt KGr gd (i.toNat * 8), oldL 2 (slCells ((shapeAt KGr gd (i.toNat * 8)).getD 6 .nilp)), oldL 2 (slCells ((shapeAt KGr gd (i.toNat * 8)).getD 7 .nilp)), oldL 0 (slCells ((shapeAt KGr gc (i.toNat * 8)).getD 6 .nilp)), oldL 0 (slCells ((shapeAt KGr gc (i.toNat * 8)).getD 7 .nilp)), oldL 0 (slCells ((shapeAt KGr gd (i.toNat * 8)).getD 6 .nilp)), oldL 0 (slCells ((shapeAt KGr gd (i.toNat * 8)).getD 7 .nilp)), grOk (shapeAt KGr gc (i.toNat * 8)) && grOk (shapeAt KGr gd (i.toNat * 8))] <|
                                bif !sameGr (shapeAt KGr gc (i.toNat * 8)) (shapeAt KGr gd (i.toNat * 8)) then
                                    (some (PV.bool false))
                                  else
    (asks [oldL 2 fc, oldL 2 gc, oldL 2 ic, oldL 2 fd, oldL 2 gd, oldL 2 jd, oldL 2 fc, oldL 2 fd, oldL 2 gc, oldL 2 gd, oldL 2 ic, oldL 2 jd, oldL 2 fc, oldL 2 gc, oldL 2 fc, oldL 2 gc, oldL 2 ic, oldL 2 fd, oldL 2 gd, oldL 2 jd] <|
                                                                          LS2 N (q) (fc) (gc) (ic) (fd) (gd) (jd) (nf) (ng) (ni) (mf) (mg) (mi) (e1) (IntKind.i64.wrap (i + 1))))
  else
    (LS3 N N fc gc ic fd gd jd nf ng ni mf mg mi e1 i 0)) := by kernel_rfl
theorem tS3 (N : Nat) (q : Nat) (fc : List PV) (gc : List PV) (ic : List PV) (fd : List PV) (gd : List PV) (jd : List PV) (nf : Nat) (ng : Nat) (ni : Nat) (mf : Nat) (mg : Nat) (mi : Nat) (e1 : Int) (e2 : Int) (i : Int) : LS3 N (q + 1) fc gc ic fd gd jd nf ng ni mf mg mi e1 e2 i =
  (bif decide (i < (↑ni : Int)) then
    (asks [oldL 2 ic, decide (0 <= i) && decide (i < (↑ni : Int)), okAt KFi ic (i.toNat * 3), oldL 2 (slCells ((shapeAt KFi ic (i.toNat * 3)).getD 2 .nilp)), oldL 2 jd, decide (0 <= i) && decide (i < (↑mi : Int)), okAt KFi jd (i.toNat * 3), oldL 2 (slCells ((shapeAt KFi jd (i.toNat * 3)).getD 2 .nilp)), oldL 0 (slCells ((shapeAt KFi ic (i.toNat * 3)).getD 2 .nilp)), oldL 0 (slCells ((shapeAt KFi jd (i.toNat * 3)).getD 2 .nilp)), fiOk (shapeAt KFi ic (i.toNat * 3)) && fiOk (shapeAt KFi jd (i.toNat * 3))] <|
                        bif !sameFi (shapeAt KFi ic (i.toNat * 3)) (shapeAt KFi jd (i.toNat * 3)) then
                            (some (PV.bool false))
                          else
    (asks [oldL 2 fc, oldL 2 gc, oldL 2 ic, oldL 2 fd, oldL 2 gd, oldL 2 jd, oldL 2 fc, oldL 2 fd, oldL 2 gc, oldL 2 gd, oldL 2 ic, oldL 2 jd, oldL 2 fc, oldL 2 gc, oldL 2 ic, oldL 2 fc, oldL 2 gc, oldL 2 ic, oldL 2 fd, oldL 2 gd, oldL 2 jd] <|
                                                                    LS3 N (q) (fc) (gc) (ic) (fd) (gd) (jd) (nf) (ng) (ni) (mf) (mg) (mi) (e1) (e2) (IntKind.i64.wrap (i + 1))))
  else
    (some (PV.bool true))) := by kernel_rfl
noncomputable def LLo1 (N q : Nat) (fc gc ic : List PV) (nf ng ni : Nat) (mo : Int) (i : Int) : Option PV := loopS EN T0 H0 N 5 5 Tryz.f5 [1, 1, 0, 1, 0] (patOf (sparse 125 0 [(0, .agg [.sl fc 26 nf none, .sl gc 8 ng none, .sl ic 3 ni none]), (1, .int .i64 mo), (2, .ptr 0 1 0), (4, .bool false), (11, .ptr 0 1 0), (12, .sl fc 26 nf none), (13, .int .i64 (↑nf : Int)), (14, .int .i64 mo), (15, .bool (decide ((↑nf : Int) > mo))), (16, .bool false), (17, .ptr 0 1 1), (18, .sl gc 8 ng none), (19, .int .i64 (↑ng : Int)), (20, .int .i64 mo), (21, .bool (decide ((↑ng : Int) > mo))), (22, .bool (decide ((↑ng : Int) > mo))), (23, .bool false), (24, .ptr 0 1 2), (25, .sl ic 3 ni none), (26, .int .i64 (↑ni : Int)), (27, .int .i64 mo), (28, .bool (decide ((↑ni : Int) > mo))), (29, .bool false), (30, .ptr 0 1 0), (31, .sl fc 26 nf none), (32, .int .i64 (↑nf : Int)), (33, .int .i64 i)])) 1 q (sparse 125 0 [(0, .agg [.sl fc 26 nf none, .sl gc 8 ng none, .sl ic 3 ni none]), (1, .int .i64 mo), (2, .ptr 0 1 0), (4, .bool false), (11, .ptr 0 1 0), (12, .sl fc 26 nf none), (13, .int .i64 (↑nf : Int)), (14, .int .i64 mo), (15, .bool (decide ((↑nf : Int) > mo))), (16, .bool false), (17, .ptr 0 1 1), (18, .sl gc 8 ng none), (19, .int .i64 (↑ng : Int)), (20, .int .i64 mo), (21, .bool (decide ((↑ng : Int) > mo))), (22, .bool (decide ((↑ng : Int) > mo))), (23, .bool false), (24, .ptr 0 1 2), (25, .sl ic 3 ni none), (26, .int .i64 (↑ni : Int)), (27, .int .i64 mo), (28, .bool (decide ((↑ni : Int) > mo))), (29, .bool false), (30, .ptr 0 1 0), (31, .sl fc 26 nf none), (32, .int .i64 (↑nf : Int)), (33, .int .i64 i)]) [Ob.mem { cells := [.sl fc 26 nf none, .sl gc 8 ng none, .sl ic 3 ni none], size := 3, len := 1, exact := true, ice := false, box := true }]
noncomputable def LLo2 (N q : Nat) (fc gc ic : List PV) (nf ng ni : Nat) (mo : Int) (e1 : Int) (i : Int) : Option PV := loopS EN T0 H0 N 5 5 Tryz.f5 [1, 1, 1, 0, 1, 0] (patOf (sparse 125 0 [(0, .agg [.sl fc 26 nf none, .sl gc 8 ng none, .sl ic 3 ni none]), (1, .int .i64 mo), (2, .ptr 0 1 0), (4, .bool false), (11, .ptr 0 1 0), (12, .sl fc 26 nf none), (13, .int .i64 (↑nf : Int)), (14, .int .i64 mo), (15, .bool (decide ((↑nf : Int) > mo))), (16, .bool false), (17, .ptr 0 1 1), (18, .sl gc 8 ng none), (19, .int .i64 (↑ng : Int)), (20, .int .i64 mo), (21, .bool (decide ((↑ng : Int) > mo))), (22, .bool (decide ((↑ng : Int) > mo))), (23, .bool false), (24, .ptr 0 1 2), (25, .sl ic 3 ni none), (26, .int .i64 (↑ni : Int)), (27, .int .i64 mo), (28, .bool (decide ((↑ni : Int) > mo))), (29, .bool false), (30, .ptr 0 1 0), (31, .sl fc 26 nf none), (32, .int .i64 (↑nf : Int)), (33, .int .i64 e1), (34, .bool false), (56, .ptr 0 1 1), (57, .sl gc 8 ng none), (58, .int .i64 (↑ng : Int)), (59, .int .i64 i)])) 1 q (sparse 125 0 [(0, .agg [.sl fc 26 nf none, .sl gc 8 ng none, .sl ic 3 ni none]), (1, .int .i64 mo), (2, .ptr 0 1 0), (4, .bool false), (11, .ptr 0 1 0), (12, .sl fc 26 nf none), (13, .int .i64 (↑nf : Int)), (14, .int .i64 mo), (15, .bool (decide ((↑nf : Int) > mo))), (16, .bool false), (17, .ptr 0 1 1), (18, .sl gc 8 ng none), (19, .int .i64 (↑ng : Int)), (20, .int .i64 mo), (21, .bool (decide ((↑ng : Int) > mo))), (22, .bool (decide ((↑ng : Int) > mo))), (23, .bool false), (24, .ptr 0 1 2), (25, .sl ic 3 ni none), (26, .int .i64 (↑ni : Int)), (27, .int .i64 mo), (28, .bool (decide ((↑ni : Int) > mo))), (29, .bool false), (30, .ptr 0 1 0), (31, .sl fc 26 nf none), (32, .int .i64 (↑nf : Int)), (33, .int .i64 e1), (34, .bool false), (56, .ptr 0 1 1), (57, .sl gc 8 ng none), (58, .int .i64 (↑ng : Int)), (59, .int .i64 i)]) [Ob.mem { cells := [.sl fc 26 nf none, .sl gc 8 ng none, .sl ic 3 ni none], size := 3, len := 1, exact := true, ice := false, box := true }]
noncomputable def LLo3 (N q : Nat) (fc gc ic : List PV) (nf ng ni : Nat) (mo : Int) (e1 e2 : Int) (i : Int) : Option PV := loopS EN T0 H0 N 5 5 Tryz.f5 [1, 1, 1, 1, 0, 1, 0] (patOf (sparse 125 0 [(0, .agg [.sl fc 26 nf none, .sl gc 8 ng none, .sl ic 3 ni none]), (1, .int .i64 mo), (2, .ptr 0 1 0), (4, .bool false), (11, .ptr 0 1 0), (12, .sl fc 26 nf none), (13, .int .i64 (↑nf : Int)), (14, .int .i64 mo), (15, .bool (decide ((↑nf : Int) > mo))), (16, .bool false), (17, .ptr 0 1 1), (18, .sl gc 8 ng none), (19, .int .i64 (↑ng : Int)), (20, .int .i64 mo), (21, .bool (decide ((↑ng : Int) > mo))), (22, .bool (decide ((↑ng : Int) > mo))), (23, .bool false), (24, .ptr 0 1 2), (25, .sl ic 3 ni none), (26, .int .i64 (↑ni : Int)), (27, .int .i64 mo), (28, .bool (decide ((↑ni : Int) > mo))), (29, .bool false), (30, .ptr 0 1 0), (31, .sl fc 26 nf none), (32, .int .i64 (↑nf : Int)), (33, .int .i64 e1), (34, .bool false), (56, .ptr 0 1 1), (57, .sl gc 8 ng none), (58, .int .i64 (↑ng : Int)), (59, .int .i64 e2), (60, .bool false), (99, .ptr 0 1 2), (100, .sl ic 3 ni none), (101, .int .i64 (↑ni : Int)), (102, .int .i64 i)])) 1 q (sparse 125 0 [(0, .agg [.sl fc 26 nf none, .sl gc 8 ng none, .sl ic 3 ni none]), (1, .int .i64 mo), (2, .ptr 0 1 0), (4, .bool false), (11, .ptr 0 1 0), (12, .sl fc 26 nf none), (13, .int .i64 (↑nf : Int)), (14, .int .i64 mo), (15, .bool (decide ((↑nf : Int) > mo))), (16, .bool false), (17, .ptr 0 1 1), (18, .sl gc 8 ng none), (19, .int .i64 (↑ng : Int)), (20, .int .i64 mo), (21, .bool (decide ((↑ng : Int) > mo))), (22, .bool (decide ((↑ng : Int) > mo))), (23, .bool false), (24, .ptr 0 1 2), (25, .sl ic 3 ni none), (26, .int .i64 (↑ni : Int)), (27, .int .i64 mo), (28, .bool (decide ((↑ni : Int) > mo))), (29, .bool false), (30, .ptr 0 1 0), (31, .sl fc 26 nf none), (32, .int .i64 (↑nf : Int)), (33, .int .i64 e1), (34, .bool false), (56, .ptr 0 1 1), (57, .sl gc 8 ng none), (58, .int .i64 (↑ng : Int)), (59, .int .i64 e2), (60, .bool false), (99, .ptr 0 1 2), (100, .sl ic 3 ni none), (101, .int .i64 (↑ni : Int)), (102, .int .i64 i)]) [Ob.mem { cells := [.sl fc 26 nf none, .sl gc 8 ng none, .sl ic 3 ni none], size := 3, len := 1, exact := true, ice := false, box := true }]
theorem tLo0 (N : Nat) (fc : List PV) (gc : List PV) (ic : List PV) (nf : Nat) (ng : Nat) (ni : Nat) (mo : Int) : apartS EN T0 H0 N 5 5 [PV.agg [PV.sl fc 26 nf none, PV.sl gc 8 ng none, PV.sl ic 3 ni none], PV.int IntKind.i64 mo] =
  (bif decide ((↑nf : Int) > mo) then
    (some (PV.bool true))
  else
    (bif decide ((↑ng : Int) > mo) then
      (some (PV.bool true))
    else
      (bif decide ((↑ni : Int) > mo) then
        (some (PV.bool true))
      else
        (LLo1 N N fc gc ic nf ng ni mo  0)))) := by kernel_rfl
theorem tLo1 (N : Nat) (q : Nat) (fc : List PV) (gc : List PV) (ic : List PV) (nf : Nat) (ng : Nat) (ni : Nat) (mo : Int) (i : Int) : LLo1 N (q + 1) fc gc ic nf ng ni mo i =
  (bif decide (i < (↑nf : Int)) then
    (asks [decide (0 <= i) && decide (i < (↑nf : Int)), okAt KFr fc (i.toNat * 26)] <|
      bif decide ((↑(asS ((shapeAt KFr fc (i.toNat * 26)).getD 19 .nilp)).length : Int) > 100) then
          (some (PV.bool true))
        else
          (bif decide ((↑(asS ((shapeAt KFr fc (i.toNat * 26)).getD 20 .nilp)).length : Int) > 100) then
            (some (PV.bool true))
          else
            (bif decide ((↑(asS ((shapeAt KFr fc (i.toNat * 26)).getD 21 .nilp)).length : Int) > 100) then
              (some (PV.bool true))
            else
    (asks [oldL 1 fc, oldL 1 gc, oldL 1 ic, oldL 1 fc, oldL 1 gc, oldL 1 ic, oldL 1 fc, oldL 1 fc, oldL 1 gc, oldL 1 ic] <|
                                LLo1 N (q) (fc) (gc) (ic) (nf) (ng) (ni) (mo) (IntKind.i64.wrap (i + 1))))))
  else
    (LLo2 N N fc gc ic nf ng ni mo  i 0)) := by kernel_rfl
theorem tLo2 (N : Nat) (q : Nat) (fc : List PV) (gc : List PV) (ic : List PV) (nf : Nat) (ng : Nat) (ni : Nat) (mo : Int) (e1 : Int) (i : Int) : LLo2 N (q + 1) fc gc ic nf ng ni mo e1 i =
  (bif decide (i < (↑ng : Int)) then
    (asks [decide (0 <= i) && decide (i < (↑ng : Int)), okAt KGr gc (i.toNat * 8)] <|
      bif decide ((↑(asS ((shapeAt KGr gc (i.toNat * 8)).getD 0 .nilp)).length : Int) > 100) then
          (some (PV.bool true))
        else
          (bif decide ((↑(asS ((shapeAt KGr gc (i.toNat * 8)).getD 1 .nilp)).length : Int) > 100) then
            (some (PV.bool true))
          else
            (bif decide ((↑(asS ((shapeAt KGr gc (i.toNat * 8)).getD 2 .nilp)).length : Int) > 100) then
              (some (PV.bool true))
            else
              (bif decide ((↑(slLen ((shapeAt KGr gc (i.toNat * 8)).getD 6 .nilp)) : Int) > 30) then
                (some (PV.bool true))
              else
                (bif decide ((↑(slLen ((shapeAt KGr gc (i.toNat * 8)).getD 7 .nilp)) : Int) > 260) then
                  (some (PV.bool true))
                else
    (asks [oldL 1 fc, oldL 1 gc, oldL 1 ic, oldL 1 fc, oldL 1 gc, oldL 1 ic, oldL 1 fc, oldL 1 gc, oldL 1 fc, oldL 1 gc, oldL 1 ic] <|
                                      LLo2 N (q) (fc) (gc) (ic) (nf) (ng) (ni) (mo) (e1) (IntKind.i64.wrap (i + 1))))))))
  else
    (LLo3 N N fc gc ic nf ng ni mo e1 i 0)) := by kernel_rfl
theorem tLo3 (N : Nat) (q : Nat) (fc : List PV) (gc : List PV) (ic : List PV) (nf : Nat) (ng : Nat) (ni : Nat) (mo : Int) (e1 : Int) (e2 : Int) (i : Int) : LLo3 N (q + 1) fc gc ic nf ng ni mo e1 e2 i =
  (bif decide (i < (↑ni : Int)) then
    (asks [decide (0 <= i) && decide (i < (↑ni : Int)), okAt KFi ic (i.toNat * 3)] <|
      bif decide ((↑(asS ((shapeAt KFi ic (i.toNat * 3)).getD 0 .nilp)).length : Int) > 100) then
          (some (PV.bool true))
        else
          (bif decide ((↑(asS ((shapeAt KFi ic (i.toNat * 3)).getD 1 .nilp)).length : Int) > 100) then
            (some (PV.bool true))
          else
            (bif decide ((↑(slLen ((shapeAt KFi ic (i.toNat * 3)).getD 2 .nilp)) : Int) > 20) then
              (some (PV.bool true))
            else
    (asks [oldL 1 fc, oldL 1 gc, oldL 1 ic, oldL 1 fc, oldL 1 gc, oldL 1 ic, oldL 1 fc, oldL 1 gc, oldL 1 ic, oldL 1 fc, oldL 1 gc, oldL 1 ic] <|
                                    LLo3 N (q) (fc) (gc) (ic) (nf) (ng) (ni) (mo) (e1) (e2) (IntKind.i64.wrap (i + 1))))))
  else
    (some (PV.bool false))) := by kernel_rfl
def rowsA (K : List Kd) (ok : List PV -> Bool) (n : Nat) (c : List PV) : Bool := rowsC K n c && (chunks K.length n c).all ok
theorem rowsA_ok {K : List Kd} {ok : List PV -> Bool} {n : Nat} {c : List PV} (h : rowsA K ok n c = true) : n <= 1000000 /\ ∃ R, rowsOk K R = true /\ R.flatten = c /\ R.length = n /\ chunks K.length n c = R /\ ∀ r ∈ R, ok r = true := by
  unfold rowsA at h
  simp only [Bool.and_eq_true] at h
  obtain ⟨r1, r2, r3, r4⟩ := rowsC_ok h.1
  exact ⟨r1, _, r2, r3, r4, rfl, fun r hr => List.all_eq_true.1 h.2 r hr⟩
def gEqA (K : List Kd) (es : Nat) (ok : List PV -> Bool) (eq : List PV -> List PV -> Bool) (g : Nat) (xs : List PV) : Option (Bool × PV) := match xs with
  | [.sl c e1 n none, .sl d e2 m none, .fn (.func g') [] []] => some (Nat.beq g' g && (Nat.beq e1 es && (Nat.beq e2 es && (rowsA K ok n c && rowsA K ok m d))), .bool (Nat.beq n m && eqRows eq (chunks es n c) (chunks es m d)))
  | _ => none
def Rw.pv (r : Rw) : PV := .agg [.sl r.fc 26 r.nf none, .sl r.gc 8 r.ng none, .sl r.ic 3 r.ni none]
def asRw (x : PV) : Option Rw := match x with
  | .agg [.sl fc a nf none, .sl gc b ng none, .sl ic c ni none] => bif Nat.beq a 26 && (Nat.beq b 8 && Nat.beq c 3) then some ⟨nf, fc, ng, gc, ni, ic⟩ else none
  | _ => none
theorem asRw_ok {x : PV} {r : Rw} (h : asRw x = some r) : x = r.pv := by
  unfold asRw at h
  split at h
  . rename_i fc a nf gc b ng ic c ni
    cases hb : (Nat.beq a 26 && (Nat.beq b 8 && Nat.beq c 3)) with
    | false => rw [hb] at h; cases h
    | true =>
      rw [hb] at h
      cases h
      simp only [Bool.and_eq_true] at hb
      rw [Nat.eq_of_beq_eq_true hb.1, Nat.eq_of_beq_eq_true hb.2.1, Nat.eq_of_beq_eq_true hb.2.2]
      rfl
  . cases h
def Rw.F (r : Rw) : List (List PV) := chunks 26 r.nf r.fc
def Rw.G (r : Rw) : List (List PV) := chunks 8 r.ng r.gc
def Rw.I (r : Rw) : List (List PV) := chunks 3 r.ni r.ic
def Rw.ok0 (r : Rw) : Bool := rowsC KFr r.nf r.fc && (rowsC KGr r.ng r.gc && rowsC KFi r.ni r.ic)
def Rw.ok (r : Rw) : Bool := rowsC KFr r.nf r.fc && (rowsA KGr grOk r.ng r.gc && rowsA KFi fiOk r.ni r.ic)
def Rw.same (r s : Rw) : Bool := (Nat.beq r.nf s.nf && eqRows eqFr r.F s.F) && ((Nat.beq r.ng s.ng && eqRows sameGr r.G s.G) && (Nat.beq r.ni s.ni && eqRows sameFi r.I s.I))
def gSame (xs : List PV) : Option (Bool × PV) := (two asRw xs).map fun p => (p.1.ok && p.2.ok, .bool (p.1.same p.2))
theorem two_rw {g : Rw × Rw -> Bool × PV} {xs : List PV} {v : PV} (h : (two asRw xs).map g = some (true, v)) : ∃ r s, xs = [Rw.pv r, Rw.pv s] /\ (g (r, s)).1 = true /\ v = (g (r, s)).2 := by
  obtain ⟨x, y, a, b, rfl, h1, h2, h3⟩ := two_some h
  rw [asRw_ok h1, asRw_ok h2]
  exact ⟨a, b, rfl, by rw [<- h3], by rw [<- h3]⟩
theorem ref_step {n : Nat} (hn : n <= 1000000) {L : Nat -> Int -> Option PV} {e : Int -> Option PV} {P Q : Int -> List Bool} {C : Int -> Bool} {x : Option PV}
    (ht : ∀ q i, L (q + 1) i = bif decide (i < (n : Int)) then asks (P i) (bif C i then x else asks (Q i) (L q (IntKind.i64.wrap (i + 1)))) else e i)
    (hP : ∀ i : Nat, i < n -> (P (i : Int)).all id = true) (hQ : ∀ i : Nat, i < n -> (Q (i : Int)).all id = true) {b : Bool} (hb : anyFrom C 0 n = b) : L 1000009 0 = bif b then x else e (n : Int) := by
  have := any_loop hn ht hP hQ n 0 (1000008 - n) (by omega)
  rw [show 1000008 - n + n + 1 = 1000009 from by omega, hb] at this
  exact this
theorem runRS (xs : List PV) (v : PV) (h : gSame xs = some (true, v)) : ∃ H, apartS EN TQ2 H 1000009 5 12 xs = some v := by
  obtain ⟨r, s, rfl, hk, rfl⟩ := two_rw h
  dsimp only at hk ⊢
  unfold Rw.ok at hk
  simp only [Bool.and_eq_true] at hk
  obtain ⟨⟨a1, a2, a3⟩, b1, b2, b3⟩ := hk
  refine ⟨H0, (tS0 1000009 r.fc r.gc r.ic s.fc s.gc s.ic r.nf r.ng r.ni s.nf s.ng s.ni).trans ?_⟩
  unfold Rw.same
  by_cases hf : r.nf = s.nf
  . rw [cond_f (show ((r.nf : Int) != (s.nf : Int)) = false from by simp; omega)]
    by_cases hg : r.ng = s.ng
    . rw [cond_f (show ((r.ng : Int) != (s.ng : Int)) = false from by simp; omega)]
      by_cases hi : r.ni = s.ni
      . rw [cond_f (show ((r.ni : Int) != (s.ni : Int)) = false from by simp; omega)]
        obtain ⟨nf, fc, ng, gc, ni, ic⟩ := r
        obtain ⟨mf, fd, mg, gd, mi, jd⟩ := s
        dsimp only at hf hg hi a1 a2 a3 b1 b2 b3 ⊢
        subst hf hg hi
        obtain ⟨hnf, f1, f2, f3⟩ := rowsC_ok a1
        obtain ⟨_, f1', f2', f3'⟩ := rowsC_ok b1
        obtain ⟨hng, G, g1, rfl, g3, g4, g5⟩ := rowsA_ok a2
        obtain ⟨_, G', g1', rfl, g3', g4', g5'⟩ := rowsA_ok b2
        obtain ⟨hni, I, i1, rfl, i3, i4, i5⟩ := rowsA_ok a3
        obtain ⟨_, I', i1', rfl, i3', i4', i5'⟩ := rowsA_ok b3
        unfold Rw.F Rw.G Rw.I
        dsimp only
        rw [show chunks 8 ng G.flatten = G from g4, show chunks 8 ng G'.flatten = G' from g4', show chunks 3 ni I.flatten = I from i4, show chunks 3 ni I'.flatten = I' from i4', show (26 : Nat) = KFr.length from rfl]
        clear a1 b1 a2 b2 a3 b3 h
        revert f1 f2 f3 f1' f2' f3'
        generalize chunks KFr.length nf fc = F
        generalize chunks KFr.length nf fd = F'
        intro f1 f2 f3 f1' f2' f3'
        subst f2 f2'
        have e26 : (26 : Nat) = KFr.length := rfl
        have e8 : (8 : Nat) = KGr.length := rfl
        have e3 : (3 : Nat) = KFi.length := rfl
        have lf : F'.length = F.length := by omega
        have lg : G'.length = G.length := by omega
        have li : I'.length = I.length := by omega
        rw [ref_step hnf (L := fun q i => LS1 1000009 q F.flatten G.flatten I.flatten F'.flatten G'.flatten I'.flatten nf ng ni nf ng ni i) (fun q i => tS1 1000009 q _ _ _ _ _ _ _ _ _ _ _ _ i) (fun i hi => by
          have hi1 : i < F.length := by omega
          have hi2 : i < F'.length := by omega
          simp only [Int.toNat_natCast, e26, (rows_at0 f1 hi1).1, (rows_at0 f1' hi2).1, rows_oldn f1, rows_oldn f1', inside hi, List.all_cons, List.all_nil, id, Bool.and_self]) (fun i hi => by
          simp only [rows_oldn f1, rows_oldn f1', rows_oldn g1, rows_oldn g1', rows_oldn i1, rows_oldn i1', List.all_cons, List.all_nil, id, Bool.and_self]) (any_rows2 (eq := eqFr) lf (fun j hj => by
          have hj2 : j < F'.length := by omega
          simp only [Int.toNat_natCast, e26, (rows_at0 f1 hj).2, (rows_at0 f1' hj2).2]) nf 0 (by omega))]
        rw [List.drop_zero, List.drop_zero]
        cases eqRows eqFr F F' with
        | false => rw [Nat.beq_refl]; rfl
        | true =>
          rw [Bool.not_true, cond_false]
          rw [ref_step hng (L := fun q i => LS2 1000009 q F.flatten G.flatten I.flatten F'.flatten G'.flatten I'.flatten nf ng ni nf ng ni (nf : Int) i) (fun q i => tS2 1000009 q _ _ _ _ _ _ _ _ _ _ _ _ _ i) (fun i hi => by
            have hi1 : i < G.length := by omega
            have hi2 : i < G'.length := by omega
            simp only [Int.toNat_natCast, e8, (rows_at0 g1 hi1).1, (rows_at0 g1 hi1).2, (rows_at0 g1' hi2).1, (rows_at0 g1' hi2).2, row_cell g1 hi1, row_cell g1' hi2, rows_oldn g1, rows_oldn g1', inside hi, g5 _ (List.getElem_mem hi1), g5' _ (List.getElem_mem hi2), List.all_cons, List.all_nil, id, Bool.and_self]) (fun i hi => by
            simp only [rows_oldn f1, rows_oldn f1', rows_oldn g1, rows_oldn g1', rows_oldn i1, rows_oldn i1', List.all_cons, List.all_nil, id, Bool.and_self]) (any_rows2 (eq := sameGr) lg (fun j hj => by
            have hj2 : j < G'.length := by omega
            simp only [Int.toNat_natCast, e8, (rows_at0 g1 hj).2, (rows_at0 g1' hj2).2]) ng 0 (by omega))]
          rw [List.drop_zero, List.drop_zero]
          cases eqRows sameGr G G' with
          | false => rw [Nat.beq_refl, Nat.beq_refl]; rfl
          | true =>
            rw [Bool.not_true, cond_false]
            rw [ref_step hni (L := fun q i => LS3 1000009 q F.flatten G.flatten I.flatten F'.flatten G'.flatten I'.flatten nf ng ni nf ng ni (nf : Int) (ng : Int) i) (fun q i => tS3 1000009 q _ _ _ _ _ _ _ _ _ _ _ _ _ _ i) (fun i hi => by
              have hi1 : i < I.length := by omega
              have hi2 : i < I'.length := by omega
              simp only [Int.toNat_natCast, e3, (rows_at0 i1 hi1).1, (rows_at0 i1 hi1).2, (rows_at0 i1' hi2).1, (rows_at0 i1' hi2).2, row_cell i1 hi1, row_cell i1' hi2, rows_oldn i1, rows_oldn i1', inside hi, i5 _ (List.getElem_mem hi1), i5' _ (List.getElem_mem hi2), List.all_cons, List.all_nil, id, Bool.and_self]) (fun i hi => by
              simp only [rows_oldn f1, rows_oldn f1', rows_oldn g1, rows_oldn g1', rows_oldn i1, rows_oldn i1', List.all_cons, List.all_nil, id, Bool.and_self]) (any_rows2 (eq := sameFi) li (fun j hj => by
              have hj2 : j < I'.length := by omega
              simp only [Int.toNat_natCast, e3, (rows_at0 i1 hj).2, (rows_at0 i1' hj2).2]) ni 0 (by omega))]
            rw [List.drop_zero, List.drop_zero, Nat.beq_refl, Nat.beq_refl, Nat.beq_refl]
            cases eqRows sameFi I I' <;> rfl
      . rw [cond_t (show ((r.ni : Int) != (s.ni : Int)) = true from by simp; omega), beq_no hi]
        simp
    . rw [cond_t (show ((r.ng : Int) != (s.ng : Int)) = true from by simp; omega), beq_no hg]
      simp
  . rw [cond_t (show ((r.nf : Int) != (s.nf : Int)) = true from by simp; omega), beq_no hf]
    simp
def longF (x : List PV) : Bool := gt (asS (x.getD 19 .nilp)).length 100 || (gt (asS (x.getD 20 .nilp)).length 100 || gt (asS (x.getD 21 .nilp)).length 100)
def longG (x : List PV) : Bool := gt (asS (x.getD 0 .nilp)).length 100 || (gt (asS (x.getD 1 .nilp)).length 100 || (gt (asS (x.getD 2 .nilp)).length 100 || (gt (slLen (x.getD 6 .nilp)) 30 || gt (slLen (x.getD 7 .nilp)) 260)))
def longI (x : List PV) : Bool := gt (asS (x.getD 0 .nilp)).length 100 || (gt (asS (x.getD 1 .nilp)).length 100 || gt (slLen (x.getD 2 .nilp)) 20)
def Rw.long (r : Rw) (k : Int) : Bool := (gt r.nf k || (gt r.ng k || gt r.ni k)) || (r.F.any longF || (r.G.any longG || r.I.any longI))
def gLong (xs : List PV) : Option (Bool × PV) := match xs with
  | [x, .int .i64 k] => (asRw x).map fun r => (r.ok0, .bool (r.long k))
  | _ => none
theorem runLong (xs : List PV) (v : PV) (h : gLong xs = some (true, v)) : ∃ H, apartS EN T0 H 1000009 5 5 xs = some v := by
  unfold gLong at h
  split at h
  . rename_i x k
    simp only [Option.map_eq_some_iff, Prod.mk.injEq] at h
    obtain ⟨r, hr, hk, rfl⟩ := h
    rw [asRw_ok hr]
    unfold Rw.ok0 at hk
    simp only [Bool.and_eq_true] at hk
    obtain ⟨a1, a2, a3⟩ := hk
    obtain ⟨nf, fc, ng, gc, ni, ic⟩ := r
    dsimp only at a1 a2 a3
    obtain ⟨hnf, f1, f2, f3⟩ := rowsC_ok a1
    obtain ⟨hng, g1, g2, g3⟩ := rowsC_ok a2
    obtain ⟨hni, i1, i2, i3⟩ := rowsC_ok a3
    refine ⟨H0, (tLo0 1000009 fc gc ic nf ng ni k).trans ?_⟩
    unfold Rw.long Rw.F Rw.G Rw.I
    dsimp only
    rw [show (26 : Nat) = KFr.length from rfl, show (8 : Nat) = KGr.length from rfl, show (3 : Nat) = KFi.length from rfl]
    clear a1 a2 a3 hr
    revert f1 f2 f3 g1 g2 g3 i1 i2 i3
    generalize chunks KFr.length nf fc = F
    generalize chunks KGr.length ng gc = G
    generalize chunks KFi.length ni ic = I
    intro f1 f2 f3 g1 g2 g3 i1 i2 i3
    subst f2 g2 i2
    have e26 : (26 : Nat) = KFr.length := rfl
    have e8 : (8 : Nat) = KGr.length := rfl
    have e3 : (3 : Nat) = KFi.length := rfl
    rw [ref_step hnf (L := fun q i => LLo1 1000009 q F.flatten G.flatten I.flatten nf ng ni k i) (fun q i => (tLo1 1000009 q _ _ _ _ _ _ _ i).trans (by simp only [bif_or]; rfl)) (fun i hi => by
        have hi1 : i < F.length := by omega
        simp only [Int.toNat_natCast, e26, (rows_at0 f1 hi1).1, inside hi, List.all_cons, List.all_nil, id, Bool.and_self]) (fun i hi => by
        simp only [rows_oldn f1, rows_oldn g1, rows_oldn i1, List.all_cons, List.all_nil, id, Bool.and_self]) (any_rows (c := longF) (fun j hj => by
        simp only [Int.toNat_natCast, e26, (rows_at0 f1 hj).2]
        unfold longF gt
        simp only [Bool.or_assoc]) nf 0 (by omega))]
    rw [ref_step hng (L := fun q i => LLo2 1000009 q F.flatten G.flatten I.flatten nf ng ni k (nf : Int) i) (fun q i => (tLo2 1000009 q _ _ _ _ _ _ _ _ i).trans (by simp only [bif_or]; rfl)) (fun i hi => by
        have hi1 : i < G.length := by omega
        simp only [Int.toNat_natCast, e8, (rows_at0 g1 hi1).1, inside hi, List.all_cons, List.all_nil, id, Bool.and_self]) (fun i hi => by
        simp only [rows_oldn f1, rows_oldn g1, rows_oldn i1, List.all_cons, List.all_nil, id, Bool.and_self]) (any_rows (c := longG) (fun j hj => by
        simp only [Int.toNat_natCast, e8, (rows_at0 g1 hj).2]
        unfold longG gt
        simp only [Bool.or_assoc]) ng 0 (by omega))]
    rw [ref_step hni (L := fun q i => LLo3 1000009 q F.flatten G.flatten I.flatten nf ng ni k (nf : Int) (ng : Int) i) (fun q i => (tLo3 1000009 q _ _ _ _ _ _ _ _ _ i).trans (by simp only [bif_or]; rfl)) (fun i hi => by
        have hi1 : i < I.length := by omega
        simp only [Int.toNat_natCast, e3, (rows_at0 i1 hi1).1, inside hi, List.all_cons, List.all_nil, id, Bool.and_self]) (fun i hi => by
        simp only [rows_oldn f1, rows_oldn g1, rows_oldn i1, List.all_cons, List.all_nil, id, Bool.and_self]) (any_rows (c := longI) (fun j hj => by
        simp only [Int.toNat_natCast, e3, (rows_at0 i1 hj).2]
        unfold longI gt
        simp only [Bool.or_assoc]) ni 0 (by omega))]
    rw [List.drop_zero, List.drop_zero, List.drop_zero]
    unfold gt
    cases decide ((nf : Int) > k) <;> cases decide ((ng : Int) > k) <;> cases decide ((ni : Int) > k) <;> cases F.any longF <;> cases G.any longG <;> cases I.any longI <;> rfl
  . cases h
end
section
open St
theorem rowsA_C {K : List Kd} {ok : List PV -> Bool} {n : Nat} {c : List PV} (h : rowsA K ok n c = true) : rowsC K n c = true := by
  unfold rowsA at h
  simp only [Bool.and_eq_true] at h
  exact h.1
theorem Rw.ok_0 {r : Rw} (h : r.ok = true) : r.ok0 = true := by
  unfold Rw.ok at h
  unfold Rw.ok0
  simp only [Bool.and_eq_true] at h ⊢
  exact ⟨h.1, rowsA_C h.2.1, rowsA_C h.2.2⟩
def gGrp (xs : List PV) : Option (Bool × PV) := match xs with
  | [.agg x] => some (wk KGr x && oldL 0 x, .agg x)
  | _ => none
theorem tGrp (N : Nat) (a b c : List UInt8) (x y : Bool) (s : Int) (d e : List PV) (n m : Nat) : apartS EN T0 H0 N 5 20 [.agg [.str a, .str b, .str c, .bool x, .bool y, vI s, .sl d 18 n none, .sl e 1 m none]] =
  (asks [oldL 0 d, oldL 0 e] <| some (.agg [.str a, .str b, .str c, .bool x, .bool y, vI s, .sl d 18 n none, .sl e 1 m none])) := by kernel_rfl
theorem runGrp (xs : List PV) (v : PV) (h : gGrp xs = some (true, v)) : ∃ H, apartS EN T0 H 1000009 5 20 xs = some v := by
  unfold gGrp at h
  split at h
  . rename_i x
    simp only [Option.some.injEq, Prod.mk.injEq, Bool.and_eq_true] at h
    obtain ⟨⟨h1, h2⟩, rfl⟩ := h
    refine ⟨H0, ?_⟩
    have ht := tGrp 1000009 (asS (x.getD 0 .nilp)) (asS (x.getD 1 .nilp)) (asS (x.getD 2 .nilp)) (asB (x.getD 3 .nilp)) (asB (x.getD 4 .nilp)) (asI (x.getD 5 .nilp)) (slCells (x.getD 6 .nilp)) (slCells (x.getD 7 .nilp)) (slLen (x.getD 6 .nilp)) (slLen (x.getD 7 .nilp))
    rw [asks_of (by simp only [cell_old h2, List.all_cons, List.all_nil, id, Bool.and_self])] at ht
    have e : x = [.str (asS (x.getD 0 .nilp)), .str (asS (x.getD 1 .nilp)), .str (asS (x.getD 2 .nilp)), .bool (asB (x.getD 3 .nilp)), .bool (asB (x.getD 4 .nilp)), vI (asI (x.getD 5 .nilp)), .sl (slCells (x.getD 6 .nilp)) 18 (slLen (x.getD 6 .nilp)) none, .sl (slCells (x.getD 7 .nilp)) 1 (slLen (x.getD 7 .nilp)) none] := (shape_of h1).symm
    rw [<- e] at ht
    exact ht
  . cases h
noncomputable def TGrp : Table := Tadd T0 20 gGrp
theorem TGrpok : TR TGrp := TR0.add TR0 runGrp
def HOf : FuncId -> Hint := fun f t => bif Nat.beq f 7 && (Nat.beq t 22 || (Nat.beq t 37 || Nat.beq t 51)) then [none, some false] else []
end
section
open St
noncomputable def LO1 (N m : Nat) (r : Rw) (b : Bool) (i : Int) (ac : List PV) (k : Nat) : Option PV := loopS EN TGrp HOf N 5 7 Tryz.f7 [1, 1, 0, 1, 0] (patOf (sparse 55 0 [(0, .nils), (1, .nils), (2, .nils), (3, .nils), (10, .nils), (11, .nils), (12, .nils), (13, .nils), (14, .nils)])) 3 m
  (sparse 55 0 [(0, r.pv), (1, .ptr 0 1 0), (2, .ptr 1 1 0), (3, .ptr 2 1 0), (10, .agg [.nils, .nils, .nils]), (11, .ptr 0 1 0), (12, .sl r.fc 26 r.nf none), (13, vI r.nf), (14, vI i)])
  ([bx r.pv.cells, bx [.nils, .nils, .nils], bx [accP b 3 26 k, .nils, .nils]] ++ accO b ac 26 k)
noncomputable def LO2 (N m : Nat) (r : Rw) (bf : Bool) (e1 : Int) (af : List PV) (kf : Nat) (b : Bool) (i : Int) (ac : List PV) (k : Nat) : Option PV := loopS EN TGrp HOf N 5 7 Tryz.f7 [1, 1, 1, 0, 1, 0] (patOf (sparse 55 0 [(0, .nils), (1, .nils), (2, .nils), (3, .nils), (10, .nils), (11, .nils), (12, .nils), (13, .nils), (14, .nils), (15, .nils), (25, .nils), (26, .nils), (27, .nils), (28, .nils)])) (nx bf 3) m
  (sparse 55 0 [(0, r.pv), (1, .ptr 0 1 0), (2, .ptr 1 1 0), (3, .ptr 2 1 0), (10, .agg [.nils, .nils, .nils]), (11, .ptr 0 1 0), (12, .sl r.fc 26 r.nf none), (13, vI r.nf), (14, vI e1), (15, .bool false), (25, .ptr 0 1 1), (26, .sl r.gc 8 r.ng none), (27, vI r.ng), (28, vI i)])
  ([bx r.pv.cells, bx [.nils, .nils, .nils], bx [accP bf 3 26 kf, accP b (nx bf 3) 8 k, .nils]] ++ (accO bf af 26 kf ++ accO b ac 8 k))
noncomputable def LO3 (N m : Nat) (r : Rw) (bf bg : Bool) (e1 e2 : Int) (af : List PV) (kf : Nat) (ag : List PV) (kg : Nat) (b : Bool) (i : Int) (ac : List PV) (k : Nat) : Option PV := loopS EN TGrp HOf N 5 7 Tryz.f7 [1, 1, 1, 1, 0, 1, 0] (patOf (sparse 55 0 [(0, .nils), (1, .nils), (2, .nils), (3, .nils), (10, .nils), (11, .nils), (12, .nils), (13, .nils), (14, .nils), (15, .nils), (25, .nils), (26, .nils), (27, .nils), (28, .nils), (29, .nils), (40, .nils), (41, .nils), (42, .nils), (43, .nils)])) (nx bg (nx bf 3)) m
  (sparse 55 0 [(0, r.pv), (1, .ptr 0 1 0), (2, .ptr 1 1 0), (3, .ptr 2 1 0), (10, .agg [.nils, .nils, .nils]), (11, .ptr 0 1 0), (12, .sl r.fc 26 r.nf none), (13, vI r.nf), (14, vI e1), (15, .bool false), (25, .ptr 0 1 1), (26, .sl r.gc 8 r.ng none), (27, vI r.ng), (28, vI e2), (29, .bool false), (40, .ptr 0 1 2), (41, .sl r.ic 3 r.ni none), (42, vI r.ni), (43, vI i)])
  ([bx r.pv.cells, bx [.nils, .nils, .nils], bx [accP bf 3 26 kf, accP bg (nx bf 3) 8 kg, accP b (nx bg (nx bf 3)) 3 k]] ++ (accO bf af 26 kf ++ (accO bg ag 8 kg ++ accO b ac 3 k)))
theorem tO0 (N : Nat) (r : Rw) : apartS EN TGrp HOf N 5 7 [r.pv] = LO1 N N r false 0 [] 0 := by kernel_rfl
theorem tO1 (N m : Nat) (r : Rw) (b : Bool) (i : Int) (ac : List PV) (k : Nat) : LO1 N (m + 1) r b i ac k =
  (bif decide (i < (r.nf : Int)) then
    (asks [decide (0 <= i) && decide (i < (r.nf : Int)), okAt KFr r.fc (i.toNat * 26)] <|
    grow b ac k 26 (shapeAt KFr r.fc (i.toNat * 26)) fun ac' k' =>
    asks [oldL 3 r.fc, oldL 3 r.gc, oldL 3 r.ic, oldL 3 r.fc, oldL 3 r.fc, oldL 3 r.gc, oldL 3 r.ic] <|
    asks [] <|
    asks [] <|
    asks [oldL 0 ac'] <|
    LO1 N m r true (IntKind.i64.wrap (i + 1)) ac' k')
  else LO2 N N r b i ac k false 0 [] 0) := by cases b <;> kernel_rfl
theorem tO2 (N m : Nat) (r : Rw) (bf : Bool) (e1 : Int) (af : List PV) (kf : Nat) (b : Bool) (i : Int) (ac : List PV) (k : Nat) : LO2 N (m + 1) r bf e1 af kf b i ac k =
  (bif decide (i < (r.ng : Int)) then
    (asks [decide (0 <= i) && decide (i < (r.ng : Int)), okAt KGr r.gc (i.toNat * 8), oldL (4 + nb bf + nb b) (slCells ((shapeAt KGr r.gc (i.toNat * 8)).getD 6 .nilp)), oldL (4 + nb bf + nb b) (slCells ((shapeAt KGr r.gc (i.toNat * 8)).getD 7 .nilp)), oldL 0 (slCells ((shapeAt KGr r.gc (i.toNat * 8)).getD 6 .nilp)), oldL 0 (slCells ((shapeAt KGr r.gc (i.toNat * 8)).getD 7 .nilp)), wk KGr (shapeAt KGr r.gc (i.toNat * 8)) && oldL 0 (shapeAt KGr r.gc (i.toNat * 8))] <|
    grow b ac k 8 (shapeAt KGr r.gc (i.toNat * 8)) fun ac' k' =>
    asks [oldL (nx bf 3) r.fc, oldL (nx bf 3) r.gc, oldL (nx bf 3) r.ic, oldL (nx bf 3) r.fc, oldL (nx bf 3) r.gc, oldL (nx bf 3) r.fc, oldL (nx bf 3) r.gc, oldL (nx bf 3) r.ic] <|
    asks (ifb bf [oldL 0 af]) <|
    asks [] <|
    asks [oldL 0 ac'] <|
    LO2 N m r bf e1 af kf true (IntKind.i64.wrap (i + 1)) ac' k')
  else LO3 N N r bf b e1 i af kf ac k false 0 [] 0) := by cases bf <;> cases b <;> kernel_rfl
theorem tO3 (N m : Nat) (r : Rw) (bf bg : Bool) (e1 e2 : Int) (af : List PV) (kf : Nat) (ag : List PV) (kg : Nat) (b : Bool) (i : Int) (ac : List PV) (k : Nat) : LO3 N (m + 1) r bf bg e1 e2 af kf ag kg b i ac k =
  (bif decide (i < (r.ni : Int)) then
    (asks [decide (0 <= i) && decide (i < (r.ni : Int)), okAt KFi r.ic (i.toNat * 3)] <|
    grow b ac k 3 (shapeAt KFi r.ic (i.toNat * 3)) fun ac' k' =>
    asks [oldL (nx bg (nx bf 3)) r.fc, oldL (nx bg (nx bf 3)) r.gc, oldL (nx bg (nx bf 3)) r.ic, oldL (nx bg (nx bf 3)) r.fc, oldL (nx bg (nx bf 3)) r.gc, oldL (nx bg (nx bf 3)) r.ic, oldL (nx bg (nx bf 3)) r.fc, oldL (nx bg (nx bf 3)) r.gc, oldL (nx bg (nx bf 3)) r.ic] <|
    asks (ifb bf [oldL 0 af]) <|
    asks (ifb bg [oldL 0 ag]) <|
    asks [oldL 0 ac'] <|
    LO3 N m r bf bg e1 e2 af kf ag kg true (IntKind.i64.wrap (i + 1)) ac' k')
  else
    (asks (ifb bf (sealAsk af kf 26)) <| asks (ifb bg (sealAsk ag kg 8)) <| asks (ifb b (sealAsk ac k 3)) <|
    asks (ifb bf [oldL 0 ((af.drop 0).take (kf * 26))]) <| asks (ifb bg [oldL 0 ((ag.drop 0).take (kg * 8))]) <| asks (ifb b [oldL 0 ((ac.drop 0).take (k * 3))]) <|
    some (.agg [sealC bf af kf 26, sealC bg ag kg 8, sealC b ac k 3]))) := by cases bf <;> cases bg <;> cases b <;> kernel_rfl
def gOf (xs : List PV) : Option (Bool × PV) := match xs with
  | [x] => (asRw x).map fun r => (r.ok0, r.pv)
  | _ => none
theorem runOf (xs : List PV) (v : PV) (h : gOf xs = some (true, v)) : ∃ H, apartS EN TGrp H 1000009 5 7 xs = some v := by
  unfold gOf at h
  split at h
  . rename_i x
    simp only [Option.map_eq_some_iff, Prod.mk.injEq] at h
    obtain ⟨r, hr, hk, rfl⟩ := h
    rw [asRw_ok hr]
    clear hr
    unfold Rw.ok0 at hk
    simp only [Bool.and_eq_true] at hk
    obtain ⟨a1, a2, a3⟩ := hk
    obtain ⟨nf, fc, ng, gc, ni, ic⟩ := r
    dsimp only at a1 a2 a3
    obtain ⟨hnf, f1, f2, f3⟩ := rowsC_ok a1
    obtain ⟨hng, g1, g2, g3⟩ := rowsC_ok a2
    obtain ⟨hni, i1, i2, i3⟩ := rowsC_ok a3
    clear a1 a2 a3
    revert f1 f2 f3 g1 g2 g3 i1 i2 i3
    generalize chunks KFr.length nf fc = F
    generalize chunks KGr.length ng gc = G
    generalize chunks KFi.length ni ic = I
    intro f1 f2 f3 g1 g2 g3 i1 i2 i3
    subst f2 g2 i2 f3 g3 i3
    refine ⟨HOf, (tO0 1000009 _).trans ?_⟩
    have e26 : (26 : Nat) = KFr.length := rfl
    have e8 : (8 : Nat) = KGr.length := rfl
    have e3 : (3 : Nat) = KFi.length := rfl
    have fo := rows_oldn f1
    have go := rows_oldn g1
    have io := rows_oldn i1
    generalize hr : (⟨F.length, F.flatten, G.length, G.flatten, I.length, I.flatten⟩ : Rw) = r
    have q1 : r.nf = F.length := by rw [<- hr]
    have q2 : r.fc = F.flatten := by rw [<- hr]
    have q3 : r.ng = G.length := by rw [<- hr]
    have q4 : r.gc = G.flatten := by rw [<- hr]
    have q5 : r.ni = I.length := by rw [<- hr]
    have q6 : r.ic = I.flatten := by rw [<- hr]
    rw [acc_run e26 f1 rfl hnf (L := fun q b i ac k => LO1 1000009 q r b i ac k) (fun q b i ac k => by rw [<- q1]; exact tO1 1000009 q r b i ac k) (fun b i hi => by
        simp only [q1, q2, Int.toNat_natCast, e26, (rows_at0 f1 hi).1, inside hi, List.all_cons, List.all_nil, id, Bool.and_self]) (fun i hi => by
        simp only [q2, Int.toNat_natCast, e26, (rows_at0 f1 hi).2]) (by simp only [q2, q4, q6, fo, go, io, List.all_cons, List.all_nil, id, Bool.and_self]) rfl rfl]
    rw [acc_run e8 g1 rfl hng (L := fun q b i ac k => LO2 1000009 q r (!Nat.beq F.length 0) (F.length : Int) F.flatten F.length b i ac k) (fun q b i ac k => by rw [<- q3]; exact tO2 1000009 q r _ _ _ _ b i ac k) (fun b i hi => by
        simp only [q3, q4, Int.toNat_natCast, e8, (rows_at0 g1 hi).1, (rows_at0 g1 hi).2, row_cell g1 hi, (rowsOk_get g1 (List.getElem_mem hi)).1, (rowsOk_get g1 (List.getElem_mem hi)).2, inside hi, List.all_cons, List.all_nil, id, Bool.and_self]) (fun i hi => by
        simp only [q4, Int.toNat_natCast, e8, (rows_at0 g1 hi).2]) (by simp only [q2, q4, q6, fo, go, io, List.all_cons, List.all_nil, id, Bool.and_self]) (by unfold ifb; cases Nat.beq F.length 0 <;> simp [fo]) rfl]
    rw [acc_run e3 i1 rfl hni (L := fun q b i ac k => LO3 1000009 q r (!Nat.beq F.length 0) (!Nat.beq G.length 0) (F.length : Int) (G.length : Int) F.flatten F.length G.flatten G.length b i ac k) (fun q b i ac k => by rw [<- q5]; exact tO3 1000009 q r _ _ _ _ _ _ _ _ b i ac k) (fun b i hi => by
        simp only [q5, q6, Int.toNat_natCast, e3, (rows_at0 i1 hi).1, inside hi, List.all_cons, List.all_nil, id, Bool.and_self]) (fun i hi => by
        simp only [q6, Int.toNat_natCast, e3, (rows_at0 i1 hi).2]) (by simp only [q2, q4, q6, fo, go, io, List.all_cons, List.all_nil, id, Bool.and_self]) (by unfold ifb; cases Nat.beq F.length 0 <;> simp [fo]) (by unfold ifb; cases Nat.beq G.length 0 <;> simp [go])]
    obtain ⟨s1, s2, s3⟩ := seal_ok f1 (by decide)
    obtain ⟨s4, s5, s6⟩ := seal_ok g1 (by decide)
    obtain ⟨s7, s8, s9⟩ := seal_ok i1 (by decide)
    rw [e26, e8, e3, asks_of s1, asks_of s4, asks_of s7, asks_of s2, asks_of s5, asks_of s8, s3, s6, s9, <- hr]
    rfl
  . cases h
end
section
open St
def gCT (xs : List PV) : Option (Bool × PV) := match xs with
  | [.agg x] => some (wk KTb x && okTb x 0, .agg x)
  | _ => none
theorem tCT (N : Nat) (s : Int) (c d : List PV) (n m : Nat) : apartS EN T0 H0 N 5 37 [.agg [vi s, .sl c 18 n none, .sl d 1 m none]] =
  (asks [oldL 2 c, decide (n <= 1048576) && c.all PV.oneCell] <|
    bif decide (n = 0) then
      (asks [oldL 2 d, decide (m <= 1048576) && d.all PV.oneCell] <|
        bif decide (m = 0) then some (.agg [vi s, .sl [] 18 0 none, .sl [] 1 0 none])
        else (asks (sealAsk d m 1) <| asks [oldL 0 ((d.drop 0).take (m * 1))] <| some (.agg [vi s, .sl [] 18 0 none, .sl ((d.drop 0).take (m * 1)) 1 m none])))
    else
      (asks [oldL 3 d, decide (m <= 1048576) && d.all PV.oneCell] <|
        bif decide (m = 0) then (asks (sealAsk c n 18) <| asks [oldL 0 ((c.drop 0).take (n * 18))] <| some (.agg [vi s, .sl ((c.drop 0).take (n * 18)) 18 n none, .sl [] 1 0 none]))
        else (asks (sealAsk c n 18) <| asks (sealAsk d m 1) <| asks [oldL 0 ((c.drop 0).take (n * 18)), oldL 0 ((d.drop 0).take (m * 1))] <| some (.agg [vi s, .sl ((c.drop 0).take (n * 18)) 18 n none, .sl ((d.drop 0).take (m * 1)) 1 m none])))) := by kernel_rfl
theorem okSl_len {K : List Kd} {x : PV} (h : okSl K x = true) : slLen x <= 1000000 /\ (slCells x).length = slLen x * K.length /\ (slCells x).all PV.oneCell = true /\ (slCells x).all PV.calm = true := by
  obtain ⟨r1, r2, r3, r4⟩ := rowsC_ok h
  have hl := rows_len r2
  rw [r3, r4] at hl
  refine ⟨r1, hl, ?_, calm_old (okSl_old h)⟩
  rw [<- r3]
  rw [List.all_flatten, List.all_eq_true]
  intro r hr
  exact wk_one (rowsOk_get r2 hr).1
theorem sealAsk_ok {c : List PV} {n es : Nat} (hl : c.length = n * es) (he : 0 < es) (hc : c.all PV.calm = true) : (sealAsk c n es).all id = true := by
  unfold sealAsk
  rw [take_all _ hl]
  simp only [beq_self_eq_true, Bool.true_and, List.all_cons, List.all_nil, id, Bool.and_true, Bool.and_eq_true, decide_eq_true_eq, hc]
  exact ⟨by omega, he⟩
theorem sl_nil {x : PV} {es : Nat} (hl : (slCells x).length = slLen x * es) (h : slLen x = 0) : slCells x = [] := List.eq_nil_of_length_eq_zero (by rw [hl, h, Nat.zero_mul])
theorem runCT (xs : List PV) (v : PV) (h : gCT xs = some (true, v)) : ∃ H, apartS EN T0 H 1000009 5 37 xs = some v := by
  unfold gCT at h
  split at h
  . rename_i x
    simp only [Option.some.injEq, Prod.mk.injEq, Bool.and_eq_true] at h
    obtain ⟨⟨h1, h2⟩, rfl⟩ := h
    unfold okTb at h2
    simp only [Bool.and_eq_true] at h2
    refine ⟨H0, ?_⟩
    have e := tb_of h1
    have o1 := okSl_old h2.1
    have o2 := okSl_old h2.2
    obtain ⟨l1, l2, l3, l4⟩ := okSl_len h2.1
    obtain ⟨m1, m2, m3, m4⟩ := okSl_len h2.2
    rw [show KPt.length = 18 from rfl] at l2
    rw [show KIn.length = 1 from rfl] at m2
    simp only [Nat.zero_add] at o1 o2 l1 l2 l3 l4 m1 m2 m3 m4
    have ht := tCT 1000009 (asI (x.getD 0 .nilp)) (slCells (x.getD 1 .nilp)) (slCells (x.getD 2 .nilp)) (slLen (x.getD 1 .nilp)) (slLen (x.getD 2 .nilp))
    rw [<- e] at ht
    refine ht.trans ?_
    have A2 : ∀ k, (asks [oldL 2 (slCells (x.getD 2 .nilp)), decide (slLen (x.getD 2 .nilp) <= 1048576) && (slCells (x.getD 2 .nilp)).all PV.oneCell] k : Option PV) = k := fun k => asks_of (by simp only [oldL_le (Nat.zero_le 2) _ o2, m3, List.all_cons, List.all_nil, id, Bool.and_true, Bool.true_and, decide_eq_true_eq]; omega)
    have A3 : ∀ k, (asks [oldL 3 (slCells (x.getD 2 .nilp)), decide (slLen (x.getD 2 .nilp) <= 1048576) && (slCells (x.getD 2 .nilp)).all PV.oneCell] k : Option PV) = k := fun k => asks_of (by simp only [oldL_le (Nat.zero_le 3) _ o2, m3, List.all_cons, List.all_nil, id, Bool.and_true, Bool.true_and, decide_eq_true_eq]; omega)
    rw [asks_of (by simp only [oldL_le (Nat.zero_le 2) _ o1, l3, List.all_cons, List.all_nil, id, Bool.and_true, Bool.true_and, decide_eq_true_eq]; omega), A2, A3, take_all _ l2, take_all _ m2]
    by_cases hn : slLen (x.getD 1 .nilp) = 0
    . rw [cond_t (show decide (slLen (x.getD 1 .nilp) = 0) = true from by simpa using hn)]
      by_cases hm : slLen (x.getD 2 .nilp) = 0
      . rw [cond_t (show decide (slLen (x.getD 2 .nilp) = 0) = true from by simpa using hm)]
        rw [sl_nil l2 hn, sl_nil m2 hm, hn, hm] at e
        rw [<- e]
      . rw [cond_f (show decide (slLen (x.getD 2 .nilp) = 0) = false from by simpa using hm), asks_of (sealAsk_ok m2 (by decide) m4), asks_of (by simp only [o2, List.all_cons, List.all_nil, id, Bool.and_true])]
        rw [sl_nil l2 hn, hn] at e
        rw [<- e]
    . rw [cond_f (show decide (slLen (x.getD 1 .nilp) = 0) = false from by simpa using hn)]
      by_cases hm : slLen (x.getD 2 .nilp) = 0
      . rw [cond_t (show decide (slLen (x.getD 2 .nilp) = 0) = true from by simpa using hm), asks_of (sealAsk_ok l2 (by decide) l4), asks_of (by simp only [o1, List.all_cons, List.all_nil, id, Bool.and_true])]
        rw [sl_nil m2 hm, hm] at e
        rw [<- e]
      . rw [cond_f (show decide (slLen (x.getD 2 .nilp) = 0) = false from by simpa using hm), asks_of (sealAsk_ok l2 (by decide) l4), asks_of (sealAsk_ok m2 (by decide) m4), asks_of (by simp only [o1, o2, List.all_cons, List.all_nil, id, Bool.and_true]), <- e]
  . cases h
def gCC (xs : List PV) : Option (Bool × PV) := match xs with
  | [.sl c e n none] => some (Nat.beq e 18 && rowsC KPt n c, .sl c 18 n none)
  | _ => none
theorem runCC (K : Nat) (xs : List PV) (v : PV) (h : gCC xs = some (true, v)) : apartA EN (runA EN 1000009 K) 38 xs = some v := by
  unfold gCC at h
  split at h
  . rename_i c e n
    simp only [Option.some.injEq, Prod.mk.injEq, Bool.and_eq_true] at h
    obtain ⟨⟨h1, h2⟩, rfl⟩ := h
    have h1 := Nat.eq_of_beq_eq_true h1
    have hk : okSl KPt (.sl c 18 n none) = true := h2
    obtain ⟨l1, l2, l3, l4⟩ := okSl_len hk
    have o := okSl_old hk
    have l1 : n <= 1000000 := l1
    have hp : EN.pure 38 [.sl c e n none] = some (.sl c 18 n none) := by
      rw [h1]
      show (if 18 = 18 /\ n <= 1048576 /\ c.length = n * 18 /\ 0 < 18 /\ c.all PV.oneCell = true /\ c.all PV.calm = true /\ oldL 0 c = true then some (PV.sl c 18 n none) else none) = _
      rw [if_pos ⟨rfl, by omega, l2, by decide, l3, l4, o⟩]
    unfold apartA
    rw [hp]
  . cases h
noncomputable def TCc : Table := Tadd (Tadd T0 37 gCT) 38 gCC
theorem TCcok : TR TCc := by
  obtain ⟨k, hk⟩ := TR0.add TR0 runCT
  exact ⟨k, Tadd_run hk (fun xs v h => runCC k xs v h)⟩
end
section
open St
def cpP (b : Bool) (id es n : Nat) : PV := bif b then .osl id n 0 es n none else .sl [] es 0 (some 0)
def cpS (r : Rw) (bf bg bi : Bool) : List (Nat × PV) := [(0, r.pv), (1, .ptr 0 1 0), (2, .ptr 1 1 0), (3, .ptr (nx bi (nx bg (nx bf 2))) 1 0), (6, .ptr 0 1 0), (7, .sl r.fc 26 r.nf none), (8, cpP bf 2 26 r.nf), (9, .ptr 0 1 1), (10, .sl r.gc 8 r.ng none), (11, cpP bg (nx bf 2) 8 r.ng), (12, .ptr 0 1 2), (13, .sl r.ic 3 r.ni none), (14, cpP bi (nx bg (nx bf 2)) 3 r.ni), (15, .agg [cpP bf 2 26 r.nf, cpP bg (nx bf 2) 8 r.ng, cpP bi (nx bg (nx bf 2)) 3 r.ni]), (16, .ptr (nx bi (nx bg (nx bf 2))) 1 1), (17, cpP bg (nx bf 2) 8 r.ng), (18, .int .i64 (((bif bg then r.ng else 0 : Nat)) : Int))]
def cpO (r : Rw) (bf bg bi : Bool) (gc ic : List PV) : Store := [bx r.pv.cells, bx [.nils, .nils, .nils]] ++ (accO bf r.fc 26 r.nf ++ (accO bg gc 8 r.ng ++ (accO bi ic 3 r.ni ++ [bx [cpP bf 2 26 r.nf, cpP bg (nx bf 2) 8 r.ng, cpP bi (nx bg (nx bf 2)) 3 r.ni]])))
noncomputable def LC1 (N m : Nat) (r : Rw) (bf bg bi : Bool) (i : Int) (gc : List PV) : Option PV := loopSF EN TCc H0 N 5 0 21 Tryz.f21 [1, 1, 0, 1, 0] (patOf (sparse 55 0 ([(0, .nils), (1, .nils), (2, .nils), (3, .nils), (6, .nils), (7, .nils), (8, .nils), (9, .nils), (10, .nils), (11, .nils), (12, .nils), (13, .nils), (14, .nils), (15, .nils), (16, .nils), (17, .nils), (18, .nils), (19, .nils)]))) (nx bi (nx bg (nx bf 3))) m (sparse 55 0 (cpS r bf bg bi ++ [(19, vI i)])) (cpO r bf bg bi gc r.ic)
noncomputable def LC2 (N m : Nat) (r : Rw) (bf bg bi : Bool) (e1 : Int) (gc : List PV) (i : Int) (ic : List PV) : Option PV := loopSF EN TCc H0 N 5 0 21 Tryz.f21 [1, 1, 1, 0, 1, 0] (patOf (sparse 55 0 ([(0, .nils), (1, .nils), (2, .nils), (3, .nils), (6, .nils), (7, .nils), (8, .nils), (9, .nils), (10, .nils), (11, .nils), (12, .nils), (13, .nils), (14, .nils), (15, .nils), (16, .nils), (17, .nils), (18, .nils), (19, .nils), (20, .nils), (35, .nils), (36, .nils), (37, .nils), (38, .nils)]))) (nx bi (nx bg (nx bf 3))) m (sparse 55 0 (cpS r bf bg bi ++ [(19, vI e1), (20, .bool false), (35, .ptr (nx bi (nx bg (nx bf 2))) 1 2), (36, cpP bi (nx bg (nx bf 2)) 3 r.ni), (37, .int .i64 (((bif bi then r.ni else 0 : Nat)) : Int)), (38, vI i)])) (cpO r bf bg bi gc ic)
theorem tC0 (N : Nat) (r : Rw) : footSR EN TCc H0 N 5 21 [r.pv, encS []] =
  (asks [oldL 2 r.fc, decide (r.nf <= 1048576) && r.fc.all PV.oneCell] <| clB r.nf fun bf =>
   asks [oldL (2 + nb bf) r.gc, decide (r.ng <= 1048576) && r.gc.all PV.oneCell] <| clB r.ng fun bg =>
   asks [oldL (2 + nb bf + nb bg) r.ic, decide (r.ni <= 1048576) && r.ic.all PV.oneCell] <| clB r.ni fun bi =>
   LC1 N N r bf bg bi 0 r.gc) := by kernel_rfl
theorem tC1 (N m : Nat) (r : Rw) (bf bi : Bool) (i : Int) (gc : List PV) : LC1 N (m + 1) r bf true bi i gc =
  (bif decide (i < (r.ng : Int)) then
    (asks [decide (0 <= i) && decide (i < (r.ng : Int)), r.ng == r.ng, okAt KTb gc (0 + i.toNat * 8 + 5), oldL (nx bi (nx true (nx bf 3))) (slCells ((shapeAt KTb gc (0 + i.toNat * 8 + 5)).getD 1 .nilp)), oldL (nx bi (nx true (nx bf 3))) (slCells ((shapeAt KTb gc (0 + i.toNat * 8 + 5)).getD 2 .nilp)), oldL 0 (slCells ((shapeAt KTb gc (0 + i.toNat * 8 + 5)).getD 1 .nilp)), oldL 0 (slCells ((shapeAt KTb gc (0 + i.toNat * 8 + 5)).getD 2 .nilp)), wk KTb (shapeAt KTb gc (0 + i.toNat * 8 + 5)) && okTb (shapeAt KTb gc (0 + i.toNat * 8 + 5)) 0, decide (0 <= i) && decide (i < (r.ng : Int)), r.ng == r.ng && (3 == 3 && (decide (0 + i.toNat * 8 + 5 + 3 <= gc.length) && (shapeAt KTb gc (0 + i.toNat * 8 + 5)).all PV.oneCell))] <|
    asks [oldL (nx bi (nx true (nx bf 3))) r.fc, oldL (nx bi (nx true (nx bf 3))) r.gc, oldL (nx bi (nx true (nx bf 3))) r.ic, oldL (nx bi (nx true (nx bf 3))) r.fc, oldL (nx bi (nx true (nx bf 3))) r.gc, oldL (nx bi (nx true (nx bf 3))) r.ic, oldL (nx bi (nx true (nx bf 3))) r.fc, oldL (nx bi (nx true (nx bf 3))) r.gc, oldL (nx bi (nx true (nx bf 3))) r.ic] <|
    asks (ifb bf [oldL 0 r.fc]) <| asks [oldL 0 (splice gc (0 + i.toNat * 8 + 5) (shapeAt KTb gc (0 + i.toNat * 8 + 5)))] <| asks (ifb bi [oldL 0 r.ic]) <|
    LC1 N m r bf true bi (IntKind.i64.wrap (i + 1)) (splice gc (0 + i.toNat * 8 + 5) (shapeAt KTb gc (0 + i.toNat * 8 + 5))))
  else LC2 N N r bf true bi i gc 0 r.ic) := by cases bf <;> cases bi <;> kernel_rfl
theorem tC1n (N m : Nat) (r : Rw) (bf bi : Bool) (gc : List PV) : LC1 N (m + 1) r bf false bi 0 gc = LC2 N N r bf false bi 0 gc 0 r.ic := by cases bf <;> cases bi <;> kernel_rfl
def cpQ (b : Bool) (id es n : Nat) : PV := bif b then .osl id n 0 es n none else .sl [] es 0 none
def cpV (r : Rw) (bf bg bi : Bool) : PV := .agg [cpQ bf 0 26 r.nf, cpQ bg (nb bf) 8 r.ng, cpQ bi (nb bf + nb bg) 3 r.ni]
def cpA (r : Rw) (bf bg bi : Bool) (gc ic : List PV) : PV := .tup [cpV r bf bg bi, encS (accO bf r.fc 26 r.nf ++ (accO bg gc 8 r.ng ++ accO bi ic 3 r.ni))]
def KCi : List Kd := [.sl 18]
theorem tC2 (N m : Nat) (r : Rw) (bf bg : Bool) (e1 : Int) (gc : List PV) (i : Int) (ic : List PV) : LC2 N (m + 1) r bf bg true e1 gc i ic =
  (bif decide (i < (r.ni : Int)) then
    (asks [decide (0 <= i) && decide (i < (r.ni : Int)), r.ni == r.ni, okAt KCi ic (0 + i.toNat * 3 + 2), oldL (nx true (nx bg (nx bf 3))) (slCells ((shapeAt KCi ic (0 + i.toNat * 3 + 2)).getD 0 .nilp)), oldL 0 (slCells ((shapeAt KCi ic (0 + i.toNat * 3 + 2)).getD 0 .nilp)), Nat.beq 18 18 && rowsC KPt (slLen ((shapeAt KCi ic (0 + i.toNat * 3 + 2)).getD 0 .nilp)) (slCells ((shapeAt KCi ic (0 + i.toNat * 3 + 2)).getD 0 .nilp)), decide (0 <= i) && decide (i < (r.ni : Int)), r.ni == r.ni && (1 == 1 && (decide (0 + i.toNat * 3 + 2 + 1 <= ic.length) && (shapeAt KCi ic (0 + i.toNat * 3 + 2)).all PV.oneCell))] <|
    asks [oldL (nx true (nx bg (nx bf 3))) r.fc, oldL (nx true (nx bg (nx bf 3))) r.gc, oldL (nx true (nx bg (nx bf 3))) r.ic, oldL (nx true (nx bg (nx bf 3))) r.fc, oldL (nx true (nx bg (nx bf 3))) r.gc, oldL (nx true (nx bg (nx bf 3))) r.ic, oldL (nx true (nx bg (nx bf 3))) r.fc, oldL (nx true (nx bg (nx bf 3))) r.gc, oldL (nx true (nx bg (nx bf 3))) r.ic] <|
    asks (ifb bf [oldL 0 r.fc]) <| asks (ifb bg [oldL 0 gc]) <| asks [oldL 0 (splice ic (0 + i.toNat * 3 + 2) (shapeAt KCi ic (0 + i.toNat * 3 + 2)))] <|
    LC2 N m r bf bg true e1 gc (IntKind.i64.wrap (i + 1)) (splice ic (0 + i.toNat * 3 + 2) (shapeAt KCi ic (0 + i.toNat * 3 + 2))))
  else (asks (ifb bf [oldL 0 r.fc]) <| asks (ifb bg [oldL 0 gc]) <| asks [oldL 0 ic] <| some (cpA r bf bg true gc ic))) := by cases bf <;> cases bg <;> kernel_rfl
theorem tC2n (N m : Nat) (r : Rw) (bf bg : Bool) (e1 : Int) (gc : List PV) (ic : List PV) : LC2 N (m + 1) r bf bg false e1 gc 0 ic =
  (asks (ifb bf [oldL 0 r.fc]) <| asks (ifb bg [oldL 0 gc]) <| some (cpA r bf bg false gc ic)) := by cases bf <;> cases bg <;> kernel_rfl
theorem getD_drop {x : List PV} (p k : Nat) : (x.drop p).getD k .nilp = x.getD (p + k) .nilp := by
  rw [List.getD_eq_getElem?_getD, List.getD_eq_getElem?_getD, List.getElem?_drop]
theorem okTb_drop {x : List PV} (h : okTb x 5 = true) : okTb (x.drop 5) 0 = true := by
  unfold okTb at h ⊢
  rw [getD_drop, getD_drop]
  exact h
structure Rw.Lists (r : Rw) (F G I : List (List PV)) : Prop where
  f : rowsOk KFr F = true
  g : rowsOk KGr G = true
  i : rowsOk KFi I = true
  fc : F.flatten = r.fc
  gc : G.flatten = r.gc
  ic : I.flatten = r.ic
  nf : F.length = r.nf
  ng : G.length = r.ng
  ni : I.length = r.ni
  mf : r.nf <= 1000000
  mg : r.ng <= 1000000
  mi : r.ni <= 1000000
  gk : ∀ x ∈ G, grOk x = true
  ik : ∀ x ∈ I, fiOk x = true
  ef : r.F = F
  eg : r.G = G
  ei : r.I = I
theorem Rw.lists {r : Rw} (h : r.ok = true) : r.Lists r.F r.G r.I := by
  unfold Rw.ok at h
  simp only [Bool.and_eq_true] at h
  obtain ⟨a1, a2, a3⟩ := h
  obtain ⟨m1, f1, f2, f3⟩ := rowsC_ok a1
  obtain ⟨m2, G, g1, g2, g3, g4, g5⟩ := rowsA_ok a2
  obtain ⟨m3, I, i1, i2, i3, i4, i5⟩ := rowsA_ok a3
  have e1 : r.G = G := g4
  have e2 : r.I = I := i4
  rw [e1, e2]
  exact ⟨f1, g1, i1, f2, g2, i2, f3, g3, i3, m1, m2, m3, g5, i5, rfl, e1, e2⟩
theorem cp_g {N : Nat} {r : Rw} {F G I : List (List PV)} (h : r.Lists F G I) (bf bi : Bool) : ∀ (k i m : Nat), i + k = r.ng -> LC1 N (m + k + 1) r bf true bi (i : Int) r.gc = LC2 N N r bf true bi (r.ng : Int) r.gc 0 r.ic
  | 0, i, m, hk => by
    rw [tC1, cond_f (show decide ((i : Int) < (r.ng : Int)) = false from by simp; omega), show (i : Int) = (r.ng : Int) from by omega]
  | k + 1, i, m, hk => by
    have hi : i < G.length := by rw [h.ng]; omega
    have hp := part_at h.g hi 5 (by decide)
    have hg := h.gk _ (List.getElem_mem hi)
    unfold grOk at hg
    simp only [Bool.and_eq_true] at hg
    have hw := wk_drop 5 hg.1
    have hl := flat_len h.g hi
    have fo := rows_oldn h.f
    have go := rows_oldn h.g
    have io := rows_oldn h.i
    rw [h.gc] at hp hl go
    rw [h.fc] at fo
    rw [h.ic] at io
    rw [show KGr.length = 8 from rfl] at hp hl
    rw [show KGr.drop 5 = KTb from rfl] at hp hw
    rw [show m + (k + 1) + 1 = (m + k + 1) + 1 from by omega, tC1, cond_t (show decide ((i : Int) < (r.ng : Int)) = true from by simp; omega)]
    simp only [Int.toNat_natCast, hp.2.1, hp.2.2]
    rw [asks_of (by
      simp only [hp.1, getD_drop, row_cell h.g hi, inside (show i < r.ng by omega), hw, okTb_drop hg.2, wk_one hw, beq_self_eq_true, List.all_cons, List.all_nil, id, Bool.and_true, Bool.true_and, decide_eq_true_eq]
      omega), asks_of (by simp only [fo, go, io, List.all_cons, List.all_nil, id, Bool.and_true]), asks_of (by unfold ifb; cases bf <;> simp [fo]), asks_of (by simp [go]), asks_of (by unfold ifb; cases bi <;> simp [io]), wrap_succ (by have := h.mg; omega : i < 9223372036854775807)]
    exact cp_g h bf bi k (i + 1) m (by omega)
theorem cp_i {N : Nat} {r : Rw} {F G I : List (List PV)} (h : r.Lists F G I) (bf bg : Bool) (e1 : Int) : ∀ (k i m : Nat), i + k = r.ni -> LC2 N (m + k + 1) r bf bg true e1 r.gc (i : Int) r.ic = some (cpA r bf bg true r.gc r.ic)
  | 0, i, m, hk => by
    have fo := rows_oldn h.f
    have go := rows_oldn h.g
    have io := rows_oldn h.i
    rw [h.gc] at go
    rw [h.fc] at fo
    rw [h.ic] at io
    rw [tC2, cond_f (show decide ((i : Int) < (r.ni : Int)) = false from by simp; omega), asks_of (by unfold ifb; cases bf <;> simp [fo]), asks_of (by unfold ifb; cases bg <;> simp [go]), asks_of (by simp [io])]
  | k + 1, i, m, hk => by
    have hi : i < I.length := by rw [h.ni]; omega
    have hp := part_at h.i hi 2 (by decide)
    have hg := h.ik _ (List.getElem_mem hi)
    unfold fiOk at hg
    simp only [Bool.and_eq_true] at hg
    have hw := wk_drop 2 hg.1
    have hl := flat_len h.i hi
    have fo := rows_oldn h.f
    have go := rows_oldn h.g
    have io := rows_oldn h.i
    rw [h.ic] at hp hl io
    rw [h.fc] at fo
    rw [h.gc] at go
    rw [show KFi.length = 3 from rfl] at hp hl
    rw [show KFi.drop 2 = KCi from rfl] at hp hw
    have hok : rowsC KPt (slLen (I[i].getD 2 .nilp)) (slCells (I[i].getD 2 .nilp)) = true := hg.2
    rw [show m + (k + 1) + 1 = (m + k + 1) + 1 from by omega, tC2, cond_t (show decide ((i : Int) < (r.ni : Int)) = true from by simp; omega)]
    simp only [Int.toNat_natCast, hp.2.1, hp.2.2]
    rw [asks_of (by
      simp only [hp.1, getD_drop, Nat.add_zero, row_cell h.i hi, inside (show i < r.ni by omega), hok, wk_one hw, Nat.beq_refl, beq_self_eq_true, List.all_cons, List.all_nil, id, Bool.and_true, Bool.true_and, decide_eq_true_eq]
      omega), asks_of (by simp only [fo, go, io, List.all_cons, List.all_nil, id, Bool.and_true]), asks_of (by unfold ifb; cases bf <;> simp [fo]), asks_of (by unfold ifb; cases bg <;> simp [go]), asks_of (by simp [io]), wrap_succ (by have := h.mi; omega : i < 9223372036854775807)]
    exact cp_i h bf bg e1 k (i + 1) m (by omega)
def cpTr (r : Rw) : Tr :=
  .br (decide (r.nf = 0))
    (.br (decide (r.ng = 0)) (.br (decide (r.ni = 0)) (.leaf r.ok (cpA r false false false r.gc r.ic)) (.leaf r.ok (cpA r false false true r.gc r.ic))) (.br (decide (r.ni = 0)) (.leaf r.ok (cpA r false true false r.gc r.ic)) (.leaf r.ok (cpA r false true true r.gc r.ic))))
    (.br (decide (r.ng = 0)) (.br (decide (r.ni = 0)) (.leaf r.ok (cpA r true false false r.gc r.ic)) (.leaf r.ok (cpA r true false true r.gc r.ic))) (.br (decide (r.ni = 0)) (.leaf r.ok (cpA r true true false r.gc r.ic)) (.leaf r.ok (cpA r true true true r.gc r.ic))))
theorem cpTr_val {r : Rw} {v : PV} (h : (cpTr r).val = some v) : r.ok = true /\ v = cpA r (!decide (r.nf = 0)) (!decide (r.ng = 0)) (!decide (r.ni = 0)) r.gc r.ic := by
  unfold cpTr Tr.val at h
  cases h1 : decide (r.nf = 0) <;> cases h2 : decide (r.ng = 0) <;> cases h3 : decide (r.ni = 0) <;> rw [h1, h2, h3] at h <;> simp only [cond_true, cond_false, Tr.val] at h <;>
    (cases hk : r.ok with
     | false => rw [hk] at h; cases h
     | true => rw [hk] at h; cases h; exact ⟨rfl, rfl⟩)
def gCp (xs : List PV) : Option Tr := match xs with
  | [x, .tup []] => (asRw x).map cpTr
  | _ => none
theorem runCp (xs : List PV) (t : Tr) (v : PV) (hg : gCp xs = some t) (hv : t.val = some v) : ∃ H, footSR EN TCc H 1000009 5 21 xs = some v := by
  unfold gCp at hg
  split at hg
  . rename_i x
    simp only [Option.map_eq_some_iff] at hg
    obtain ⟨r, hr, rfl⟩ := hg
    rw [asRw_ok hr]
    obtain ⟨hk, rfl⟩ := cpTr_val hv
    refine ⟨H0, (tC0 1000009 r).trans ?_⟩
    have h := Rw.lists hk
    have fo := rows_oldn h.f
    have go := rows_oldn h.g
    have io := rows_oldn h.i
    have f1 := one_flat h.f
    have g1 := one_flat h.g
    have i1 := one_flat h.i
    rw [h.fc] at fo f1
    rw [h.gc] at go g1
    rw [h.ic] at io i1
    have mf := h.mf
    have mg := h.mg
    have mi := h.mi
    rw [asks_of (by simp only [fo, f1, List.all_cons, List.all_nil, id, Bool.and_true, Bool.true_and, decide_eq_true_eq]; omega), clB_of, asks_of (by simp only [go, g1, List.all_cons, List.all_nil, id, Bool.and_true, Bool.true_and, decide_eq_true_eq]; omega), clB_of, asks_of (by simp only [io, i1, List.all_cons, List.all_nil, id, Bool.and_true, Bool.true_and, decide_eq_true_eq]; omega), clB_of]
    generalize (!decide (r.nf = 0)) = bf
    have step2 : ∀ bg e1, LC2 1000009 1000009 r bf bg (!decide (r.ni = 0)) e1 r.gc 0 r.ic = some (cpA r bf bg (!decide (r.ni = 0)) r.gc r.ic) := by
      intro bg e1
      by_cases h0 : r.ni = 0
      . rw [show (!decide (r.ni = 0)) = false from by simpa using h0, show (1000009 : Nat) = 1000008 + 1 from rfl, tC2n, asks_of (by unfold ifb; cases bf <;> simp [fo]), asks_of (by unfold ifb; cases bg <;> simp [go])]
      . rw [show (!decide (r.ni = 0)) = true from by simpa using h0]
        have := cp_i (N := 1000009) h bf bg e1 r.ni 0 (1000008 - r.ni) (by omega)
        rw [show 1000008 - r.ni + r.ni + 1 = 1000009 from by omega] at this
        exact this
    by_cases h0 : r.ng = 0
    . rw [show (!decide (r.ng = 0)) = false from by simpa using h0]
      have := tC1n 1000009 1000008 r bf (!decide (r.ni = 0)) r.gc
      rw [this, step2]
    . rw [show (!decide (r.ng = 0)) = true from by simpa using h0]
      have := cp_g (N := 1000009) h bf (!decide (r.ni = 0)) r.ng 0 (1000008 - r.ng) (by omega)
      rw [show 1000008 - r.ng + r.ng + 1 = 1000009 from by omega] at this
      exact this.trans (step2 _ _)
  . cases hg
theorem okCp : TR (TaddT T0 21 gCp) := TR0.addF TCcok runCp
end
section
open St
def gSoN (es g : Nat) (g0 : List PV -> Option Tr) (xs : List PV) : Option Tr := match xs with
  | [.sl [] e 0 none, .fn (.func g') [] [], .tup []] => some (.leaf (Nat.beq e es && Nat.beq g' g) (.tup [.tup [], .tup []]))
  | xs => g0 xs
theorem nSoF (N : Nat) : footSR EN (SF.TSt2F cFr) H0 (N + 50) 5 69 [.sl [] 26 0 none, SF.cmpF, .tup []] = some (.tup [.tup [], .tup []]) := by kernel_rfl
theorem nSoG (N : Nat) : footSR EN (SG.TSt2F cGi) H0 (N + 50) 5 71 [.sl [] 8 0 none, SG.cmpF, .tup []] = some (.tup [.tup [], .tup []]) := by kernel_rfl
theorem nSoI (N : Nat) : footSR EN (SI.TSt2F cKy) H0 (N + 50) 5 73 [.sl [] 3 0 none, SI.cmpF, .tup []] = some (.tup [.tup [], .tup []]) := by kernel_rfl
theorem runSoN {f es g : Nat} {g0 : List PV -> Option Tr} {T : Table} (hn : footSR EN T H0 1000009 5 f [.sl [] es 0 none, .fn (.func g) [] [], .tup []] = some (.tup [.tup [], .tup []])) (h0 : ∀ xs t v, g0 xs = some t -> t.val = some v -> ∃ H, footSR EN T H 1000009 5 f xs = some v)
    (xs : List PV) (t : Tr) (v : PV) (hg : gSoN es g g0 xs = some t) (hv : t.val = some v) : ∃ H, footSR EN T H 1000009 5 f xs = some v := by
  unfold gSoN at hg
  split at hg
  . rename_i e g'
    cases hg
    obtain ⟨hc, rfl⟩ := leaf_val hv
    simp only [Bool.and_eq_true] at hc
    rw [Nat.eq_of_beq_eq_true hc.1, Nat.eq_of_beq_eq_true hc.2]
    exact ⟨H0, hn⟩
  . exact h0 _ t v hg hv
noncomputable def gSF : List PV -> Option Tr := gSoN 26 70 (SF.gSoF cFr)
noncomputable def gSG : List PV -> Option Tr := gSoN 8 72 (SG.gSoF cGi)
noncomputable def gSI : List PV -> Option Tr := gSoN 3 74 (SI.gSoF cKy)
noncomputable def TSort : Table := TaddT (TaddT (TaddT (TaddT T0 21 gCp) 69 gSF) 71 gSG) 73 gSI
theorem TSortok : TR TSort := ((okCp.addF okStF (runSoN (nSoF 999959) (SF.runSoF cFr))).addF okStG (runSoN (nSoG 999959) (SG.runSoF cGi))).addF okStI (runSoN (nSoI 999959) (SI.runSoF cKy))
def Rw.so (r : Rw) : Rw := ⟨r.nf, (insAll (ltOf cFr) r.F).flatten, r.ng, (insAll (ltOf cGi) r.G).flatten, r.ni, (insAll (ltOf cKy) r.I).flatten⟩
def sortT (r : Rw) (bf bg bi : Bool) : Option PV :=
  asks [r.ok] <| asks (ifb bf [oldL 0 r.fc]) <| asks (ifb bg [oldL 0 r.gc]) <| asks (ifb bi [oldL 0 r.ic]) <|
  asks (ifb bf [oldL 0 r.fc, r.nf == r.nf && (r.nf == r.nf && rowsC KFr r.nf r.fc), oldL 0 r.so.fc]) <|
  asks (ifb bg [oldL 0 r.gc, r.ng == r.ng && (r.ng == r.ng && rowsC KGr r.ng r.gc), oldL 0 r.so.gc]) <|
  asks (ifb bi [oldL 0 r.ic, r.ni == r.ni && (r.ni == r.ni && rowsC KFi r.ni r.ic), oldL 0 r.so.ic]) <|
  asks (ifb bf (sealAsk r.so.fc r.nf 26)) <| asks (ifb bg (sealAsk r.so.gc r.ng 8)) <| asks (ifb bi (sealAsk r.so.ic r.ni 3)) <|
  asks (ifb bf [oldL 0 ((r.so.fc.drop 0).take (r.nf * 26))]) <| asks (ifb bg [oldL 0 ((r.so.gc.drop 0).take (r.ng * 8))]) <| asks (ifb bi [oldL 0 ((r.so.ic.drop 0).take (r.ni * 3))]) <|
  some (.agg [sealC bf r.so.fc r.nf 26, sealC bg r.so.gc r.ng 8, sealC bi r.so.ic r.ni 3])
theorem tSort (N : Nat) (r : Rw) : apartS EN TSort H0 N 5 51 [r.pv] = (asks [oldL 0 r.fc, oldL 0 r.gc, oldL 0 r.ic] <| clB r.nf fun bf => clB r.ng fun bg => clB r.ni fun bi => sortT r bf bg bi) := by kernel_rfl
def gSort (xs : List PV) : Option (Bool × PV) := match xs with
  | [x] => (asRw x).map fun r => (r.ok, r.so.pv)
  | _ => none
theorem rows_ins {K : List Kd} {lt : List PV -> List PV -> Bool} {R : List (List PV)} (h : rowsOk K R = true) : rowsOk K (insAll lt R) = true := rows_insAll h
theorem runSort (xs : List PV) (v : PV) (h : gSort xs = some (true, v)) : ∃ H, apartS EN TSort H 1000009 5 51 xs = some v := by
  unfold gSort at h
  split at h
  . rename_i x
    simp only [Option.map_eq_some_iff, Prod.mk.injEq] at h
    obtain ⟨r, hr, hk, rfl⟩ := h
    rw [asRw_ok hr]
    refine ⟨H0, (tSort 1000009 r).trans ?_⟩
    have h := Rw.lists hk
    have fo := rows_oldn h.f
    have go := rows_oldn h.g
    have io := rows_oldn h.i
    rw [h.fc] at fo
    rw [h.gc] at go
    rw [h.ic] at io
    have hC := Rw.ok_0 hk
    unfold Rw.ok0 at hC
    simp only [Bool.and_eq_true] at hC
    obtain ⟨c1, c2, c3⟩ := hC
    have sf := rows_ins (lt := ltOf cFr) h.f
    have sg := rows_ins (lt := ltOf cGi) h.g
    have si := rows_ins (lt := ltOf cKy) h.i
    have lf : (insAll (ltOf cFr) r.F).length = r.nf := by rw [insAll_len, h.nf]
    have lg : (insAll (ltOf cGi) r.G).length = r.ng := by rw [insAll_len, h.ng]
    have li : (insAll (ltOf cKy) r.I).length = r.ni := by rw [insAll_len, h.ni]
    obtain ⟨s1, s2, s3⟩ := seal_ok sf (by decide)
    obtain ⟨s4, s5, s6⟩ := seal_ok sg (by decide)
    obtain ⟨s7, s8, s9⟩ := seal_ok si (by decide)
    rw [lf] at s1 s2 s3
    rw [lg] at s4 s5 s6
    rw [li] at s7 s8 s9
    have of := rows_oldn sf 0
    have og := rows_oldn sg 0
    have oi := rows_oldn si 0
    rw [asks_of (by simp only [fo, go, io, List.all_cons, List.all_nil, id, Bool.and_true]), clB_of, clB_of, clB_of, nob, nob, nob]
    unfold sortT
    rw [asks_of (by simp only [hk, List.all_cons, List.all_nil, id, Bool.and_true]), asks_of (by unfold ifb; cases Nat.beq r.nf 0 <;> simp [fo]), asks_of (by unfold ifb; cases Nat.beq r.ng 0 <;> simp [go]), asks_of (by unfold ifb; cases Nat.beq r.ni 0 <;> simp [io]),
      asks_of (by unfold ifb Rw.so; cases Nat.beq r.nf 0 <;> simp [fo, c1, of]), asks_of (by unfold ifb Rw.so; cases Nat.beq r.ng 0 <;> simp [go, c2, og]), asks_of (by unfold ifb Rw.so; cases Nat.beq r.ni 0 <;> simp [io, c3, oi])]
    unfold Rw.so
    dsimp only
    rw [show (26 : Nat) = KFr.length from rfl, show (8 : Nat) = KGr.length from rfl, show (3 : Nat) = KFi.length from rfl]
    rw [asks_of s1, asks_of s4, asks_of s7, asks_of s2, asks_of s5, asks_of s8, s3, s6, s9]
    rfl
  . cases h
theorem okSort : TR (Tadd T0 51 gSort) := TR0.add TSortok runSort
end
section
open St
def HJo : FuncId -> Hint := fun f t => bif Nat.beq f 29 && (Nat.beq t 16 || (Nat.beq t 22 || Nat.beq t 28)) then [none, some false] else []
def accZ (b z : Bool) (id es n : Nat) : PV := bif b then .osl id n 0 es n none else (bif z then .nils else .sl [] es 0 (some 0))
noncomputable def TJo : Table := Tadd T0 51 gSort
noncomputable def LJ (N m : Nat) (c : List PV) (n : Nat) (z bf bg bi : Bool) (i : Int) (af : List PV) (kf : Nat) (ag : List PV) (kg : Nat) (ai : List PV) (ki : Nat) : Option PV := loopS EN TJo HJo N 5 29 Tryz.f29 [1, 1, 0, 1, 0] (patOf (sparse 33 0 [(0, .nils), (2, .nils), (3, .nils), (6, .nils), (7, .nils), (8, .nils)])) 2 m
  (sparse 33 0 [(0, .sl c 3 n none), (2, .ptr 0 1 0), (3, .ptr 1 1 0), (6, .sl c 3 n none), (7, vI n), (8, vI i)])
  ([bx [.nils, .nils, .nils], bx [accZ bf z 2 26 kf, accZ bg z (nx bf 2) 8 kg, accZ bi z (nx bg (nx bf 2)) 3 ki]] ++ (accO bf af 26 kf ++ (accO bg ag 8 kg ++ accO bi ai 3 ki)))
theorem TJook : TR TJo := okSort
def KRw : List Kd := [.sl 26, .sl 8, .sl 3]
def jR (bf bg bi : Bool) (af : List PV) (kf : Nat) (ag : List PV) (kg : Nat) (ai : List PV) (ki : Nat) : Rw :=
  ⟨bif bf then kf else 0, bif bf then (af.drop 0).take (kf * 26) else [], bif bg then kg else 0, bif bg then (ag.drop 0).take (kg * 8) else [], bif bi then ki else 0, bif bi then (ai.drop 0).take (ki * 3) else []⟩
def exitJ (bf bg bi : Bool) (af : List PV) (kf : Nat) (ag : List PV) (kg : Nat) (ai : List PV) (ki : Nat) : Option PV :=
  asks (ifb bf (sealAsk af kf 26)) <| asks (ifb bg (sealAsk ag kg 8)) <| asks (ifb bi (sealAsk ai ki 3)) <|
  asks (ifb bf [oldL 0 ((af.drop 0).take (kf * 26))]) <| asks (ifb bg [oldL 0 ((ag.drop 0).take (kg * 8))]) <| asks (ifb bi [oldL 0 ((ai.drop 0).take (ki * 3))]) <|
  asks [(jR bf bg bi af kf ag kg ai ki).ok] <|
  asks [oldL 0 (jR bf bg bi af kf ag kg ai ki).so.fc, oldL 0 (jR bf bg bi af kf ag kg ai ki).so.gc, oldL 0 (jR bf bg bi af kf ag kg ai ki).so.ic] <|
  some (jR bf bg bi af kf ag kg ai ki).so.pv
theorem tJ0 (N : Nat) (c : List PV) (n : Nat) : apartS EN TJo HJo N 5 29 [.sl c 3 n none] = LJ N N c n true false false false 0 [] 0 [] 0 [] 0 := by kernel_rfl
theorem tJ1 (N m : Nat) (c : List PV) (n : Nat) (z bf bg bi : Bool) (i : Int) (af : List PV) (kf : Nat) (ag : List PV) (kg : Nat) (ai : List PV) (ki : Nat) : LJ N (m + 1) c n z bf bg bi i af kf ag kg ai ki =
  (bif decide (i < (n : Int)) then
    (asks [decide (0 <= i) && decide (i < (n : Int)), okAt KRw c (i.toNat * 3)] <|
    growN bf af kf 26 (slCells ((shapeAt KRw c (i.toNat * 3)).getD 0 .nilp)) (slLen ((shapeAt KRw c (i.toNat * 3)).getD 0 .nilp)) fun bf' af' kf' =>
    growN bg ag kg 8 (slCells ((shapeAt KRw c (i.toNat * 3)).getD 1 .nilp)) (slLen ((shapeAt KRw c (i.toNat * 3)).getD 1 .nilp)) fun bg' ag' kg' =>
    growN bi ai ki 3 (slCells ((shapeAt KRw c (i.toNat * 3)).getD 2 .nilp)) (slLen ((shapeAt KRw c (i.toNat * 3)).getD 2 .nilp)) fun bi' ai' ki' =>
    asks [oldL 2 c, oldL 2 c] <| asks (ifb bf' [oldL 0 af']) <| asks (ifb bg' [oldL 0 ag']) <| asks (ifb bi' [oldL 0 ai']) <|
    LJ N m c n false bf' bg' bi' (IntKind.i64.wrap (i + 1)) af' kf' ag' kg' ai' ki')
  else exitJ bf bg bi af kf ag kg ai ki) := by cases z <;> cases bf <;> cases bg <;> cases bi <;> kernel_rfl
def rwOf (x : List PV) : Rw := ⟨slLen (x.getD 0 .nilp), slCells (x.getD 0 .nilp), slLen (x.getD 1 .nilp), slCells (x.getD 1 .nilp), slLen (x.getD 2 .nilp), slCells (x.getD 2 .nilp)⟩
def joF (L : List Rw) : List (List PV) := L.flatMap Rw.F
def joG (L : List Rw) : List (List PV) := L.flatMap Rw.G
def joI (L : List Rw) : List (List PV) := L.flatMap Rw.I
def jo (L : List Rw) : Rw := ⟨(joF L).length, (joF L).flatten, (joG L).length, (joG L).flatten, (joI L).length, (joI L).flatten⟩
def joOk (L : List Rw) : Bool := L.all Rw.ok && (decide ((joF L).length <= 1000000) && (decide ((joG L).length <= 1000000) && decide ((joI L).length <= 1000000)))
theorem rowsA_of {K : List Kd} {ok : List PV -> Bool} {R : List (List PV)} (h : rowsOk K R = true) (hn : R.length <= 1000000) (hk : ∀ r ∈ R, ok r = true) : rowsA K ok R.length R.flatten = true := by
  unfold rowsA
  rw [rowsC_of h hn, chunks_of h, Bool.true_and, List.all_eq_true]
  exact hk
def Rw.mk' (F G I : List (List PV)) : Rw := ⟨F.length, F.flatten, G.length, G.flatten, I.length, I.flatten⟩
theorem mk_ok {F G I : List (List PV)} (f : rowsOk KFr F = true) (g : rowsOk KGr G = true) (i : rowsOk KFi I = true) (mf : F.length <= 1000000) (mg : G.length <= 1000000) (mi : I.length <= 1000000) (gk : ∀ x ∈ G, grOk x = true) (ik : ∀ x ∈ I, fiOk x = true) :
    (Rw.mk' F G I).ok = true /\ (Rw.mk' F G I).F = F /\ (Rw.mk' F G I).G = G /\ (Rw.mk' F G I).I = I := by
  refine ⟨?_, chunks_of (K := KFr) f, chunks_of (K := KGr) g, chunks_of (K := KFi) i⟩
  unfold Rw.ok Rw.mk'
  dsimp only
  rw [rowsC_of f mf, rowsA_of g mg gk, rowsA_of i mi ik]
  rfl
theorem jo_ok {L : List Rw} (h : joOk L = true) : (jo L).ok = true /\ (jo L).F = joF L /\ (jo L).G = joG L /\ (jo L).I = joI L := by
  unfold joOk at h
  simp only [Bool.and_eq_true, decide_eq_true_eq, List.all_eq_true] at h
  obtain ⟨h1, h2, h3, h4⟩ := h
  refine mk_ok (rowsOk_flatMap fun r hr => (Rw.lists (h1 r hr)).f) (rowsOk_flatMap fun r hr => (Rw.lists (h1 r hr)).g) (rowsOk_flatMap fun r hr => (Rw.lists (h1 r hr)).i) h2 h3 h4 (fun x hx => ?_) (fun x hx => ?_)
  . obtain ⟨r, hr, hx⟩ := List.mem_flatMap.1 hx
    exact (Rw.lists (h1 r hr)).gk x hx
  . obtain ⟨r, hr, hx⟩ := List.mem_flatMap.1 hx
    exact (Rw.lists (h1 r hr)).ik x hx
theorem exitJ_ok {F G I : List (List PV)} (f : rowsOk KFr F = true) (g : rowsOk KGr G = true) (i : rowsOk KFi I = true) (mf : F.length <= 1000000) (mg : G.length <= 1000000) (mi : I.length <= 1000000) (gk : ∀ x ∈ G, grOk x = true) (ik : ∀ x ∈ I, fiOk x = true) :
    exitJ (!Nat.beq F.length 0) (!Nat.beq G.length 0) (!Nat.beq I.length 0) F.flatten F.length G.flatten G.length I.flatten I.length = some (Rw.mk' F G I).so.pv := by
  obtain ⟨s1, s2, s3⟩ := seal_ok f (by decide)
  obtain ⟨s4, s5, s6⟩ := seal_ok g (by decide)
  obtain ⟨s7, s8, s9⟩ := seal_ok i (by decide)
  have e : jR (!Nat.beq F.length 0) (!Nat.beq G.length 0) (!Nat.beq I.length 0) F.flatten F.length G.flatten G.length I.flatten I.length = Rw.mk' F G I := by
    unfold jR Rw.mk'
    have key : ∀ {K : List Kd} {R : List (List PV)}, rowsOk K R = true -> (bif (!Nat.beq R.length 0) then R.length else 0) = R.length /\ (bif (!Nat.beq R.length 0) then (R.flatten.drop 0).take (R.length * K.length) else []) = R.flatten := by
      intro K R h
      cases R with
      | nil => exact ⟨rfl, rfl⟩
      | cons a R =>
        have hb : (!Nat.beq (a :: R).length 0) = true := rfl
        rw [hb]
        exact ⟨rfl, take_all _ (rows_len h)⟩
    rw [show (26 : Nat) = KFr.length from rfl, show (8 : Nat) = KGr.length from rfl, show (3 : Nat) = KFi.length from rfl, (key f).1, (key f).2, (key g).1, (key g).2, (key i).1, (key i).2]
  unfold exitJ
  rw [e]
  obtain ⟨k1, k2, k3, k4⟩ := mk_ok f g i mf mg mi gk ik
  rw [show (26 : Nat) = KFr.length from rfl, show (8 : Nat) = KGr.length from rfl, show (3 : Nat) = KFi.length from rfl, asks_of s1, asks_of s4, asks_of s7, asks_of s2, asks_of s5, asks_of s8, asks_of (by simp [k1])]
  rw [asks_of (by
    unfold Rw.so
    rw [k2, k3, k4]
    dsimp only
    rw [rows_old (rows_ins f), rows_old (rows_ins g), rows_old (rows_ins i)]
    rfl)]
theorem joF_app (L M : List Rw) : joF (L ++ M) = joF L ++ joF M := by unfold joF; rw [List.flatMap_append]
theorem joG_app (L M : List Rw) : joG (L ++ M) = joG L ++ joG M := by unfold joG; rw [List.flatMap_append]
theorem joI_app (L M : List Rw) : joI (L ++ M) = joI L ++ joI M := by unfold joI; rw [List.flatMap_append]
theorem joOk_part {L M : List Rw} (h : joOk (L ++ M) = true) : joOk L = true := by
  unfold joOk at h ⊢
  simp only [joF_app, joG_app, joI_app, List.length_append, List.all_append, Bool.and_eq_true, decide_eq_true_eq] at h ⊢
  obtain ⟨⟨h1, _⟩, h2, h3, h4⟩ := h
  exact ⟨h1, by omega, by omega, by omega⟩
structure JL (L : List Rw) : Prop where
  f : rowsOk KFr (joF L) = true
  g : rowsOk KGr (joG L) = true
  i : rowsOk KFi (joI L) = true
  mf : (joF L).length <= 1000000
  mg : (joG L).length <= 1000000
  mi : (joI L).length <= 1000000
  gk : ∀ x ∈ joG L, grOk x = true
  ik : ∀ x ∈ joI L, fiOk x = true
  ok : ∀ r ∈ L, r.ok = true
theorem JL.of {L : List Rw} (h : joOk L = true) : JL L := by
  unfold joOk at h
  simp only [Bool.and_eq_true, decide_eq_true_eq, List.all_eq_true] at h
  obtain ⟨h1, h2, h3, h4⟩ := h
  refine ⟨rowsOk_flatMap fun r hr => (Rw.lists (h1 r hr)).f, rowsOk_flatMap fun r hr => (Rw.lists (h1 r hr)).g, rowsOk_flatMap fun r hr => (Rw.lists (h1 r hr)).i, h2, h3, h4, fun x hx => ?_, fun x hx => ?_, h1⟩
  . obtain ⟨r, hr, hx⟩ := List.mem_flatMap.1 hx
    exact (Rw.lists (h1 r hr)).gk x hx
  . obtain ⟨r, hr, hx⟩ := List.mem_flatMap.1 hx
    exact (Rw.lists (h1 r hr)).ik x hx
noncomputable def LJs (N m : Nat) (c : List PV) (n : Nat) (z : Bool) (i : Int) (L : List Rw) : Option PV :=
  LJ N m c n z (!Nat.beq (joF L).length 0) (!Nat.beq (joG L).length 0) (!Nat.beq (joI L).length 0) i (joF L).flatten (joF L).length (joG L).flatten (joG L).length (joI L).flatten (joI L).length
theorem jo_loop {N n : Nat} {R : List (List PV)} (hR : rowsOk KRw R = true) (hl : R.length = n) (hn : n <= 1000000) (hk : joOk (R.map rwOf) = true) : ∀ (k i m : Nat) (z : Bool), i + k = n -> LJs N (m + k + 1) R.flatten n z (i : Int) ((R.take i).map rwOf) = some (jo (R.map rwOf)).so.pv
  | 0, i, m, z, h => by
    unfold LJs
    have e : R.take i = R := by rw [List.take_of_length_le (by omega)]
    rw [e, tJ1, cond_f (show decide ((i : Int) < (n : Int)) = false from by simp; omega)]
    have J := JL.of hk
    exact exitJ_ok J.f J.g J.i J.mf J.mg J.mi J.gk J.ik
  | k + 1, i, m, z, h => by
    have hi : i < R.length := by omega
    have hr := rows_at0 hR hi
    have et : R.take (i + 1) = R.take i ++ [R[i]] := by rw [List.take_succ_eq_append_getElem hi]
    have hk1 : joOk ((R.take (i + 1)).map rwOf) = true := joOk_part (M := (R.drop (i + 1)).map rwOf) (by rw [<- List.map_append, List.take_append_drop]; exact hk)
    have hk0 : joOk ((R.take i).map rwOf) = true := joOk_part (M := (R.drop i).map rwOf) (by rw [<- List.map_append, List.take_append_drop]; exact hk)
    have J1 := JL.of hk1
    have J0 := JL.of hk0
    have hx : (rwOf R[i]).ok = true := J1.ok _ (List.mem_map.2 ⟨R[i], by rw [et]; exact List.mem_append_right _ List.mem_cons_self, rfl⟩)
    have lx := Rw.lists hx
    have aF : joF ((R.take (i + 1)).map rwOf) = joF ((R.take i).map rwOf) ++ (rwOf R[i]).F := by rw [et, List.map_append, joF_app]; simp [joF]
    have aG : joG ((R.take (i + 1)).map rwOf) = joG ((R.take i).map rwOf) ++ (rwOf R[i]).G := by rw [et, List.map_append, joG_app]; simp [joG]
    have aI : joI ((R.take (i + 1)).map rwOf) = joI ((R.take i).map rwOf) ++ (rwOf R[i]).I := by rw [et, List.map_append, joI_app]; simp [joI]
    have e1 : slCells (R[i].getD 0 .nilp) = (rwOf R[i]).F.flatten := lx.fc.symm
    have e2 : slLen (R[i].getD 0 .nilp) = (rwOf R[i]).F.length := lx.nf.symm
    have e3 : slCells (R[i].getD 1 .nilp) = (rwOf R[i]).G.flatten := lx.gc.symm
    have e4 : slLen (R[i].getD 1 .nilp) = (rwOf R[i]).G.length := lx.ng.symm
    have e5 : slCells (R[i].getD 2 .nilp) = (rwOf R[i]).I.flatten := lx.ic.symm
    have e6 : slLen (R[i].getD 2 .nilp) = (rwOf R[i]).I.length := lx.ni.symm
    unfold LJs
    rw [show m + (k + 1) + 1 = (m + k + 1) + 1 from by omega, tJ1, cond_t (show decide ((i : Int) < (n : Int)) = true from by simp; omega)]
    simp only [Int.toNat_natCast]
    rw [show i * 3 = i * KRw.length from rfl, hr.2, hr.1, asks_of (by rw [inside (show i < n by omega)]; rfl), e1, e2, e3, e4, e5, e6]
    rw [show (26 : Nat) = KFr.length from rfl, growN_ok J0.f lx.f (by rw [<- aF]; exact J1.mf)]
    rw [show (8 : Nat) = KGr.length from rfl, growN_ok J0.g lx.g (by rw [<- aG]; exact J1.mg)]
    rw [show (3 : Nat) = KFi.length from rfl, growN_ok J0.i lx.i (by rw [<- aI]; exact J1.mi)]
    rw [<- aF, <- aG, <- aI, asks_of (by simp only [rows_oldn hR, List.all_cons, List.all_nil, id, Bool.and_self]), asks_of (ifb_old J1.f _), asks_of (ifb_old J1.g _), asks_of (ifb_old J1.i _), wrap_succ (by omega : i < 9223372036854775807)]
    exact jo_loop hR hl hn hk k (i + 1) m false (by omega)
def gJoin (xs : List PV) : Option (Bool × PV) := match xs with
  | [.sl c e n none] => some (Nat.beq e 3 && (rowsC KRw n c && joOk ((chunks 3 n c).map rwOf)), (jo ((chunks 3 n c).map rwOf)).so.pv)
  | _ => none
theorem runJoin (xs : List PV) (v : PV) (h : gJoin xs = some (true, v)) : ∃ H, apartS EN TJo H 1000009 5 29 xs = some v := by
  unfold gJoin at h
  split at h
  . rename_i c e n
    simp only [Option.some.injEq, Prod.mk.injEq, Bool.and_eq_true] at h
    obtain ⟨⟨h1, h2, h3⟩, rfl⟩ := h
    rw [Nat.eq_of_beq_eq_true h1]
    obtain ⟨r1, r2, r3, r4⟩ := rowsC_ok h2
    refine ⟨HJo, (tJ0 1000009 c n).trans ?_⟩
    have := jo_loop (N := 1000009) r2 r4 r1 h3 n 0 (1000008 - n) true (by omega)
    rw [show 1000008 - n + n + 1 = 1000009 from by omega, r3] at this
    exact this
  . cases h
end
end Go.Proofs.YtpbemfikhmeedaaGreatDoor.Am
