/- FlowsLive: the functions' trees. -/
import Derived.Test.YtbeoagcldeolhaaDoorFlFx1
import Derived.KernelRfl
set_option linter.unusedVariables false
set_option maxRecDepth 100000
set_option maxHeartbeats 4000000
namespace Go.Proofs.YtbeoagcldeolhaaDoor.Am

theorem tNaN (N : Nat) (a : Int) : apartS EN TTLB H0 N 5 54 [.int .i64 a] = some (.bool (a != a)) := by kernel_rfl
theorem tCmp (N : Nat) (a b : Int) : apartS EN TNaN H0 N 5 34 [.int .i64 a, .int .i64 b] = (bif decide (a < b) then some (vi (-1)) else bif decide (a > b) then some (vi 1) else some (vi 0)) := by kernel_rfl
theorem tOr2 (N : Nat) (a b : Int) (xc : Option Nat) : apartS EN TCmp H0 (N + 9) 5 33 [.sl [.int .i64 a, .int .i64 b] 1 2 xc] = (bif a != 0 then some (vi a) else bif b != 0 then some (vi b) else some (vi 0)) := by kernel_rfl
theorem tOr3 (N : Nat) (a b c : Int) (xc : Option Nat) : apartS EN TCmp H0 (N + 9) 5 33 [.sl [.int .i64 a, .int .i64 b, .int .i64 c] 1 3 xc] = (bif a != 0 then some (vi a) else bif b != 0 then some (vi b) else bif c != 0 then some (vi c) else some (vi 0)) := by kernel_rfl

def loopT (a b : Nat → Int) : List Nat → Option PV
  | [] => some (vi 0)
  | i :: r => bif decide (a i < b i) then some (vi (-1)) else bif decide (a i > b i) then some (vi 1) else loopT a b r

theorem tAdC (N : Nat) (a b : Ad) : apartS EN TOr H0 N 5 55 [.agg a.cs, .agg b.cs] = (bif a.six == b.six then some (vi (cmpBytes (bytes16 a.b) (bytes16 b.b))) else bif a.six then some (vi 1) else some (vi (-1))) := by kernel_rfl
theorem tAdR (N : Nat) (a b : Ad) : apartS EN TA1 H0 (N + 50) 5 56 [.agg a.cs, .agg b.cs] = (bif !(a.six == b.six) then (bif a.six then some (vi 1) else some (vi (-1))) else loopT a.b b.b [0, 1, 2, 3, 4, 5, 6, 7, 8, 9, 10, 11, 12, 13, 14, 15]) := by kernel_rfl

def zerosT (b : Nat → Int) : List Nat → Option PV
  | [] => some (.bool true)
  | i :: r => bif b i != 0 then some (.bool false) else zerosT b r

theorem tArS (N : Nat) (b : Nat → Int) : apartS EN TA2 H0 (N + 50) 5 47 [.agg (⟨true, b⟩ : Ad).cs] = some (.bool true) := by kernel_rfl
theorem tRrS (N : Nat) (b : Nat → Int) : apartS EN TA3 H0 (N + 50) 5 52 [.agg (⟨true, b⟩ : Ad).cs] = some (.bool true) := by kernel_rfl
theorem tRrF (N : Nat) (b : Nat → Int) : apartS EN TA3 H0 (N + 50) 5 52 [.agg (⟨false, b⟩ : Ad).cs] = zerosT b [4, 5, 6, 7, 8, 9, 10, 11, 12, 13, 14, 15] := by kernel_rfl

def c12 (b : Nat → Int) : List PV := [.int .u8 (b 4), .int .u8 (b 5), .int .u8 (b 6), .int .u8 (b 7), .int .u8 (b 8), .int .u8 (b 9), .int .u8 (b 10), .int .u8 (b 11), .int .u8 (b 12), .int .u8 (b 13), .int .u8 (b 14), .int .u8 (b 15)]

theorem tArF (N : Nat) (b : Nat → Int) : apartS EN TA2 H0 (N + 50) 5 47 [.agg (⟨false, b⟩ : Ad).cs] =
    (ass (oldL 0 (Sp.trR 0 (c12 b))) <| ass ((Sp.trR 0 (c12 b)).all Sp.isU8 && (Nat.beq (Sp.trR 0 (c12 b)).length (Sp.trR 0 (c12 b)).length && decide ((Sp.trR 0 (c12 b)).length ≤ 1000000))) <|
      some (.bool (((Sp.trL 0 (Sp.trR 0 (c12 b))).length : Int) == 0))) := by kernel_rfl

noncomputable def LTR (N m : Nat) (c : List PV) (n : Nat) (k : Int) : Option PV := loopS EN TRKey H0 N 5 88 Tryd.f88 [1, 0, 0] ([true, true, false, false, true] ++ List.replicate 19 false) 0 m ([some (PV.sl c 1 n none), some (PV.int IntKind.u8 k), none, none, some .nils] ++ List.replicate 19 none) []
noncomputable def LTL (N m : Nat) (c : List PV) (n : Nat) (k : Int) : Option PV := loopS EN TTRB H0 N 5 87 Tryd.f87 [1, 0, 0] ([true, true, false, false, true] ++ List.replicate 16 false) 0 m ([some (PV.sl c 1 n none), some (PV.int IntKind.u8 k), none, none, some .nils] ++ List.replicate 16 none) []
theorem t88 (N : Nat) (c : List PV) (n : Nat) (k : Int) : apartS EN TRKey H0 N 5 88 [PV.sl c 1 n none, PV.int IntKind.u8 k] = LTR N N c n k := by kernel_rfl
theorem t87 (N : Nat) (c : List PV) (n : Nat) (k : Int) : apartS EN TTRB H0 N 5 87 [PV.sl c 1 n none, PV.int IntKind.u8 k] = LTL N N c n k := by kernel_rfl

theorem t88r (N : Nat) (m : Nat) (c : List PV) (n : Nat) (k : Int) : LTR N (m + 1) c n k =
  (bif decide ((↑n : Int) > 0) then
    (ass (decide (0 ≤ IntKind.i64.wrap ((↑n : Int) - 1)) && decide (IntKind.i64.wrap ((↑n : Int) - 1) < (↑n : Int))) <|
    ass (okAt [Kd.int IntKind.u8] c ((IntKind.i64.wrap ((↑n : Int) - 1)).toNat * 1)) <|
      bif asI (c.getD ((IntKind.i64.wrap ((↑n : Int) - 1)).toNat * 1) PV.nilp) == k then
          (ass (decide (0 ≤ IntKind.i64.wrap ((↑n : Int) - 1)) && decide (IntKind.i64.wrap ((↑n : Int) - 1) ≤ (↑n : Int))) <|
          ass (oldL 0 (List.take (((IntKind.i64.wrap ((↑n : Int) - 1)).toNat - 0) * 1) (List.drop 0 c))) <|
            LTR N (m) (List.take (((IntKind.i64.wrap ((↑n : Int) - 1)).toNat - 0) * 1) (List.drop 0 c)) ((IntKind.i64.wrap ((↑n : Int) - 1)).toNat - 0) (k))
        else
          (ass (oldL 0 c) <|
          some (PV.sl c 1 n none)))
  else
    (ass (oldL 0 c) <|
    some (PV.sl c 1 n none))) := by kernel_rfl

theorem t87r (N : Nat) (m : Nat) (c : List PV) (n : Nat) (k : Int) : LTL N (m + 1) c n k =
  (bif decide ((↑n : Int) > 0) then
    (ass (decide (0 ≤ 0) && decide (0 < (↑n : Int))) <|
    ass (okAt [Kd.int IntKind.u8] c 0) <|
      bif asI (c.getD 0 PV.nilp) == k then
          (ass (decide (0 ≤ 1) && decide (1 ≤ (↑n : Int))) <|
          ass (oldL 0 (List.take ((n - 1) * 1) (List.drop 1 c))) <|
            LTL N (m) (List.take ((n - 1) * 1) (List.drop 1 c)) (n - 1) (k))
        else
          (bif (↑n : Int) == 0 then
            (some (PV.sl [] 1 0 none))
          else
            (ass (oldL 0 c) <|
            some (PV.sl c 1 n none))))
  else
    (bif (↑n : Int) == 0 then
      (some (PV.sl [] 1 0 none))
    else
      (ass (oldL 0 c) <|
      some (PV.sl c 1 n none)))) := by kernel_rfl

theorem tPtC (N : Nat) (a b : Pt) : apartS EN TA4 H0 (N + 50) 5 35 [.agg a.cs, .agg b.cs] = some (vi (ptC a b)) := by kernel_rfl
theorem tPtR (N : Nat) (a b : Pt) : apartS EN TA5 H0 (N + 50) 5 36 [.agg a.cs, .agg b.cs] = (bif adR a.ad b.ad != 0 then some (vi (adR a.ad b.ad)) else bif decide (a.port < b.port) then some (vi (-1)) else bif decide (a.port > b.port) then some (vi 1) else some (vi 0)) := by kernel_rfl

theorem t7 (N : Nat) (f : Flw) : apartS EN TA6 H0 (N + 50) 5 7 [PV.agg f.cs] =
  (bif Sp.adOk f.client.ad then
    (bif decide (f.client.2 ≥ 1) then
      (bif decide (f.client.2 ≤ 65535) then
        (bif Sp.adOk f.front.ad then
          (bif decide (f.front.2 ≥ 1) then
            (bif decide (f.front.2 ≤ 65535) then
              (bif Sp.adOk f.backend.ad then
                (bif decide (f.backend.2 ≥ 1) then
                  (bif f.1 == 6 then
                    (bif decide (f.backend.2 ≤ 65535) then
                      (ass (decide (f.key.1.length ≤ 1000000) && decide (f.key.2.length ≤ 1000000)) <|
                      bif Sp.label f.key.1 && Sp.label f.key.2 then
                          (ass (decide (f.6.length ≤ 1000000)) <|
                          bif Sp.label f.6 then
                              (bif decide (f.8 ≥ 0) then
                                (some (PV.bool (decide (f.last ≤ 1099511627776))))
                              else
                                (some (PV.bool false)))
                            else
                              (some (PV.bool false)))
                        else
                          (some (PV.bool false)))
                    else
                      (some (PV.bool false)))
                  else
                    (bif f.1 == 17 then
                      (bif decide (f.backend.2 ≤ 65535) then
                        (ass (decide (f.key.1.length ≤ 1000000) && decide (f.key.2.length ≤ 1000000)) <|
                        bif Sp.label f.key.1 && Sp.label f.key.2 then
                            (ass (decide (f.6.length ≤ 1000000)) <|
                            bif Sp.label f.6 then
                                (bif decide (f.8 ≥ 0) then
                                  (some (PV.bool (decide (f.last ≤ 1099511627776))))
                                else
                                  (some (PV.bool false)))
                              else
                                (some (PV.bool false)))
                          else
                            (some (PV.bool false)))
                      else
                        (some (PV.bool false)))
                    else
                      (some (PV.bool false))))
                else
                  (bif f.1 == 6 then
                    (some (PV.bool false))
                  else
                    (bif f.1 == 17 then
                      (some (PV.bool false))
                    else
                      (some (PV.bool false)))))
              else
                (bif f.1 == 6 then
                  (some (PV.bool false))
                else
                  (bif f.1 == 17 then
                    (some (PV.bool false))
                  else
                    (some (PV.bool false)))))
            else
              (bif f.1 == 6 then
                (some (PV.bool false))
              else
                (bif f.1 == 17 then
                  (some (PV.bool false))
                else
                  (some (PV.bool false)))))
          else
            (bif f.1 == 6 then
              (some (PV.bool false))
            else
              (bif f.1 == 17 then
                (some (PV.bool false))
              else
                (some (PV.bool false)))))
        else
          (bif f.1 == 6 then
            (some (PV.bool false))
          else
            (bif f.1 == 17 then
              (some (PV.bool false))
            else
              (some (PV.bool false)))))
      else
        (bif f.1 == 6 then
          (some (PV.bool false))
        else
          (bif f.1 == 17 then
            (some (PV.bool false))
          else
            (some (PV.bool false)))))
    else
      (bif f.1 == 6 then
        (some (PV.bool false))
      else
        (bif f.1 == 17 then
          (some (PV.bool false))
        else
          (some (PV.bool false)))))
  else
    (bif f.1 == 6 then
      (some (PV.bool false))
    else
      (bif f.1 == 17 then
        (some (PV.bool false))
      else
        (some (PV.bool false))))) := by kernel_rfl

theorem t8 (N : Nat) (f : Flw) : apartS EN TA7 H0 (N + 50) 5 8 [PV.agg f.cs] =
  (bif f.1 == 6 then
    (bif Sp.adOk f.client.ad then
      (bif decide (f.client.2 > 0) then
        (bif decide (f.client.2 < 65536) then
          (bif Sp.adOk f.front.ad then
            (bif decide (f.front.2 > 0) then
              (bif decide (f.front.2 < 65536) then
                (bif Sp.adOk f.backend.ad then
                  (bif decide (f.backend.2 > 0) then
                    (bif decide (f.backend.2 < 65536) then
                      (ass (decide (f.key.1.length ≤ 1000000) && decide (f.key.2.length ≤ 1000000)) <|
                      bif Sp.label f.key.1 && Sp.label f.key.2 then
                          (ass (decide (f.6.length ≤ 1000000)) <|
                          bif Sp.label f.6 then
                              (bif decide (f.8 ≥ 0) then
                                (some (PV.bool (decide (f.last ≤ 1099511627776))))
                              else
                                (some (PV.bool false)))
                            else
                              (some (PV.bool false)))
                        else
                          (some (PV.bool false)))
                    else
                      (some (PV.bool false)))
                  else
                    (some (PV.bool false)))
                else
                  (some (PV.bool false)))
              else
                (some (PV.bool false)))
            else
              (some (PV.bool false)))
          else
            (some (PV.bool false)))
        else
          (some (PV.bool false)))
      else
        (some (PV.bool false)))
    else
      (some (PV.bool false)))
  else
    (bif f.1 == 17 then
      (bif Sp.adOk f.client.ad then
        (bif decide (f.client.2 > 0) then
          (bif decide (f.client.2 < 65536) then
            (bif Sp.adOk f.front.ad then
              (bif decide (f.front.2 > 0) then
                (bif decide (f.front.2 < 65536) then
                  (bif Sp.adOk f.backend.ad then
                    (bif decide (f.backend.2 > 0) then
                      (bif decide (f.backend.2 < 65536) then
                        (ass (decide (f.key.1.length ≤ 1000000) && decide (f.key.2.length ≤ 1000000)) <|
                        bif Sp.label f.key.1 && Sp.label f.key.2 then
                            (ass (decide (f.6.length ≤ 1000000)) <|
                            bif Sp.label f.6 then
                                (bif decide (f.8 ≥ 0) then
                                  (some (PV.bool (decide (f.last ≤ 1099511627776))))
                                else
                                  (some (PV.bool false)))
                              else
                                (some (PV.bool false)))
                          else
                            (some (PV.bool false)))
                      else
                        (some (PV.bool false)))
                    else
                      (some (PV.bool false)))
                  else
                    (some (PV.bool false)))
                else
                  (some (PV.bool false)))
              else
                (some (PV.bool false)))
            else
              (some (PV.bool false)))
          else
            (some (PV.bool false)))
        else
          (some (PV.bool false)))
      else
        (some (PV.bool false)))
    else
      (some (PV.bool false)))) := by kernel_rfl

theorem t9 (N : Nat) (f : Flw) (now : Int) : apartS EN TA8 H0 N 5 9 [PV.agg f.cs, PV.int IntKind.i64 now] =
  (bif decide (now < f.last) then some (PV.bool true)
  else bif f.closing then some (PV.bool (decide (IntKind.u64.wrap (IntKind.u64.wrap now - IntKind.u64.wrap f.last) < IntKind.u64.wrap 10)))
  else bif f.proto == 6 then some (PV.bool (decide (IntKind.u64.wrap (IntKind.u64.wrap now - IntKind.u64.wrap f.last) < IntKind.u64.wrap 120)))
  else some (PV.bool (decide (IntKind.u64.wrap (IntKind.u64.wrap now - IntKind.u64.wrap f.last) < IntKind.u64.wrap 40)))) := by kernel_rfl

theorem t11 (N : Nat) (f g : Flw) : apartS EN TA10 H0 (N + 50) 5 11 [.agg f.cs, .agg g.cs] = some (vi (Sp.fcC f g)) := by kernel_rfl
theorem t12 (N : Nat) (f g : Flw) : apartS EN TA11 H0 (N + 50) 5 12 [.agg f.cs, .agg g.cs] =
  (bif f.proto != g.proto then (bif decide (f.proto < g.proto) then some (vi (-1)) else some (vi 1)) else bif ptR f.client g.client != 0 then some (vi (ptR f.client g.client)) else some (vi (ptR f.front g.front))) := by kernel_rfl

def lawT (f g : Flw) (now : Int) : Option PV :=
  bif decide ((f.name.length : Int) > 100) then some (.bool true) else bif decide ((f.key.space.length : Int) > 100) then some (.bool true) else bif decide ((f.key.name.length : Int) > 100) then some (.bool true) else
  bif decide ((g.name.length : Int) > 100) then some (.bool true) else bif decide ((g.key.space.length : Int) > 100) then some (.bool true) else bif decide ((g.key.name.length : Int) > 100) then some (.bool true) else
  (ass (decide (f.key.space.length ≤ 1000000) && (decide (f.key.name.length ≤ 1000000) && decide (f.name.length ≤ 1000000))) <| ass (decide (f.key.space.length ≤ 1000000) && (decide (f.key.name.length ≤ 1000000) && decide (f.name.length ≤ 1000000))) <|
    bif Sp.riS f == Sp.riS f then (ass (in64 f.last && in64 now) <| ass (in64 f.last && in64 now) <| bif Sp.liS f now == Sp.liS f now then some (.bool (Sp.fcC f g == Sp.fcR f g)) else some (.bool false)) else some (.bool false))

theorem t3 (N : Nat) (f g : Flw) (now : Int) : apartS EN TFl H0 (N + 50) 5 3 [.agg f.cs, .agg g.cs, .int .i64 now] = lawT f g now := by kernel_rfl

end Go.Proofs.YtbeoagcldeolhaaDoor.Am
