/- RulesOrder: the functions above. -/
import Derived.Test.YtbnfofcbajaiiaaOrd1
set_option linter.unusedVariables false
set_option maxRecDepth 100000
namespace Go.Proofs.Ytbnfofcbajaiiaa.Am

theorem t77 (a b : Pt) : bodyV EO (SO 3) 0 100 Try.f77 (bodyOf Try.f77) [.agg a.cs, .agg b.cs] [] = some (vi (ptC a b)) := by kernel_rfl
theorem t41 (a b : Fr) : bodyV EO (SO 4) 0 100 Try.f41 (bodyOf Try.f41) [.agg a.cs, .agg b.cs] [] = some (vi (atC a b)) := by kernel_rfl
theorem t20 (a b : Fr) : bodyV EO (SO 4) 0 100 Try.f20 (bodyOf Try.f20) [.agg a.cs, .agg b.cs] [] = some (vi (atR a b)) := by kernel_rfl
theorem t21 (a b : Gi) : bodyV EO (SO 4) 0 100 Try.f21 (bodyOf Try.f21) [.agg a.cs, .agg b.cs] [] = some (vi (giOf (kyC a.key b.key) a b)) := by kernel_rfl
theorem t22 (a b : Gi) : bodyV EO (SO 4) 0 100 Try.f22 (bodyOf Try.f22) [.agg a.cs, .agg b.cs] [] = some (vi (giOf (kyR a.key b.key) a b)) := by kernel_rfl
theorem t19 (a b : Fr) : bodyV EO (SO 5) 0 100 Try.f19 (bodyOf Try.f19) [.agg a.cs, .agg b.cs] [] = some (.bool (atC a b == 0)) := by kernel_rfl
theorem t17 (a b : Fr) : bodyV EO (SO 5) 0 100 Try.f17 (bodyOf Try.f17) [.agg a.cs, .agg b.cs] [] = some (vi (allOf (atC a b) a b)) := by kernel_rfl
theorem t18 (a b : Fr) : bodyV EO (SO 5) 0 100 Try.f18 (bodyOf Try.f18) [.agg a.cs, .agg b.cs] [] = some (vi (allOf (atR a b) a b)) := by kernel_rfl
theorem t15 (a : Fr) : bodyV EO (SO 0) 0 100 Try.f15 (bodyOf Try.f15) [.agg a.cs] [] = some a.id := by kernel_rfl
theorem t16 (a : Fr) : bodyV EO (SO 0) 0 100 Try.f16 (bodyOf Try.f16) [.agg a.cs] [] = some a.id := by kernel_rfl
theorem t104 (x y : PV) (σ : Store) (fl : Nat) : bodyK EO (SO 0) fl 100 Try.f104 (bodyOf Try.f104) [x, y] σ = then2 ((extA σ .compare [x, y]).map fun r => (r, σ)) (fun v σ1 => some (v, σ1)) := by kernel_rfl

def lenT (k : Option PV) : List (List UInt8) → Option PV
  | [] => k
  | s :: r => bif decide ((s.length : Int) > 100) then some (.bool true) else lenT k r

/-- The law's last line. -/
def lastT (a b : Fr) (g h : Gi) : Option PV :=
  bif ((a.key.space == a.key.space) && ((a.key.name == a.key.name) && true)) && ((a.name == a.name) && ((a.pt.ad.six == a.pt.ad.six) && ((a.loc == a.loc) && true))) then
    (bif allOf (atC a b) a b == allOf (atR a b) a b then
      (bif (atC a b == 0) == (atR a b == 0) then some (.bool (giOf (kyC g.key h.key) g h == giOf (kyR g.key h.key) g h)) else some (.bool false))
    else some (.bool false))
  else some (.bool false)

theorem t4 (a b : Fr) (g h : Gi) : bodyV EO (SO 6) 0 100 Try.f4 (bodyOf Try.f4) [.agg a.cs, .agg b.cs, .agg (g.cs ++ h.cs)] [] =
    lenT (lastT a b g h) [a.name, b.name, a.key.space, a.key.name, b.key.space, b.key.name, g.name, h.name, g.key.space, g.key.name, h.key.space, h.key.name] := by kernel_rfl

end Go.Proofs.Ytbnfofcbajaiiaa.Am
