/- Which kinds of cells the types of this program have, and how its functions are called. -/
import Derived.Test.YtbnfofcbajaiiaaProg
import Derived.Test.YtbnfofcbajaiiaaDat
import Derived.KernelRfl
set_option linter.unusedVariables false
namespace Go.Proofs.Ytbnfofcbajaiiaa.Am

def kindsT (t : Nat) : List Kd := match t with
  | 2 => [.int .i64]
  | 3 => [.int .i64]
  | 4 => [.bool]
  | 5 => [.int .u8]
  | 6 => [.int .u8]
  | 7 => [.int .i64, .int .i64, .bool, .int .u8]
  | 8 => [.int .i64, .int .i64, .bool, .int .u8]
  | 9 => [.str]
  | 10 => [.str]
  | 11 => [.str]
  | 12 => [.int .u64]
  | 13 => [.str, .int .u64]
  | 14 => [.str, .int .u64]
  | 21 => [.int .i32]
  | 22 => [.sl 1]
  | 26 => [.sl 3]
  | 28 => [.sl 3]
  | 33 => [.int .u8, .int .u8, .int .u8, .int .u8, .int .u8, .int .u8, .int .u8, .int .u8, .int .u8, .int .u8, .int .u8, .int .u8, .int .u8, .int .u8, .int .u8, .int .u8]
  | 34 => [.bool, .int .u8, .int .u8, .int .u8, .int .u8, .int .u8, .int .u8, .int .u8, .int .u8, .int .u8, .int .u8, .int .u8, .int .u8, .int .u8, .int .u8, .int .u8, .int .u8]
  | 35 => [.bool, .int .u8, .int .u8, .int .u8, .int .u8, .int .u8, .int .u8, .int .u8, .int .u8, .int .u8, .int .u8, .int .u8, .int .u8, .int .u8, .int .u8, .int .u8, .int .u8]
  | 36 => [.bool, .int .u8, .int .u8, .int .u8, .int .u8, .int .u8, .int .u8, .int .u8, .int .u8, .int .u8, .int .u8, .int .u8, .int .u8, .int .u8, .int .u8, .int .u8, .int .u8, .int .i64]
  | 37 => [.bool, .int .u8, .int .u8, .int .u8, .int .u8, .int .u8, .int .u8, .int .u8, .int .u8, .int .u8, .int .u8, .int .u8, .int .u8, .int .u8, .int .u8, .int .u8, .int .u8, .int .i64]
  | 38 => [.str, .str]
  | 39 => [.str, .str]
  | 40 => [.int .i64, .bool, .int .u8, .int .u8, .int .u8, .int .u8, .int .u8, .int .u8, .int .u8, .int .u8, .int .u8, .int .u8, .int .u8, .int .u8, .int .u8, .int .u8, .int .u8, .int .u8, .int .i64, .str, .str, .str, .int .i64, .bool, .bool, .int .i64]
  | 41 => [.int .i64, .bool, .int .u8, .int .u8, .int .u8, .int .u8, .int .u8, .int .u8, .int .u8, .int .u8, .int .u8, .int .u8, .int .u8, .int .u8, .int .u8, .int .u8, .int .u8, .int .u8, .int .i64, .str, .str, .str, .int .i64, .bool, .bool, .int .i64]
  | 42 => [.str, .str, .str, .bool, .bool]
  | 43 => [.str, .str, .str, .bool, .bool]
  | 44 => [.str, .str, .str, .bool, .bool, .str, .str, .str, .bool, .bool]
  | 45 => [.sl 1]
  | 46 => [.int .i64, .bool, .int .u8, .int .u8, .int .u8, .int .u8, .int .u8, .int .u8, .int .u8, .int .u8, .int .u8, .int .u8, .int .u8, .int .u8, .int .u8, .int .u8, .int .u8, .int .u8, .int .i64, .str, .str, .str, .int .i64, .bool, .bool, .int .i64]
  | 47 => [.str, .str, .str, .bool, .bool]
  | 56 => [.sl 26]
  | 57 => [.sl 8]
  | 58 => [.sl 3]
  | 59 => [.sl 26, .sl 8, .sl 3]
  | 60 => [.sl 26, .sl 8, .sl 3]
  | 62 => [.sl 26]
  | 63 => [.sl 8]
  | 64 => [.sl 3]
  | 65 => [.sl 26, .sl 8, .sl 3]
  | 66 => [.sl 26, .sl 8, .sl 3]
  | 68 => [.sl 18]
  | 69 => [.str, .str, .sl 18]
  | 70 => [.str, .str, .sl 18]
  | 73 => [.str, .str, .sl 18]
  | 74 => [.sl 18]
  | 75 => [.sl 1]
  | 76 => [.int .i64, .sl 18, .sl 1]
  | 77 => [.int .i64, .sl 18, .sl 1]
  | 78 => [.str, .str, .str, .bool, .bool, .int .i64, .sl 18, .sl 1]
  | 79 => [.str, .str, .str, .bool, .bool, .int .i64, .sl 18, .sl 1]
  | 82 => [.int .i64, .sl 18, .sl 1]
  | 83 => [.str, .str, .str, .bool, .bool, .int .i64, .sl 18, .sl 1]
  | 84 => [.str, .str, .str, .bool, .bool, .int .i64, .sl 18, .sl 1]
  | 88 => [.sl 3]
  | 91 => [.sl 2]
  | 92 => [.sl 3]
  | 97 => [.int .i64, .int .i64, .sl 1]
  | 98 => [.int .i64, .int .i64, .sl 1]
  | 99 => [.int .i64, .int .i64, .sl 1]
  | 101 => [.sl 1]
  | 102 => [.sl 1]
  | 115 => [.bool, .int .u8, .int .u8, .int .u8, .int .u8, .int .u8, .int .u8, .int .u8, .int .u8, .int .u8, .int .u8, .int .u8, .int .u8, .int .u8, .int .u8, .int .u8, .int .u8, .int .i64]
  | 116 => [.bool, .int .u8, .int .u8, .int .u8, .int .u8, .int .u8, .int .u8, .int .u8, .int .u8, .int .u8, .int .u8, .int .u8, .int .u8, .int .u8, .int .u8, .int .u8, .int .u8, .int .i64]
  | _ => []

/-- Who is called with a store of its own. -/
def apartT (f : Nat) : Bool := match f with
  | 7 | 9 | 10 | 11 | 12 | 38 | 39 => true
  | _ => false

/-- slices.Clone, by its elements' cells. -/
def cloneT (f : Nat) : Option Nat := match f with
  | 74 => some 1
  | _ => none

noncomputable def EN0 : Env := ⟨Try.prog, fun f => if f = 108 then some .compare else none, fun _ => none, [35, 37, 39, 41, 43, 46, 47], fun _ => false, apartT, kindsT, true, fun _ _ => none, fun _ => none⟩

noncomputable def EN : Env := { EN0 with seals := fun f => (cloneT f).isSome, clone := cloneT }

end Go.Proofs.Ytbnfofcbajaiiaa.Am
