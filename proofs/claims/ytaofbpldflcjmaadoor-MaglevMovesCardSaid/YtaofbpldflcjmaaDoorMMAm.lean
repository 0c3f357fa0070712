/- A deterministic, computable interpreter of the model's code over pure values, with a store of its own for what a call makes: definitions alone. -/
import Derived.Calls
import Derived.Orders
set_option linter.unusedVariables false
namespace Go.Proofs.YtaofbpldflcjmaaDoor.Am
section
inductive PV where
  | bool (b : Bool)
  | int (k : IntKind) (n : Int)
  | str (s : List UInt8)
  | nilp
  | ptr (id blen off : Nat)
  | eptr (cells : List PV) (off : Nat)
  | glob (g off : Nat)
  | gptr (g : Nat)
  | nils
  | sl (cells : List PV) (es len : Nat) (xc : Option Nat)
  | sln (es : Nat)
  | osl (id blen coff es len : Nat) (xc : Option Nat)
  | agg (cells : List PV)
  | fn (f : Fn) (first captured : List PV)
  | nilfn
  | iface (t : TypeId) (v : PV)
  | nilif
  | tup (vs : List PV)
  | nilm
  | mp (id : Nat)
  
  | yld
  deriving Inhabited
structure Mem where
  cells : List PV
  size : Nat
  len : Nat
  exact : Bool
  ice : Bool
  box : Bool
  deriving Inhabited
structure MapO where
  es : List (PV × PV)
  born : List Nat
  clock : Nat
  iter : Option (Option Nat × Nat × List Nat × Nat)
  deriving Inhabited
inductive Ob where
  | mem (m : Mem)
  | map (m : MapO)
  deriving Inhabited
abbrev Store := List Ob
inductive Ext where
  | compare
  deriving DecidableEq, Inhabited
inductive Kd where
  | int (k : IntKind)
  | bool
  | str
  | sl (es : Nat)
  | raw
  deriving Inhabited
structure Env where
  P : Program
  
  ext : FuncId -> Option Ext
  
  G : Nat -> Option (List PV)
  
  plain : List TypeId
  
  seals : FuncId -> Bool
  
  apart : FuncId -> Bool
  
  kinds : TypeId -> List Kd
  
  trim : Bool
  
  pure : FuncId -> List PV -> Option PV
  
  clone : FuncId -> Option Nat
  
  foot : FuncId -> Bool
  
  prim : FuncId -> List PV -> List Ob -> Nat -> Option (Bool × PV × List Ob)
def PV.cells : PV -> List PV
  | .agg cs => cs
  | x => [x]
def PV.isAgg : PV -> Bool
  | .agg _ => true
  | _ => false
def PV.oneCell : PV -> Bool
  | .agg _ | .tup _ => false
  | _ => true
def ofCell : Value -> Option PV
  | .bool b => some (.bool b)
  | .int k n => some (.int k n)
  | .string s => some (.str s.data.toList)
  | .pointer none => some .nilp
  | .slice none 0 0 => some .nils
  | .nilFunc => some .nilfn
  | .nilIface => some .nilif
  | .map none => some .nilm
  | _ => none
def ofCells : List Value -> Option (List PV)
  | [] => some []
  | v :: vs => match ofCell v, ofCells vs with
    | some x, some xs => some (x :: xs)
    | _, _ => none
def ofConst : Value -> Option PV
  | .agg cs => (ofCells cs.toList).map .agg
  | v => ofCell v
def getMem (σ : Store) (id : Nat) : Option Mem :=
  match σ[id]? with
  | some (.mem m) => some m
  | _ => none
def getMap (σ : Store) (id : Nat) : Option MapO :=
  match σ[id]? with
  | some (.map m) => match m.iter with
    | none => some m
    | some _ => none
  | _ => none
def splice (cells : List PV) (off : Nat) (new : List PV) : List PV := cells.take off ++ (new ++ cells.drop (off + new.length))
def cellsAt (E : Env) (σ : Store) (a : PV) (n : Nat) : Option (List PV) :=
  match a with
  | .ptr id blen off => match getMem σ id with
    | some m => if m.len = blen /\ off + n <= m.cells.length then some ((m.cells.drop off).take n) else none
    | none => none
  | .eptr cells off => if off + n <= cells.length then some ((cells.drop off).take n) else none
  | .glob g off => match E.G g with
    | some cells => if off + n <= cells.length then some ((cells.drop off).take n) else none
    | none => none
  | _ => none
def sizeT (P : Program) (t : TypeId) : Option Nat := (P.info? t).map (·.size)
def aggT (P : Program) (t : TypeId) : Option Bool :=
  match P.underlying t with
  | some (.struct _) | some (.array _ _) => some true
  | some _ => some false
  | none => none
def zeroT (P : Program) (t : TypeId) : Option PV :=
  match P.info? t with
  | some i => i.zero.bind ofConst
  | none => none
def loadRaw (E : Env) (σ : Store) (t : TypeId) (a : PV) : Option PV :=
  match aggT E.P t with
  | some true => match sizeT E.P t with
    | some n => (cellsAt E σ a n).map .agg
    | none => none
  | some false => match cellsAt E σ a 1 with
    | some [x] => some x
    | _ => none
  | none => none
def viewC (k : Kd) (x : PV) : PV :=
  match k, x with
  | .sl es, .nils => .sl [] es 0 (some 0)
  | _, x => x
def viewW (k : Kd) (x : PV) : PV :=
  match k, x with
  | .sl es, .nils => .sl [] es 0 none
  | .sl _, .sl c es n _ => .sl c es n none
  | _, x => x
def viewL : List Kd -> List PV -> List PV
  | k :: ks, x :: xs => viewW k x :: viewL ks xs
  | _, xs => xs
def viewV (ks : List Kd) (v : PV) : PV :=
  match ks, v with
  | [], v => v
  | ks, .agg cs => .agg (viewL ks cs)
  | k :: _, v => viewC k v
def loadAt (E : Env) (σ : Store) (t : TypeId) (a : PV) : Option PV := (loadRaw E σ t a).map (viewV (E.kinds t))
def storeAt (E : Env) (fl : Nat) (σ : Store) (t : TypeId) (a v : PV) : Option Store :=
  match a with
  | .ptr id blen off => match getMem σ id, sizeT E.P t with
    | some m, some n =>
      if fl <= id /\ m.ice = false /\ m.len = blen /\ v.cells.length = n /\ off + n <= m.cells.length /\ v.cells.all PV.oneCell = true then
        some (σ.set id (.mem { m with cells := splice m.cells off v.cells }))
      else none
    | _, _ => none
  | _ => none
def addOff (a : PV) (n : Nat) : Option PV :=
  match a with
  | .ptr id blen off => some (.ptr id blen (off + n))
  | .eptr cells off => some (.eptr cells (off + n))
  | .glob g off => some (.glob g (off + n))
  | _ => none
def fillL (place : Nat -> Option (Nat × Nat)) (cells : List PV) : List (Nat × PV) -> Option (List PV)
  | [] => some cells
  | (i, v) :: rest =>
    match place i with
    | none => none
    | some (off, size) =>
      if v.cells.length ≠ size ∨ off + v.cells.length > cells.length ∨ v.cells.all PV.oneCell = false then none
      else fillL place (splice cells off v.cells) rest
def fieldPlaces (P : Program) (fs : Array Field) : Nat -> Option (Nat × Nat) := fun i =>
  match fs[i]? with
  | some f => (sizeT P f.type).map fun s => (f.offset, s)
  | none => none
def repCells (z : List PV) : Nat -> List PV
  | 0 => []
  | n + 1 => z ++ repCells z n
def buildA (E : Env) (t : TypeId) (parts : List (Nat × PV)) : Option PV :=
  match zeroT E.P t, E.P.underlying t with
  | some z, some (.struct fs) => if fs.toList.all (fun f => (sizeT E.P f.type).isSome) then (fillL (fieldPlaces E.P fs) z.cells parts).map .agg else none
  | some z, some (.array _ e) => match sizeT E.P e with
    | some s => (fillL (fun i => some (i * s, s)) z.cells parts).map .agg
    | none => none
  | _, _ => none
def freezeId (σ : Store) (id : Nat) : Store :=
  match σ[id]? with
  | some (.mem m) => σ.set id (.mem { m with ice := true })
  | _ => σ
def PV.calm : PV -> Bool
  | .osl .. => false
  | _ => true
def sealCells (fuel : Nat) (σ : Store) (xs : List PV) : Option (List PV × Store) :=
  match fuel with
  | 0 => none
  | fuel + 1 =>
    if xs.all PV.calm then some (xs, σ) else
    match xs with
    | [] => some ([], σ)
    | .osl id blen coff es len xc :: rest =>
      match getMem σ id with
      | some m =>
        if m.len = blen /\ coff + len * es <= m.cells.length /\ 0 < es then
          match sealCells fuel (freezeId σ id) ((m.cells.drop coff).take (len * es)) with
          | some (cs, σ1) => match sealCells fuel σ1 rest with
            | some (rs, σ2) => some (.sl cs es len none :: rs, σ2)
            | none => none
          | none => none
        else none
      | none => none
    | x :: rest => match sealCells fuel σ rest with
      | some (rs, σ2) => some (x :: rs, σ2)
      | none => none
def sealList (σ : Store) (xs : List PV) : Option (List PV × Store) :=
  if xs.all PV.calm then some (xs, σ) else sealCells (xs.length + 4000) σ xs
def sealV (σ : Store) (x : PV) : Option (PV × Store) :=
  match x with
  | .agg cs => if cs.all PV.oneCell then (sealList σ cs).map fun (cs, σ) => (.agg cs, σ) else none
  | .osl .. => match sealList σ [x] with
    | some ([y], σ) => some (y, σ)
    | _ => none
  | x => some (x, σ)
def sealParts (σ : Store) : List (Nat × PV) -> Option (List (Nat × PV) × Store)
  | [] => some ([], σ)
  | (i, x) :: rest => match sealV σ x with
    | some (y, σ1) => match sealParts σ1 rest with
      | some (ys, σ2) => some ((i, y) :: ys, σ2)
      | none => none
    | none => none
def sealArgs (σ : Store) : List PV -> Option (List PV × Store)
  | [] => some ([], σ)
  | x :: rest => match sealV σ x with
    | some (y, σ1) => match sealArgs σ1 rest with
      | some (ys, σ2) => some (y :: ys, σ2)
      | none => none
    | none => none
def sealP (σ : Store) (x : PV) : Option (PV × Store) :=
  match x with
  | .ptr id blen off => match getMem σ id with
    | some m => if m.len = blen /\ m.cells.all PV.calm = true then some (.eptr m.cells off, freezeId σ id) else none
    | none => none
  | x => sealV σ x
def sealPA (σ : Store) : List PV -> Option (List PV × Store)
  | [] => some ([], σ)
  | x :: rest => match sealP σ x with
    | some (y, σ1) => match sealPA σ1 rest with
      | some (ys, σ2) => some (y :: ys, σ2)
      | none => none
    | none => none
def buildSliceA (E : Env) (σ : Store) (t : TypeId) (n : Nat) (parts : List (Nat × PV)) : Option (PV × Store) :=
  match E.P.underlying t with
  | some (.slice e) => match sizeT E.P e, zeroT E.P e, sealParts σ parts with
    | some s, some z, some (ps, σ1) =>
      if 0 < s /\ n * s <= 16777216 /\ z.cells.length = s then
        (fillL (fun i => some (i * s, s)) (repCells z.cells n) ps).map fun cells => (.sl cells s n (some n), σ1)
      else none
    | _, _, _ => none
  | _ => none
def intOp (op : BinOp) (k : IntKind) (a b : Int) : Option PV :=
  match op with
  | .add => some (.int k (k.wrap (a + b)))
  | .sub => some (.int k (k.wrap (a - b)))
  | .mul => some (.int k (k.wrap (a * b)))
  | .quo => if b = 0 then none else some (.int k (k.wrap (a.tdiv b)))
  | .rem => if b = 0 then none else some (.int k (a.tmod b))
  | .and => some (.int k (k.wrap (BitVec.ofInt k.bits a &&& BitVec.ofInt k.bits b).toNat))
  | .or => some (.int k (k.wrap (BitVec.ofInt k.bits a ||| BitVec.ofInt k.bits b).toNat))
  | .xor => some (.int k (k.wrap (BitVec.ofInt k.bits a ^^^ BitVec.ofInt k.bits b).toNat))
  | .andNot => some (.int k (k.wrap (BitVec.ofInt k.bits a &&& ~~~BitVec.ofInt k.bits b).toNat))
  | .eql => some (.bool (a == b))
  | .neq => some (.bool (a != b))
  | .lss => some (.bool (decide (a < b)))
  | .leq => some (.bool (decide (a <= b)))
  | .gtr => some (.bool (decide (a > b)))
  | .geq => some (.bool (decide (a ≥ b)))
  | _ => none
def shiftOp (op : BinOp) (k : IntKind) (a b : Int) : Option PV :=
  if b < 0 then none else
  match op with
  | .shl => some (.int k (k.wrap (a * 2 ^ (min b.toNat k.bits))))
  | .shr => some (.int k (a.fdiv (2 ^ (min b.toNat k.bits))))
  | _ => none
def strOp (op : BinOp) (a b : List UInt8) : Option PV :=
  match op with
  | .add => if a.length + b.length <= 4611686018427387904 then some (.str (a ++ b)) else none
  | .eql => some (.bool (a == b))
  | .neq => some (.bool !(a == b))
  | .lss => some (.bool (Op.bytesLess a b))
  | .leq => some (.bool (Op.bytesLess a b || a == b))
  | .gtr => some (.bool !(Op.bytesLess a b || a == b))
  | .geq => some (.bool !(Op.bytesLess a b))
  | _ => none
def andB (x y : Option Bool) : Option Bool :=
  match x, y with
  | some a, some b => some (a && b)
  | _, _ => none
def eqFields (eq : TypeId -> PV -> PV -> Option Bool) (P : Program) (xs ys : List PV) : List Field -> Option Bool
  | [] => some true
  | f :: rest =>
    if f.name = "_" then none else
    match sizeT P f.type, aggT P f.type with
    | some s, some true =>
      if f.offset + s <= xs.length /\ f.offset + s <= ys.length then
        andB (eq f.type (.agg ((xs.drop f.offset).take s)) (.agg ((ys.drop f.offset).take s))) (eqFields eq P xs ys rest)
      else none
    | some _, some false => match xs[f.offset]?, ys[f.offset]? with
      | some x, some y => andB (eq f.type x y) (eqFields eq P xs ys rest)
      | _, _ => none
    | _, _ => none
def eqElems (eq : PV -> PV -> Option Bool) (agg : Bool) (s : Nat) (xs ys : List PV) (i : Nat) : Nat -> Option Bool
  | 0 => some true
  | n + 1 =>
    if agg then
      if i * s + s <= xs.length /\ i * s + s <= ys.length then andB (eq (.agg ((xs.drop (i * s)).take s)) (.agg ((ys.drop (i * s)).take s))) (eqElems eq agg s xs ys (i + 1) n) else none
    else match xs[i * s]?, ys[i * s]? with
      | some x, some y => andB (eq x y) (eqElems eq agg s xs ys (i + 1) n)
      | _, _ => none
def eqA (E : Env) : Nat -> TypeId -> PV -> PV -> Option Bool
  | 0, _, _, _ => none
  | d + 1, t, x, y =>
    match E.P.underlying t, x, y with
    | some .bool, .bool a, .bool b => some (a == b)
    | some (.int _), .int k a, .int k' b => if k = k' then some (a == b) else none
    | some .string, .str a, .str b => some (a == b)
    | some (.pointer _), .nilp, .nilp => some true
    | some (.pointer _), .nilp, .ptr .. | some (.pointer _), .nilp, .eptr .. | some (.pointer _), .nilp, .glob .. | some (.pointer _), .nilp, .gptr ..
    | some (.pointer _), .ptr .., .nilp | some (.pointer _), .eptr .., .nilp | some (.pointer _), .glob .., .nilp | some (.pointer _), .gptr .., .nilp => some false
    | some (.interface _), .nilif, .nilif => some true
    | some (.interface _), .nilif, .iface .. | some (.interface _), .iface .., .nilif => some false
    | some (.slice _), .nils, .nils => some true
    | some (.slice _), .nils, .sl _ _ n _ | some (.slice _), .sl _ _ n _, .nils => if n = 0 then none else some false
    | some (.slice _), .nils, .sln _ | some (.slice _), .sln _, .nils => some false
    | some (.slice _), .nils, .osl .. | some (.slice _), .osl .., .nils => some false
    | some (.map _ _), .nilm, .nilm => some true
    | some (.map _ _), .nilm, .mp _ | some (.map _ _), .mp _, .nilm => some false
    | some (.func ..), .nilfn, .nilfn => some true
    | some (.func ..), .nilfn, .fn .. | some (.func ..), .fn .., .nilfn => some false
    | some (.struct fs), .agg xs, .agg ys => if E.plain.contains t then eqFields (eqA E d) E.P xs ys fs.toList else none
    | some (.array n e), .agg xs, .agg ys => match sizeT E.P e, aggT E.P e with
      | some s, some g => eqElems (eqA E d e) g s xs ys 0 n
      | _, _ => none
    | _, _, _ => none
def isConst : Operand -> Bool
  | .const _ => true
  | _ => false
def eqGuardOk (E : Env) (t : TypeId) (x y : Operand) (a b : PV) : Bool :=
  match a, b with
  | .nilif, .nilif => isConst x || isConst y
  | .agg _, .agg _ => E.plain.contains t
  | _, _ => true
def binA (E : Env) (op : BinOp) (t : TypeId) (x y : Operand) (a b : PV) : Option PV :=
  match op, a, b with
  | .shl, .int k a, .int _ b | .shr, .int k a, .int _ b => shiftOp op k a b
  | _, .int k a, .int k' b => if k = k' then intOp op k a b else none
  | _, .str a, .str b => strOp op a b
  | .eql, a, b => if eqGuardOk E t x y a b then (eqA E 50 t a b).map .bool else none
  | .neq, a, b => if eqGuardOk E t x y a b then (eqA E 50 t a b).map fun r => .bool !r else none
  | _, _, _ => none
def unA (op : UnOp) (x : PV) : Option PV :=
  match op, x with
  | .neg, .int k n => intOp .sub k 0 n
  | .xor, .int k n => intOp .xor k (if k.signed then -1 else k.max) n
  | .not, .bool b => some (.bool !b)
  | _, _ => none
def bytesOf : List PV -> Option (List UInt8)
  | [] => some []
  | .int .u8 n :: rest => (bytesOf rest).map (UInt8.ofNat n.toNat :: ·)
  | _ :: _ => none
def viewCells (σ : Store) (x : PV) : Option (List PV) :=
  match x with
  | .nils => some []
  | .sl cells _ _ _ => some cells
  | .sln _ => some []
  | .osl id blen coff es len _ => match getMem σ id with
    | some m => if m.len = blen /\ coff + len * es <= m.cells.length then some ((m.cells.drop coff).take (len * es)) else none
    | none => none
  | _ => none
def lenA (x : PV) : Option Nat :=
  match x with
  | .nils => some 0
  | .sl _ _ n _ => some n
  | .sln _ => some 0
  | .osl _ _ _ _ n _ => some n
  | .str s => some s.length
  | _ => none
def convA (E : Env) (σ : Store) (src dst : TypeId) (x : PV) : Option PV :=
  match E.P.underlying src, E.P.underlying dst, x with
  | some _, some (.int k), .int _ n => some (.int k (k.wrap n))
  | some _, some .string, .str s => some (.str s)
  | some _, some (.slice e), .str s => match E.P.underlying e with
    | some (.int .u8) => some (.sl (s.map fun b => .int .u8 b.toNat) 1 s.length none)
    | _ => none
  | some (.slice e), some .string, x => match E.P.underlying e with
    | some (.int .u8) => match viewCells σ x, lenA x with
      | some cells, some n => if cells.length = n then (bytesOf cells).map .str else none
      | _, _ => none
    | _ => none
  | _, _, _ => none
def goInt (n : Nat) : PV := .int .i64 n
def boundA (x : PV) (y : Nat) : Option Nat :=
  match x with
  | .int _ i => if 0 <= i /\ i <= y then some i.toNat else none
  | _ => none
def optBound (x : Option PV) (dflt y : Nat) : Option Nat :=
  match x with
  | none => some dflt
  | some v => boundA v y
def roomA (xc : Option Nat) (m : Mem) (s coff len : Nat) : Nat :=
  match xc with
  | some c => c
  | none => if m.size = s then m.len - coff / s else len
def capA (mx : Option PV) (xc : Option Nat) (m l : Nat) : Option Nat :=
  match mx with
  | some _ => some (m - l)
  | none => xc.map (· - l)
def sliceSl (σ : Store) (s : Nat) (x : PV) (lo hi mx : Option PV) : Option PV :=
  match x with
  | .nils => match optBound mx 0 0 with
    | some m => match optBound hi 0 m with
      | some h => match optBound lo 0 h with
        | some _ => some .nils
        | none => none
      | none => none
    | none => none
  | .sl cells es len xc =>
    if es ≠ s then none else
    match optBound mx len len with
    | some m => match optBound hi len m with
      | some h => match optBound lo 0 h with
        | some l => some (.sl ((cells.drop (l * s)).take ((h - l) * s)) s (h - l) (capA mx xc m l))
        | none => none
      | none => none
    | none => none
  | .sln es =>
    if es ≠ s then none else
    match mx with
    | some _ => match optBound mx 0 0 with
      | some m => match optBound hi 0 m with
        | some h => match optBound lo 0 h with
          | some _ => some (.sl [] s 0 (some 0))
          | none => none
        | none => none
      | none => none
    | none => none
  | .osl id blen coff es len xc =>
    if es ≠ s then none else
    match getMem σ id with
    | some m =>
      if m.len = blen /\ coff + len * s <= m.cells.length then
        match optBound mx (roomA xc m s coff len) (roomA xc m s coff len) with
        | some q => match optBound hi len q with
          | some h => match optBound lo 0 h with
            | some l =>
              if l = h /\ 0 < l then some (.sl [] s 0 (capA mx xc q l)) else some (.osl id blen (coff + l * s) s (h - l) (capA mx xc q l))
            | none => none
          | none => none
        | none => none
      else none
    | none => none
  | _ => none
def sliceA (E : Env) (σ : Store) (t : TypeId) (x : PV) (lo hi mx : Option PV) : Option PV :=
  if hi.isNone && mx.isSome then none else
  match E.P.underlying t, x with
  | some .string, .str s => match mx with
    | some _ => none
    | none => match optBound hi s.length s.length with
      | some h => match optBound lo 0 h with
        | some l => some (.str ((s.drop l).take (h - l)))
        | none => none
      | none => none
  | some (.slice e), x => match sizeT E.P e with
    | some s => if 0 < s then sliceSl σ s x lo hi mx else none
    | none => none
  | some (.array n e), x => match sizeT E.P e with
    | some s =>
      if s = 0 then none else
      match optBound mx n n with
      | some m => match optBound hi n m with
        | some h => match optBound lo 0 h with
          | some l =>
            if l = h then (match x with | .ptr .. | .eptr .. | .glob .. => some (.sl [] s 0 (some (m - l))) | _ => none) else
            match x with
            | .ptr id blen off => some (.osl id blen (off + l * s) s (h - l) (some (m - l)))
            | .eptr cells off => if off + h * s <= cells.length then some (.sl ((cells.drop (off + l * s)).take ((h - l) * s)) s (h - l) (some (m - l))) else none
            | .glob g off => match E.G g with
              | some cells => if off + h * s <= cells.length then some (.sl ((cells.drop (off + l * s)).take ((h - l) * s)) s (h - l) (some (m - l))) else none
              | none => none
            | _ => none
          | none => none
        | none => none
      | none => none
    | none => none
  | _, _ => none
def fieldAddrA (E : Env) (t : TypeId) (x : PV) (f : Nat) : Option PV :=
  match E.P.underlying t with
  | some (.struct fs) => match fs[f]? with
    | some fd => match sizeT E.P fd.type with
      | some s => if s = 0 then none else addOff x fd.offset
      | none => none
    | none => none
  | _ => none
def partA (E : Env) (t : TypeId) (cs : List PV) (off : Nat) : Option PV :=
  match aggT E.P t, sizeT E.P t with
  | some true, some n => if off + n <= cs.length then some (.agg ((cs.drop off).take n)) else none
  | some false, some _ => cs[off]?
  | _, _ => none
def fieldA (E : Env) (t : TypeId) (x : PV) (f : Nat) : Option PV :=
  match E.P.underlying t, x with
  | some (.struct fs), .agg cs => match fs[f]? with
    | some fd => partA E fd.type cs fd.offset
    | none => none
  | _, _ => none
def indexAddrA (E : Env) (t : TypeId) (x i : PV) : Option PV :=
  match i, E.P.underlying t, x with
  | .int _ i, some (.array n e), x => match sizeT E.P e with
    | some s => if 0 <= i /\ i < (n : Int) then addOff x (i.toNat * s) else none
    | none => none
  | .int _ i, some (.slice e), .sl cells es len _ => match sizeT E.P e with
    | some s => if 0 <= i /\ i < (len : Int) /\ es = s /\ 0 < s then some (.eptr cells (i.toNat * s)) else none
    | none => none
  | .int _ i, some (.slice e), .osl id blen coff es len _ => match sizeT E.P e with
    | some s => if 0 <= i /\ i < (len : Int) /\ es = s then some (.ptr id blen (coff + i.toNat * s)) else none
    | none => none
  | _, _, _ => none
def indexA (E : Env) (t : TypeId) (x i : PV) : Option PV :=
  match i, E.P.underlying t, x with
  | .int _ i, some (.array n e), .agg cs => match sizeT E.P e with
    | some s => if 0 <= i /\ i < (n : Int) then partA E e cs (i.toNat * s) else none
    | none => none
  | .int _ i, some .string, .str s => if 0 <= i then (s[i.toNat]?).map fun b => .int .u8 b.toNat else none
  | _, _, _ => none
def makeSliceA (E : Env) (σ : Store) (t : TypeId) (len cap : PV) : Option (PV × Store) :=
  match E.P.underlying t, len, cap with
  | some (.slice e), .int _ l, .int _ c => match E.P.info? e, zeroT E.P e with
    | some i, some z =>
      if 0 <= l /\ l <= c /\ c <= 1048576 /\ i.bytes <= 65536 /\ 0 < i.size /\ z.cells.length = i.size then
        some (.osl σ.length c.toNat 0 i.size l.toNat none, σ ++ [.mem ⟨repCells z.cells c.toNat, i.size, c.toNat, true, false, false⟩])
      else none
    | _, _ => none
  | _, _, _ => none
def ptrT (P : Program) (t : TypeId) : Bool := match P.underlying t with
  | some (.pointer _) => true
  | _ => false
def appendA (E : Env) (fl : Nat) (σ : Store) (e : TypeId) (x : PV) (n : Nat) (new : List PV) : Option (PV × Store) :=
  match E.P.info? e, zeroT E.P e with
  | some i, some z =>
    let s := i.size
    if 0 < s /\ z.cells.length = s /\ new.length = n * s /\ i.bytes <= 65536 then
      if n = 0 then (match x with | .nils | .sl .. | .sln _ | .osl .. => some (x, σ) | _ => none) else
      match x with
      | .nils => if n <= 1048576 then some (.osl σ.length n 0 s n none, σ ++ [.mem ⟨new, s, n, false, false, ptrT E.P e⟩]) else none
      | .sl cells es len (some c) =>
        if es = s /\ c < len + n /\ len + n <= 1048576 /\ cells.all PV.oneCell = true then some (.osl σ.length (len + n) 0 s (len + n) none, σ ++ [.mem ⟨cells ++ new, s, len + n, false, false, false⟩]) else none
      | .osl id blen coff es len none => match getMem σ id with
        | some m =>
          if es = s /\ m.size = s /\ m.len = blen /\ m.ice = false /\ fl <= id /\ m.len <= 1048576 /\ n <= 1048576 /\ coff + len * s <= m.cells.length then
            if coff / s + len + n <= m.len then
              some (.osl id blen coff s (len + n) none, σ.set id (.mem { m with cells := splice m.cells (coff + len * s) new }))
            else if coff = 0 then
              some (.osl id (len + n) 0 s (len + n) none, σ.set id (.mem { m with cells := m.cells.take (len * s) ++ new, len := len + n, exact := false }))
            else none
          else none
        | none => none
      | _ => none
    else none
  | _, _ => none
def sourceA (E : Env) (σ : Store) (zeros : Bool) (e : TypeId) (x : PV) : Option (Nat × List PV) :=
  if zeros then
    match x, zeroT E.P e with
    | .int .i64 n, some z => if 0 <= n /\ n <= 1048576 /\ 0 < z.cells.length then some (n.toNat, repCells z.cells n.toNat) else none
    | _, _ => none
  else match x with
    | .str s => some (s.length, s.map fun b => .int .u8 b.toNat)
    | x => match lenA x, viewCells σ x with
      | some n, some cs => some (n, cs)
      | _, _ => none
def writeCells (fl : Nat) (σ : Store) (id blen coff : Nat) (new : List PV) : Option Store :=
  match getMem σ id with
  | some m =>
    if fl <= id /\ m.ice = false /\ m.len = blen /\ coff + new.length <= m.cells.length then
      some (σ.set id (.mem { m with cells := splice m.cells coff new }))
    else none
  | none => none
def mnI (a b : Int) : Int := if b < a then b else a
def mxI (a b : Int) : Int := if b > a then b else a
def minA : PV -> List PV -> Option PV
  | x, [] => some x
  | .int k a, .int _ b :: rest => minA (.int k (mnI a b)) rest
  | _, _ :: _ => none
def maxA : PV -> List PV -> Option PV
  | x, [] => some x
  | .int k a, .int _ b :: rest => maxA (.int k (mxI a b)) rest
  | _, _ :: _ => none
def isIntT (P : Program) (t : Option TypeId) : Option Bool :=
  match t with
  | none => some false
  | some t => match P.underlying t with
    | some (.int _) => some true
    | some (.slice _) => some false
    | some .string => some false
    | _ => none
def keyAt (ok : TypeId -> PV -> Bool) (x : Option PV) (t : TypeId) : Bool :=
  match x with
  | some y => ok t y
  | none => false
def keyOk (E : Env) : Nat -> TypeId -> PV -> Bool
  | 0, _, _ => false
  | d + 1, t, x =>
    match E.P.underlying t, x with
    | some (.struct fs), .agg xs => E.plain.contains t && fs.toList.all fun f => f.name != "_" && keyAt (keyOk E d) (partA E f.type xs f.offset) f.type
    | some (.array n e), .agg xs => match sizeT E.P e with
      | some s => (aggT E.P e).isSome && (List.range n).all fun i => keyAt (keyOk E d) (partA E e xs (i * s)) e
      | none => false
    | some .bool, .bool _ => true
    | some (.int k), .int k' _ => decide (k = k')
    | some .string, .str _ => true
    | _, _ => false
def findM (E : Env) (t : TypeId) (k : PV) : List (PV × PV) -> Nat -> Option (Option Nat)
  | [], _ => some none
  | e :: es, i => match eqA E 50 t k e.1 with
    | some true => some (some i)
    | some false => findM E t k es (i + 1)
    | none => none
def sameC : PV -> PV -> Bool
  | .bool a, .bool b => a == b
  | .int j a, .int k b => decide (j = k) && a == b
  | .str a, .str b => a == b
  | _, _ => false
def sameL : List PV -> List PV -> Bool
  | [], [] => true
  | x :: xs, y :: ys => sameC x y && sameL xs ys
  | _, _ => false
def sameK : PV -> PV -> Bool
  | .agg xs, .agg ys => sameL xs ys
  | x, y => sameC x y
def keyT (E : Env) (t : TypeId) : Option (TypeId × TypeId) :=
  match E.P.underlying t with
  | some (.map k e) => some (k, e)
  | _ => none
def lookA (E : Env) (σ : Store) (t : TypeId) (x k : PV) (ok : Bool) : Option PV :=
  match keyT E t with
  | some (kt, et) =>
    if keyOk E 50 kt k then
      match (match x with | .nilm => some [] | .mp id => (getMap σ id).map MapO.es | _ => none) with
      | some es => match findM E kt k es 0 with
        | some (some i) => match es[i]? with
          | some e => some (if ok then .tup [viewV (E.kinds et) e.2, .bool true] else viewV (E.kinds et) e.2)
          | none => none
        | some none => match zeroT E.P et with
          | some z => some (if ok then .tup [viewV (E.kinds et) z, .bool false] else viewV (E.kinds et) z)
          | none => none
        | none => none
      | none => none
    else none
  | none => none
def putM (E : Env) (kt : TypeId) (m : MapO) (k v : PV) : Option MapO :=
  match findM E kt k m.es 0 with
  | some (some i) => match m.es[i]? with
    | some e => if sameK e.1 k then some { m with es := m.es.set i (k, v) } else none
    | none => none
  | some none => some { m with es := m.es ++ [(k, v)], born := m.born ++ [m.clock], clock := m.clock + 1 }
  | none => none
def updateA (E : Env) (fl : Nat) (σ : Store) (t : TypeId) (x k v : PV) : Option Store :=
  match keyT E t, x with
  | some (kt, _), .mp id =>
    if keyOk E 50 kt k && Nat.ble fl id then
      match getMap σ id with
      | some m => (putM E kt m k v).map fun m' => σ.set id (.map m')
      | none => none
    else none
  | _, _ => none
def entryA (E : Env) (fl : Nat) (σ : Store) (t : TypeId) (x k : PV) : Option (PV × Store) :=
  match keyT E t, x with
  | some (kt, et), .mp id =>
    if keyOk E 50 kt k && Nat.ble fl id then
      match getMap σ id with
      | some m => match findM E kt k m.es 0 with
        | some (some i) => match m.es[i]?, m.born[i]? with
          | some e, some b => if sameK e.1 k then some (.tup [viewV (E.kinds et) e.2, goInt b], σ) else none
          | _, _ => none
        | some none => match zeroT E.P et with
          | some z => some (.tup [viewV (E.kinds et) z, goInt m.clock], σ.set id (.map { m with es := m.es ++ [(k, z)], born := m.born ++ [m.clock], clock := m.clock + 1 }))
          | none => none
        | none => none
      | none => none
    else none
  | _, _ => none
def placeI (b : Int) : List Nat -> Nat -> Option Nat
  | [], _ => none
  | x :: xs, i => if (x : Int) == b then some i else placeI b xs (i + 1)
def entryStoreA (fl : Nat) (σ : Store) (x stamp v : PV) : Option Store :=
  match x, stamp with
  | .mp id, .int _ b =>
    if Nat.ble fl id then
      match getMap σ id with
      | some m => match placeI b m.born 0 with
        | some i => match m.es[i]? with
          | some e => some (σ.set id (.map { m with es := m.es.set i (e.1, v) }))
          | none => none
        | none => none
      | none => none
    else none
  | _, _ => none
def deleteA (E : Env) (fl : Nat) (σ : Store) (t : TypeId) (x k : PV) : Option (PV × Store) :=
  match keyT E t, x with
  | some (kt, _), .nilm => if keyOk E 50 kt k then some (.tup [], σ) else none
  | some (kt, _), .mp id =>
    if keyOk E 50 kt k && Nat.ble fl id then
      match getMap σ id with
      | some m => match findM E kt k m.es 0 with
        | some (some i) => some (.tup [], σ.set id (.map { m with es := m.es.eraseIdx i, born := m.born.eraseIdx i }))
        | some none => some (.tup [], σ)
        | none => none
      | none => none
    else none
  | _, _ => none
def newMap (σ : Store) (m : MapO) : Store := σ ++ [.map m]
def rangeA (E : Env) (σ : Store) (t : TypeId) (x : PV) : Option (PV × Store) :=
  match keyT E t, x with
  | some _, .nilm => some (.ptr σ.length 0 0, newMap σ ⟨[], [], 0, some (none, 0, [], 0)⟩)
  | some _, .mp id => match getMap σ id with
    | some m => some (.ptr σ.length 0 0, newMap σ ⟨[], [], 0, some (some id, m.clock, [], m.clock)⟩)
    | none => none
  | _, _ => none
def leftM (seen : List Nat) : List Nat -> Nat -> List Nat
  | [], _ => []
  | b :: bs, i => if seen.contains b then leftM seen bs (i + 1) else i :: leftM seen bs (i + 1)
def nextA (fl : Nat) (σ : Store) (x : PV) : Option (PV × Store) :=
  match x with
  | .ptr it 0 0 => match σ[it]? with
    | some (.map q) => match q.iter with
      | some (none, _, _, _) => some (.tup [.bool false], σ)
      | some (some id, since, seen, last) => match getMap σ id with
        | some m =>
          if !seen.isEmpty && !m.es.isEmpty && m.born.all (fun b => Nat.ble last b) then none else
          match leftM seen m.born 0 with
          | [] => some (.tup [.bool false], σ)
          | [i] => match m.es[i]?, m.born[i]? with
            | some e, some b => if Nat.blt b since && Nat.ble fl it then some (.tup [.bool true, e.1, e.2], σ.set it (.map { q with iter := some (some id, since, seen ++ [b], m.clock) })) else none
            | _, _ => none
          | _ => none
        | none => none
      | none => none
    | _ => none
  | _ => none
def entryIterA (σ : Store) (x : PV) : Option PV :=
  match x with
  | .ptr it 0 0 => match σ[it]? with
    | some (.map q) => match q.iter with
      | some (some id, _, seen, last) => match getMap σ id, seen.getLast? with
        | some m, some b => if m.clock = last then match placeI b m.born 0 with
            | some i => (m.es[i]?).map fun e => .tup [e.1, e.2]
            | none => none
          else none
        | _, _ => none
      | _ => none
    | _ => none
  | _ => none
def clearM (fl : Nat) (σ : Store) (x : PV) : Option (PV × Store) :=
  match x with
  | .nilm => some (.tup [], σ)
  | .mp id => if Nat.ble fl id then match getMap σ id with
      | some m => some (.tup [], σ.set id (.map { m with es := [], born := [] }))
      | none => none
    else none
  | _ => none
def builtinA (E : Env) (fl : Nat) (σ : Store) (b : Builtin) (argTypes : Array TypeId) (args : List PV) : Option (PV × Store) :=
  match b, args with
  | .len, [x] => match argTypes[0]? with
    | some t => match E.P.underlying t, x with
      | some .string, .str s => some (goInt s.length, σ)
      | some (.array n _), _ => some (goInt n, σ)
      | some (.slice _), x => match x with
        | .nils | .sl .. | .osl .. => (lenA x).map fun n => (goInt n, σ)
        | _ => none
      | some (.map _ _), .nilm => some (goInt 0, σ)
      | some (.map _ _), .mp id => match getMap σ id with
        | some m => some (goInt m.es.length, σ)
        | none => none
      | _, _ => none
    | none => none
  | .cap, [x] => match argTypes[0]? with
    | some t => match E.P.underlying t, x with
      | some (.slice _), .nils => some (goInt 0, σ)
      | some (.slice _), .sl _ _ _ (some c) => some (goInt c, σ)
      | some (.slice _), .osl _ _ _ _ _ (some c) => some (goInt c, σ)
      | some (.slice _), .osl id blen coff es _ none => match getMem σ id with
        | some m => if m.len = blen /\ m.exact = true /\ m.size = es /\ 0 < es /\ coff % es = 0 /\ coff <= m.cells.length then some (goInt (m.len - coff / es), σ) else none
        | none => none
      | _, _ => none
    | none => none
  | .min, x :: rest => (minA x rest).map fun r => (r, σ)
  | .max, x :: rest => (maxA x rest).map fun r => (r, σ)
  | .append, [x, y] => match argTypes[0]?, isIntT E.P argTypes[1]? with
    | some t, some zeros => match E.P.underlying t with
      | some (.slice e) => match sourceA E σ zeros e y with
        | some (n, new) => appendA E fl σ e x n new
        | none => none
      | _ => none
    | _, _ => none
  | .copy, [d, y] => match argTypes[0]? with
    | some t => match E.P.underlying t with
      | some (.slice e) => match sizeT E.P e, sourceA E σ false e y with
        | some s, some (n, new) =>
          if new.length = n * s then
            match d with
            | .nils => some (goInt 0, σ)
            | .sl _ _ 0 _ => some (goInt 0, σ)
            | .osl id blen coff es len _ =>
              if es = s then (writeCells fl σ id blen coff (new.take (Nat.min n len * s))).map fun σ1 => (goInt (Nat.min n len), σ1) else none
            | _ => none
          else none
        | _, _ => none
      | _ => none
    | none => none
  | .clear, [x] => match argTypes[0]? with
    | some t => match E.P.underlying t with
      | some (.slice e) => match x with
        | .nils => some (.tup [], σ)
        | .sl _ _ 0 _ => some (.tup [], σ)
        | .osl _ _ _ _ 0 _ => some (.tup [], σ)
        | .osl id blen coff es len _ => match sizeT E.P e, zeroT E.P e with
          | some s, some z => if es = s /\ z.cells.length = s /\ 0 < s then (writeCells fl σ id blen coff (repCells z.cells len)).map fun σ1 => (.tup [], σ1) else none
          | _, _ => none
        | _ => none
      | some (.map _ _) => clearM fl σ x
      | _ => none
    | none => none
  | .delete, [x, k] => match argTypes[0]? with
    | some t => deleteA E fl σ t x k
    | none => none
  | _, _ => none
abbrev Rec := FuncId -> List PV -> Store -> Nat -> Option (PV × Store)
def cmpBytes : List UInt8 -> List UInt8 -> Int
  | [], [] => 0
  | [], _ :: _ => -1
  | _ :: _, [] => 1
  | a :: x, b :: y => if a = b then cmpBytes x y else if a < b then -1 else 1
def extA (σ : Store) (x : Ext) (args : List PV) : Option PV :=
  match x, args with
  | .compare, [a, b] => match viewCells σ a, viewCells σ b, lenA a, lenA b with
    | some x, some y, some n, some m =>
      if n = x.length /\ m = y.length then
        match bytesOf x, bytesOf y with
        | some p, some q => some (.int .i64 (cmpBytes p q))
        | _, _ => none
      else none
    | _, _, _, _ => none
  | _, _ => none
mutual
def oldV (n : Nat) : PV -> Bool
  | .ptr id _ _ => decide (id < n)
  | .osl id _ _ _ _ _ => decide (id < n)
  | .mp id => decide (id < n)
  | .eptr cells _ => oldL n cells
  | .sl cells _ _ _ => oldL n cells
  | .agg cells => oldL n cells
  | .tup cells => oldL n cells
  | .fn _ a b => oldL n a && oldL n b
  | .iface _ v => oldV n v
  | _ => true
def oldL (n : Nat) : List PV -> Bool
  | [] => true
  | x :: xs => oldV n x && oldL n xs
end
abbrev Slots := List (Option PV)
mutual
def idsV (n : Nat) : PV -> List Nat
  | .ptr id _ _ => if Nat.ble n id then [id] else []
  | .osl id _ _ _ _ _ => if Nat.ble n id then [id] else []
  | .mp id => if Nat.ble n id then [id] else []
  | .agg cs => idsL n cs
  | .tup cs => idsL n cs
  | .fn _ a b => idsL n a ++ idsL n b
  | .iface _ v => idsV n v
  | _ => []
def idsL (n : Nat) : List PV -> List Nat
  | [] => []
  | x :: xs => idsV n x ++ idsL n xs
end
def idsSlots (n : Nat) : Slots -> List Nat
  | [] => []
  | none :: s => idsSlots n s
  | some v :: s => idsV n v ++ idsSlots n s
def idsStore (n : Nat) : Nat -> Store -> List Nat
  | 0, _ => []
  | _, [] => []
  | k + 1, .mem m :: σ => (if m.box then idsL n m.cells else []) ++ idsStore n k σ
  | k + 1, .map _ :: σ => idsStore n k σ
def memN (x : Nat) : List Nat -> Bool
  | [] => false
  | y :: ys => Nat.beq x y || memN x ys
def onceN : List Nat -> List Nat -> List Nat
  | acc, [] => acc
  | acc, x :: xs => if memN x acc then onceN acc xs else onceN (acc ++ [x]) xs
def closeGo (n : Nat) (σ : Store) : Nat -> List Nat -> List Nat -> List Nat
  | 0, _, acc => acc
  | _ + 1, [], acc => acc
  | k + 1, id :: rest, acc =>
    if memN id acc then closeGo n σ k rest acc
    else match σ[id]? with
      | some (.mem m) => closeGo n σ k (rest ++ (if m.box then idsL n m.cells else [])) (acc ++ [id])
      | _ => closeGo n σ k rest (acc ++ [id])
def closeN (n : Nat) (σ : Store) (l : List Nat) : List Nat := closeGo n σ 2000 l []
def placeN (x : Nat) : List Nat -> Nat -> Option Nat
  | [], _ => none
  | y :: ys, i => if Nat.beq x y then some i else placeN x ys (i + 1)
def newId (n : Nat) (L : List Nat) (id : Nat) : Option Nat := if Nat.blt id n then some id else placeN id L n
mutual
def renV (n : Nat) (L : List Nat) : PV -> Option PV
  | .ptr id b o => (newId n L id).map fun id => .ptr id b o
  | .osl id b c e l x => (newId n L id).map fun id => .osl id b c e l x
  | .mp id => (newId n L id).map .mp
  | .eptr cells o => if oldL n cells then some (.eptr cells o) else none
  | .sl cells e l x => if oldL n cells then some (.sl cells e l x) else none
  | .agg cs => (renL n L cs).map .agg
  | .tup cs => (renL n L cs).map .tup
  | .fn f a b => match renL n L a, renL n L b with
    | some a, some b => some (.fn f a b)
    | _, _ => none
  | .iface t v => (renV n L v).map (.iface t)
  | v => some v
def renL (n : Nat) (L : List Nat) : List PV -> Option (List PV)
  | [] => some []
  | x :: xs => match renV n L x, renL n L xs with
    | some x, some xs => some (x :: xs)
    | _, _ => none
end
def renSlots (n : Nat) (L : List Nat) : Slots -> Option Slots
  | [] => some []
  | none :: s => (renSlots n L s).map (none :: ·)
  | some v :: s => match renV n L v, renSlots n L s with
    | some v, some s => some (some v :: s)
    | _, _ => none
def oldE (n : Nat) : List (PV × PV) -> Bool
  | [] => true
  | (k, v) :: es => oldV n k && (oldV n v && oldE n es)
def renOb (n : Nat) (L : List Nat) : Ob -> Option Ob
  | .mem m => if m.box then (renL n L m.cells).map fun cs => .mem { m with cells := cs } else if oldL 0 m.cells then some (.mem m) else none
  | .map m => if m.iter.isNone && oldE 0 m.es then some (.map m) else none
def renStore (n : Nat) (L : List Nat) : List Ob -> Option Store
  | [] => some []
  | o :: os => match renOb n L o, renStore n L os with
    | some o, some os => some (o :: os)
    | _, _ => none
def pickObs (σ : Store) : List Nat -> Option (List Ob)
  | [] => some []
  | id :: ids => match σ[id]?, pickObs σ ids with
    | some o, some os => some (o :: os)
    | _, _ => none
def reachGo (σ : Store) : Nat -> List Nat -> List Nat -> List Nat
  | 0, _, acc => acc
  | _, [], acc => acc
  | k + 1, id :: rest, acc =>
    if memN id acc then reachGo σ k rest acc
    else match σ[id]? with
      | some (.mem m) => reachGo σ k (rest ++ (if m.box then idsL 0 m.cells else [])) (acc ++ [id])
      | _ => reachGo σ k rest (acc ++ [id])
def reach (σ : Store) (args : List PV) : List Nat := reachGo σ 200 (idsL 0 args) []
def nodupN : List Nat -> Bool
  | [] => true
  | x :: xs => !memN x xs && nodupN xs
def footT (n : Nat) (v : PV) (σ1 : Store) : Option (PV × Store) :=
  match pickObs σ1 (closeN n σ1 (idsV n v ++ idsStore n n σ1)) with
  | some os => match renV n (closeN n σ1 (idsV n v ++ idsStore n n σ1)) v, renStore n (closeN n σ1 (idsV n v ++ idsStore n n σ1)) (σ1.take n ++ os) with
    | some v2, some σ2 => some (v2, σ2)
    | _, _ => none
  | none => none
def backL (L : List Nat) (n k new : Nat) : List Nat := (List.range n).map (fun id => (placeN id L 0).getD (k + new)) ++ (List.range new).map (fun j => k + j)
def setAll : Store -> List Nat -> List Ob -> Store
  | σ, id :: ids, o :: os => setAll (σ.set id o) ids os
  | σ, [], os => σ ++ os
  | σ, _ :: _, [] => σ
def sealRes (σ : Store) (v : PV) : Option (PV × Store) :=
  match v with
  | .tup vs => (sealArgs σ vs).map fun (vs, σ) => (.tup vs, σ)
  | v => sealV σ v
def weakC : PV -> PV
  | .sl c es n _ => .sl c es n none
  | x => x
def weakV : PV -> PV
  | .agg cs => .agg (cs.map weakC)
  | x => weakC x
def viewArgs (E : Env) : List TypeId -> List PV -> List PV
  | t :: ts, x :: xs => weakV (viewV (E.kinds t) x) :: viewArgs E ts xs
  | _, xs => xs
def normRes (E : Env) (f : FuncId) (r : PV) : PV :=
  match E.P.funcs[f]? with
  | some fn => match r with
    | .tup vs => .tup ((viewArgs E fn.resultTypes.toList vs).map weakV)
    | v => match fn.resultTypes.toList with
      | [t] => weakV (viewV (E.kinds t) v)
      | _ => v
  | none => r
def apartA (E : Env) (rec : Rec) (f : FuncId) (args : List PV) : Option PV :=
  match E.pure f args with
  | some r => some r
  | none => match rec f args [] 0 with
    | some (v, σ) => match sealRes σ v with
      | some (r, _) => if oldV 0 (normRes E f r) then some (normRes E f r) else none
      | none => none
    | none => none
def cloneR (cells : List PV) (es n : Nat) (σ : Store) : PV × Store :=
  if n = 0 then (.sl [] es 0 (some 0), σ) else (.osl σ.length n 0 es n none, σ ++ [.mem ⟨cells, es, n, false, false, false⟩])
def cloneA (E : Env) (σ : Store) (f : FuncId) (args : List PV) : Option (PV × Store) :=
  match E.clone f, args with
  | some es, [.sl cells es' n xc] => if es = es' /\ n <= 1048576 /\ cells.all PV.oneCell = true then some (cloneR cells es n σ) else none
  | _, _ => none
def footR (rec : Rec) (f : FuncId) (as : List PV) (σs : Store) : Option (PV × Store) :=
  match rec f as σs 0 with
  | some (v, σ1) => if σs.length <= σ1.length then footT σs.length v σ1 else none
  | none => none
def footA (rec : Rec) (fl : Nat) (σ : Store) (f : FuncId) (args : List PV) : Option (PV × Store) :=
  if nodupN (reach σ args) && (reach σ args).all (Nat.ble fl) then
    match pickObs σ (reach σ args) with
    | some os => match renL 0 (reach σ args) args, renStore 0 (reach σ args) os with
      | some as, some σs => match footR rec f as σs with
        | some (v, σ2) => match renV 0 (backL (reach σ args) σ.length (reach σ args).length (σ2.length - (reach σ args).length)) v, renStore 0 (backL (reach σ args) σ.length (reach σ args).length (σ2.length - (reach σ args).length)) σ2 with
          | some p, some σ3 => some (p, setAll σ (reach σ args) σ3)
          | _, _ => none
        | none => none
      | _, _ => none
    | none => none
  else none
def scalV : PV -> Bool
  | .bool _ | .int _ _ | .str _ => true
  | _ => false
def pickS (b : Bool) (r : PV) (σ σ1 : Store) : Store := bif b && scalV r then σ else σ1
def callA (E : Env) (rec : Rec) (fl : Nat) (σ : Store) (f : FuncId) (args : List PV) : Option (PV × Store) :=
  match E.ext f with
  | some x => (extA σ x args).map fun r => (r, σ)
  | none =>
  match E.P.funcs[f]? with
  | some fn =>
    if fn.name == "runtime.NumGoroutine" || fn.body.isNone then none
    else if E.apart f then
      match sealPA σ args with
      | some (as, σ1) => if oldL 0 (viewArgs E fn.params.toList as) then (apartA E rec f (viewArgs E fn.params.toList as)).map fun r => (r, pickS (E.seals f) r σ σ1) else none
      | none => none
    else if E.foot f then footA rec fl σ f args
    else if E.seals f then match sealArgs σ args with
      | some (as, σ1) => match cloneA E σ1 f as with
        | some p => some p
        | none => rec f as σ1 fl
      | none => none
    else rec f args σ fl
  | none => none
def evalAll (ev : Operand -> Option PV) : List Operand -> Option (List PV)
  | [] => some []
  | x :: rest => match ev x, evalAll ev rest with
    | some v, some vs => some (v :: vs)
    | _, _ => none
def evalParts (ev : Operand -> Option PV) : List (Nat × Operand) -> Option (List (Nat × PV))
  | [] => some []
  | (i, x) :: rest => match ev x, evalParts ev rest with
    | some v, some vs => some ((i, v) :: vs)
    | _, _ => none
def evalOpt (ev : Operand -> Option PV) : Option Operand -> Option (Option PV)
  | none => some none
  | some x => (ev x).map some
def numTs : List Nat := [2, 3, 5, 12, 21,
  40,
  84,
  78,
  ]
def convN (E : Env) (s d : TypeId) (x : PV) : Option PV :=
  match E.P.underlying s, E.P.underlying d, x with
  | some (.int _), some (.int k), .int _ n => some (.int k (k.wrap n))
  | _, _, _ => none
def isNum (s d : TypeId) : Bool := memN s numTs && memN d numTs
def pureA (E : Env) (ev : Operand -> Option PV) : Op -> Option PV
  | .move x | .assign x => ev x
  | .pick c a b => match ev c with
    | some (.bool true) => ev a
    | some (.bool false) => ev b
    | _ => none
  | .build t parts => match evalParts ev parts.toList with
    | some ps => buildA E t ps
    | none => none
  | .nilCheck x => match ev x with
    | some (.ptr i b o) => some (.ptr i b o)
    | some (.eptr c o) => some (.eptr c o)
    | some (.glob g o) => some (.glob g o)
    | some (.iface t v) => some (.iface t v)
    | some (.fn (.func f) a b) => some (.fn (.func f) a b)
    | _ => none
  | .binOp op t x y _ => match ev x, ev y with
    | some a, some b => binA E op t x y a b
    | _, _ => none
  | .unOp op _ x => match ev x with
    | some a => unA op a
    | none => none
  | .makeInterface t x => match ev x, E.P.underlying t with
    | some _, some (.interface _) => none
    | some a, some _ => some (.iface t a)
    | _, _ => none
  | .makeFunc f first captured => match evalAll ev first.toList, evalAll ev captured.toList with
    | some a, some b => some (.fn f a b)
    | _, _ => none
  | .fieldAddr t x f => match ev x with
    | some a => fieldAddrA E t a f
    | none => none
  | .field t x f => match ev x with
    | some a => fieldA E t a f
    | none => none
  | .indexAddr t x i => match ev x, ev i with
    | some a, some b => indexAddrA E t a b
    | _, _ => none
  | .index t x i => match ev x, ev i with
    | some a, some b => indexA E t a b
    | _, _ => none
  | .extract x i => match ev x with
    | some (.tup vs) => vs[i]?
    | _ => none
  | .convert s d x => match ev x with
    | some v => convN E s d v
    | none => none
  | _ => none
def isPure : Op -> Bool
  | .move _ | .assign _ | .pick .. | .build .. | .nilCheck _ | .binOp .. | .unOp .. | .makeInterface .. | .makeFunc .. | .fieldAddr .. | .field .. | .indexAddr .. | .index .. | .extract .. => true
  | .convert s d _ => isNum s d
  | _ => false
def newObj (σ : Store) (cells : List PV) : PV × Store := (.ptr σ.length 1 0, σ ++ [.mem ⟨cells, cells.length, 1, true, false, true⟩])
def memA (E : Env) (rec : Rec) (fl : Nat) (ev : Operand -> Option PV) (σ : Store) : Op -> Option (PV × Store)
  | .alloc t => match zeroT E.P t with
    | some z => some (newObj σ z.cells)
    | none => none
  | .box _ x => match ev x with
    | some v => if v.cells.all PV.oneCell then some (newObj σ v.cells) else none
    | none => none
  | .buildSlice t n parts => match evalParts ev parts.toList with
    | some ps => buildSliceA E σ t n ps
    | none => none
  | .load t a => match ev a with
    | some a => (loadAt E σ t a).map fun v => (v, σ)
    | none => none
  | .store t a v => match ev a, ev v with
    | some a, some v => (storeAt E fl σ t a v).map fun σ1 => (.tup [], σ1)
    | _, _ => none
  | .convert s d x => match ev x with
    | some v => (convA E σ s d v).map fun r => (r, σ)
    | none => none
  | .slice t x lo hi mx => match ev x, evalOpt ev lo, evalOpt ev hi, evalOpt ev mx with
    | some v, some lo, some hi, some mx => (sliceA E σ t v lo hi mx).map fun r => (r, σ)
    | _, _, _, _ => none
  | .makeSlice t l c => match ev l, ev c with
    | some l, some c => makeSliceA E σ t l c
    | _, _ => none
  | .call c => match evalAll ev c.args.toList with
    | some args => match c.callee with
      | .builtin b => builtinA E fl σ b c.argTypes args
      | .value f => match ev f with
        | some (.fn (.func g) first captured) => callA E rec fl σ g (first ++ args ++ captured)
        | _ => none
      | .invoke _ _ => none
    | none => none
  | .makeMap t r => match keyT E t, evalOpt ev r with
    | some _, some none => some (.mp σ.length, newMap σ ⟨[], [], 0, none⟩)
    | some _, some (some (.int _ _)) => some (.mp σ.length, newMap σ ⟨[], [], 0, none⟩)
    | _, _ => none
  | .lookup t x k ok => match ev x, ev k with
    | some x, some k => (lookA E σ t x k ok).map fun r => (r, σ)
    | _, _ => none
  | .mapUpdate t x k v | .insert t x k v => match ev x, ev k, ev v with
    | some x, some k, some v => (updateA E fl σ t x k v).map fun σ1 => (.tup [], σ1)
    | _, _, _ => none
  | .mapEntry t x k => match ev x, ev k with
    | some x, some k => entryA E fl σ t x k
    | _, _ => none
  | .entryStore _ x b v => match ev x, ev b, ev v with
    | some x, some b, some v => (entryStoreA fl σ x b v).map fun σ1 => (.tup [], σ1)
    | _, _, _ => none
  | .range t x => match ev x with
    | some x => rangeA E σ t x
    | none => none
  | .next x false => match ev x with
    | some x => nextA fl σ x
    | none => none
  | .entry x => match ev x with
    | some x => (entryIterA σ x).map fun r => (r, σ)
    | none => none
  | _ => none
def stepA (E : Env) (rec : Rec) (fl : Nat) (ev : Operand -> Option PV) (σ : Store) (o : Op) : Option (PV × Store) :=
  if isPure o then (pureA E ev o).map fun v => (v, σ) else memA E rec fl ev σ o
def sameIce : Store -> Store -> Bool
  | [], _ => true
  | .mem m :: xs, .mem m' :: ys => (m.ice == m'.ice) && ((m.box == m'.box) && sameIce xs ys)
  | .map _ :: xs, .map _ :: ys => sameIce xs ys
  | _, _ => false
end
section
def evalA (s : Slots) : Operand -> Option PV
  | .tmp t => match s[t]? with
    | some (some v) => some v
    | _ => none
  | .const v => ofConst v
  | .global g => some (.glob g 0)
  | .func f => some (.fn (.func f) [] [])
def putA (s : Slots) (dst : Option Tmp) (v : PV) : Slots :=
  match dst with
  | some d => s.set d (some v)
  | none => s
def wantedA (ops : Array Oper) (s : Slots) (o : Oper) : Option Bool :=
  match o.guard with
  | none => some true
  | some (j, want) => match (ops[j]?).bind (·.dst) with
    | some d => match s[d]? with
      | some (some (.bool b)) => some (b == want)
      | some (some (.tup _)) => some false
      | _ => none
    | none => none
def opA (E : Env) (rec : Rec) (fl : Nat) (tight : Bool) (ev : Operand -> Option PV) (σ : Store) (o : Op) : Option (PV × Store) :=
  if tight then match stepA E rec σ.length ev σ o with
    | some (v, σ1) => if sameIce σ σ1 then some (v, σ ++ σ1.drop σ.length) else none
    | none => none
  else stepA E rec fl ev σ o
def maskGo (ls : List Tmp) : Slots -> Nat -> Slots
  | [], _ => []
  | v :: rest, i => (if ls.contains i then v else none) :: maskGo ls rest (i + 1)
def maskS (ls : List Tmp) (s : Slots) : Slots := maskGo ls s 0
def opsA (E : Env) (rec : Rec) (fl : Nat) (ops : Array Oper) (tight : List Bool) : List Oper -> Nat -> Slots -> Store -> Option (Slots × Store)
  | [], _, s, σ => some (s, σ)
  | o :: rest, i, s, σ =>
    match wantedA ops (maskS (o.looksAt ops) s) o with
    | some true => match opA E rec fl (tight.getD i true) (evalA (maskS (o.looksAt ops) s)) σ o.op with
      | some (v, σ1) => opsA E rec fl ops tight rest (i + 1) (putA s o.dst v) σ1
      | none => none
    | some false => opsA E rec fl ops tight rest (i + 1) (putA s o.dst (.tup [])) σ
    | none => none
def maskOf (acc : List Nat) (o : Oper) : Nat :=
  o.after.toList.foldl (fun s e => if Region.binds .any e then s ||| 2 ^ e.on ||| acc.getD e.on 0 else s) 0
def masksGo : List Oper -> List Nat -> List Nat
  | [], acc => acc
  | o :: rest, acc => masksGo rest (acc ++ [maskOf acc o])
def masks (ops : Array Oper) : List Nat := masksGo ops.toList []
def ordered (b : List Nat) (i j : Nat) : Bool := (b.getD (max i j) 0).testBit (min i j)
def edgesGo : List Oper -> Nat -> Bool
  | [], _ => true
  | o :: rest, i => o.after.toList.all (fun e => !Region.binds .any e || decide (e.on < i)) && edgesGo rest (i + 1)
def slotsApart (ops : Array Oper) (x y : Oper) : Bool :=
  match x.dst with
  | some d => !(y.looksAt ops).contains d && y.dst != some d
  | none => true
def pairGo (ops : Array Oper) (b : List Nat) (x : Oper) (i : Nat) : List Oper -> Nat -> Bool
  | [], _ => true
  | y :: rest, j => (i == j || ordered b i j || slotsApart ops x y) && pairGo ops b x i rest (j + 1)
def pairsGo (ops : Array Oper) (b : List Nat) : List Oper -> Nat -> Bool
  | [], _ => true
  | x :: rest, i => pairGo ops b x i ops.toList 0 && pairsGo ops b rest (i + 1)
def dstsOk (ops : Array Oper) : Bool :=
  let ds := ops.toList.filterMap (·.dst)
  decide ds.Nodup
def pairsOk (ops : Array Oper) (b : List Nat) : Bool := edgesGo ops.toList 0 && dstsOk ops && pairsGo ops b ops.toList 0
def isLoad : Op -> Bool
  | .load .. => true
  | .lookup .. => true
  | .slice .. => true
  | _ => false
def isStore : Op -> Bool
  | .store .. => true
  | .mapUpdate .. | .mapEntry .. | .entryStore .. => true
  | .call c => match c.callee with
    | .builtin .append => true
    | _ => false
  | _ => false
def footOf (ev : Operand -> Option PV) : Op -> Option Nat
  | .load _ a | .store _ a _ => match ev a with
    | some (.ptr id _ _) => some id
    | _ => none
  | .lookup _ x _ _ | .mapUpdate _ x _ _ | .mapEntry _ x _ | .entryStore _ x _ _ => match ev x with
    | some (.mp id) => some id
    | _ => none
  | .slice _ x _ _ _ => match ev x with
    | some (.osl id _ _ _ _ _) => some id
    | _ => none
  | .call c => match c.callee with
    | .builtin .append => match evalAll ev c.args.toList with
      | some (.osl id _ _ _ _ _ :: _) => some id
      | _ => none
    | _ => none
  | _ => none
def beside (b : List Nat) (i k : Nat) (x y : Op) : Bool := !ordered b i k && ((isStore x && isLoad y) || (isLoad x && isStore y))
def entryPair : Op -> Op -> Bool
  | .lookup t _ _ false, .mapEntry t' _ _ => Nat.beq t t'
  | .mapEntry t' _ _, .lookup t _ _ false => Nat.beq t t'
  | _, _ => false
def footOk (b : List Nat) (i : Nat) (x : Op) (f : Option Nat) : List Oper -> Nat -> List (Option Nat) -> Bool
  | y :: rest, k, g :: gs => (!beside b i k x y.op || f.isNone || f != g || entryPair x y.op) && footOk b i x f rest (k + 1) gs
  | _, _, _ => true
def besideOk (b : List Nat) (i : Nat) (x : Op) (f : Option Nat) (v : PV) (σ : Store) (l : List Oper) (fs : List (Option Nat)) : Bool :=
  (!isLoad x || oldV σ.length v) && footOk b i x f l 0 fs
def anyBeside (b : List Nat) (i : Nat) (x : Op) : List Oper -> Nat -> Bool
  | [], _ => false
  | y :: rest, j => (i != j && !ordered b i j && !isPure y.op && !(isLoad y.op && isStore x)) || anyBeside b i x rest (j + 1)
def tightGo (ops : Array Oper) (b : List Nat) : List Oper -> Nat -> List Bool
  | [], _ => []
  | x :: rest, i => (!isPure x.op && !isLoad x.op && anyBeside b i x.op ops.toList 0) :: tightGo ops b rest (i + 1)
def opsD (E : Env) (rec : Rec) (fl : Nat) (ops : Array Oper) (b : List Nat) (tight : List Bool) : List Oper -> Nat -> List (Option Nat) -> Slots -> Store -> Option (Slots × Store)
  | [], _, _, s, σ => some (s, σ)
  | o :: rest, i, fs, s, σ =>
    match wantedA ops (maskS (o.looksAt ops) s) o with
    | some true => match opA E rec fl (tight.getD i true) (evalA (maskS (o.looksAt ops) s)) σ o.op with
      | some (v, σ1) =>
        if besideOk b i o.op (footOf (evalA (maskS (o.looksAt ops) s)) o.op) v σ ops.toList fs then
          opsD E rec fl ops b tight rest (i + 1) (fs ++ [footOf (evalA (maskS (o.looksAt ops) s)) o.op]) (putA s o.dst v) σ1
        else none
      | none => none
    | some false => opsD E rec fl ops b tight rest (i + 1) (fs ++ [none]) (putA s o.dst (.tup [])) σ
    | none => none
def tightOf (ops : Array Oper) (b : List Nat) : List Bool := tightGo ops b ops.toList 0
def noTight (ops : Array Oper) : List Bool := List.replicate ops.size false
inductive Out where
  | norm
  | exit (id : Nat)
  | ret
  | goto (l : Nat)
  deriving DecidableEq, Inhabited
def calmOp (E : Env) (o : Oper) : Bool := isPure o.op || (isLoad o.op || match o.op with
  | .call c => match c.callee with
    | .value (.func g) => E.apart g
    | _ => false
  | _ => false)
def movedTo (t : Nat) : List Oper -> Option Operand
  | [] => none
  | o :: rest => match o.dst, o.op, o.guard with
    | some d, .move x, none => bif Nat.beq d t then some x else movedTo t rest
    | _, _, _ => movedTo t rest
def slotId (s : Slots) (x : Operand) : List Nat := match x with
  | .tmp t => match s[t]? with
    | some (some (.osl id _ _ _ _ _)) => [id]
    | _ => []
  | _ => []
def preArg (ops : List Oper) (s : Slots) (x : Operand) : List Nat := match x with
  | .tmp t => match movedTo t ops with
    | some y => slotId s y
    | none => slotId s (.tmp t)
  | _ => []
def preOp (E : Env) (ops : List Oper) (s : Slots) (o : Oper) : List Nat := match o.guard, o.op with
  | none, .call c => match c.callee with
    | .value (.func g) => bif E.apart g && !E.seals g then c.args.toList.flatMap (preArg ops s) else []
    | _ => []
  | _, _ => []
def preIds (E : Env) (ops : List Oper) (s : Slots) : List Nat := bif ops.all (calmOp E) then ops.flatMap (preOp E ops s) else []
def preF (E : Env) (ops : Array Oper) (s : Slots) (σ : Store) : Store := (preIds E ops.toList s).foldl freezeId σ
def keepS : List Bool -> Slots -> Slots
  | b :: bs, v :: s => (if b then v else none) :: keepS bs s
  | _, s => s
def forceN {A : Type} (n : Nat) (k : Nat -> A) : A :=
  match n with
  | 0 => k 0
  | m + 1 => k (m + 1)
theorem forceN_eq {A : Type} (n : Nat) (k : Nat -> A) : forceN n k = k n := by cases n <;> rfl
def forceL {A : Type} : List Nat -> (List Nat -> A) -> A
  | [], k => k []
  | x :: xs, k => forceN x fun x => forceL xs fun xs => k (x :: xs)
theorem forceL_eq {A : Type} : ∀ (l : List Nat) (k : List Nat -> A), forceL l k = k l
  | [], k => rfl
  | x :: xs, k => by simp only [forceL, forceN_eq, forceL_eq xs]
def liveN (pat : List Bool) (n : Nat) (s : Slots) (σ : Store) : List Nat := closeN n σ (idsSlots n (keepS pat s) ++ idsStore n n σ)
def trimO (pat : List Bool) (n : Nat) (s : Slots) (σ : Store) : Option (Slots × Store) :=
  match pickObs σ (liveN pat n s σ) with
  | some os => match renSlots n (liveN pat n s σ) (keepS pat s), renStore n (liveN pat n s σ) (σ.take n ++ os) with
    | some s1, some σ1 => some (s1, σ1)
    | _, _ => none
  | none => none
def trimA (E : Env) (fl : Nat) (pat : List Bool) (n : Nat) (s : Slots) (σ : Store) : Slots × Store :=
  if E.trim && Nat.beq fl 0 then match trimO pat n s σ with
    | some p => p
    | none => (s, σ)
  else (s, σ)
def patOf (s : Slots) : List Bool := s.map Option.isSome
def iterA (E : Env) (fl : Nat) (pat : List Bool) (n0 : Nat) (body : Slots -> Store -> Option (Out × Slots × Store)) : Nat -> Slots -> Store -> Option (Out × Slots × Store)
  | 0, _, _ => none
  | n + 1, s, σ => match body s σ with
    | some (.norm, s1, σ1) => iterA E fl pat n0 body n (trimA E fl pat n0 s1 σ1).1 (trimA E fl pat n0 s1 σ1).2
    | r => r
def rangeFA (E : Env) (rec : Rec) (fl : Nat) (s : Slots) (σ : Store) (f : Operand) : Option Store :=
  match evalA s f with
  | some (.fn (.func g) [] ys) => match E.ext g, E.P.funcs[g]? with
    | none, some fn => if fn.name == "runtime.NumGoroutine" || fn.body.isNone then none else (rec g (.yld :: ys) σ fl).map (·.2)
    | _, _ => none
  | _ => none
def codeL (E : Env) (rec : Rec) (sc : Code -> Slots -> Store -> Option (Out × Slots × Store)) (fl n : Nat) : Code -> Slots -> Store -> Option (Out × Slots × Store)
  | .skip, s, σ => some (.norm, s, σ)
  | .region _ ops false, s, σ => (opsA E rec fl ops (noTight ops) ops.toList 0 s σ).map fun (s, σ) => (.norm, s, σ)
  | .region _ ops true, s, σ =>
    if pairsOk ops (masks ops) then
      (opsD E rec fl ops (masks ops) (tightOf ops (masks ops)) ops.toList 0 [] s (preF E ops s σ)).map fun (s, σ) => (.norm, s, σ)
    else none
  | .seq a b, s, σ => match codeL E rec sc fl n a s σ with
    | some (.norm, s1, σ1) => codeL E rec sc fl n b s1 σ1
    | r => r
  | .cond c x y, s, σ => match evalA s c with
    | some (.bool true) => codeL E rec sc fl n x s σ
    | some (.bool false) => codeL E rec sc fl n y s σ
    | _ => none
  | .block id body, s, σ => match codeL E rec sc fl n body s σ with
    | some (.exit j, s1, σ1) => if j = id then some (.norm, s1, σ1) else some (.exit j, s1, σ1)
    | r => r
  | .loop body, s, σ => iterA E fl (patOf s) σ.length (codeL E rec sc fl n body) n s σ
  | .exit id, s, σ => some (.exit id, s, σ)
  | .ret, s, σ => some (.ret, s, σ)
  | .scope body, s, σ => sc body s σ
  | .rangeFunc f _ _ _, s, σ => (rangeFA E rec fl s σ f).map fun σ1 => (.norm, s, σ1)
  | .label _, s, σ => some (.norm, s, σ)
  | .goto l, s, σ => some (.goto l, s, σ)
  | _, _, _ => none
def scopeIter (run : Code -> Slots -> Store -> Option (Out × Slots × Store)) (body : Code) : Nat -> Code -> Slots -> Store -> Option (Out × Slots × Store)
  | 0, _, _, _ => none
  | j + 1, c, s, σ => match run c s σ with
    | some (.goto l, s1, σ1) => match findLabel body l with
      | some rest => scopeIter run body j rest s1 σ1
      | none => some (.goto l, s1, σ1)
    | r => r
def scopeN (E : Env) (rec : Rec) (fl n : Nat) : Nat -> Code -> Slots -> Store -> Option (Out × Slots × Store)
  | 0, _, _, _ => none
  | d + 1, body, s, σ => scopeIter (codeL E rec (scopeN E rec fl n d) fl n) body 50 body s σ
def codeA (E : Env) (rec : Rec) (fl n : Nat) (c : Code) (s : Slots) (σ : Store) : Option (Out × Slots × Store) := codeL E rec (scopeN E rec fl n 3) fl n c s σ
def resultA (E : Env) (s : Slots) (σ : Store) : ResultVar -> Option PV
  | .tmp t => match s[t]? with
    | some (some v) => some v
    | _ => none
  | .cell a t => match s[a]? with
    | some (some p) => loadAt E σ t p
    | _ => none
def resultsA (E : Env) (s : Slots) (σ : Store) : List ResultVar -> Option (List PV)
  | [] => some []
  | r :: rest => match resultA E s σ r, resultsA E s σ rest with
    | some v, some vs => some (v :: vs)
    | _, _ => none
def endA (E : Env) (fn : Func) (s : Slots) (σ : Store) : Option (PV × Store) :=
  match resultsA E s σ fn.results.toList with
  | some [v] => some (v, σ)
  | some vs => some (.tup vs, σ)
  | none => none
def enterA (E : Env) (rec : Rec) (n : Nat) : Rec := fun f args σ fl =>
  match E.P.funcs[f]? with
  | some fn => match fn.body with
    | some c =>
      if args.length <= fn.ntmps then
        match codeA E rec fl n c (args.map some ++ List.replicate (fn.ntmps - args.length) none) σ with
        | some (.norm, s, σ1) | some (.ret, s, σ1) => endA E fn s σ1
        | _ => none
      else none
    | none => none
  | none => none
def primR (E : Env) (r : Rec) : Rec := fun f args σ fl =>
  match E.prim f args σ fl with
  | some (c, v, σ1) => bif c then some (v, σ1) else none
  | none => r f args σ fl
def runA (E : Env) (n : Nat) : Nat -> Rec
  | 0 => fun _ _ _ _ => none
  | k + 1 => primR E (enterA E (runA E n k) n)
end
end Go.Proofs.YtaofbpldflcjmaaDoor.Am
