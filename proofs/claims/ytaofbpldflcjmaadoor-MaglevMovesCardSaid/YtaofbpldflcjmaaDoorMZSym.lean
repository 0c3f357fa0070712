/- Evaluation with unknown parts: code with what follows handed on; what is not decided is asked for, and stands at the head. Definitions alone. -/
import Derived.Test.YtaofbpldflcjmaaDoorMMAm
set_option linter.unusedVariables false
namespace Go.Proofs.YtaofbpldflcjmaaDoor.Am
def ass {R : Type} (c : Bool) (x : Option R) : Option R := bif c then x else none
def brH {R : Type} (h : Option Bool) (c : Bool) (a b : Option R) : Option R :=
  match h with
  | none => bif c then a else b
  | some true => ass c a
  | some false => ass (!c) b
abbrev Hint := Nat -> List (Option Bool)
def hg (hs : List (Option Bool)) (i : Nat) : Option Bool := match hs[i]? with
  | some h => h
  | none => none
def then1 {A R : Type} (x : Option A) (k : A -> Option R) : Option R :=
  match x with
  | some a => k a
  | none => none
def then2 {A B R : Type} (x : Option (A × B)) (k : A -> B -> Option R) : Option R :=
  match x with
  | some (a, b) => k a b
  | none => none
def asI : PV -> Int
  | .int _ n => n
  | _ => 0
def asB : PV -> Bool
  | .bool b => b
  | _ => false
def asS : PV -> List UInt8
  | .str s => s
  | _ => []
def slCells : PV -> List PV
  | .sl c _ _ _ => c
  | _ => []
def slLen : PV -> Nat
  | .sl _ _ n _ => n
  | _ => 0
def slCap : PV -> Option Nat
  | .sl _ _ _ x => x
  | .nils => some 0
  | _ => none
def Kd.ok : Kd -> PV -> Bool
  | .int k, .int k' _ => decide (k = k')
  | .bool, .bool _ => true
  | .str, .str _ => true
  | .sl _, .nils => true
  | .sl es, .sl _ es' _ _ => Nat.beq es es'
  | .raw, _ => true
  | _, _ => false
def Kd.shape (k : Kd) (x : PV) : PV :=
  match k with
  | .int k => .int k (asI x)
  | .bool => .bool (asB x)
  | .str => .str (asS x)
  | .sl es => .sl (slCells x) es (slLen x) (slCap x)
  | .raw => x
def Kd.shapeW (k : Kd) (x : PV) : PV :=
  match k with
  | .sl es => .sl (slCells x) es (slLen x) none
  | k => k.shape x
def okAt : List Kd -> List PV -> Nat -> Bool
  | [], _, _ => true
  | k :: ks, cells, off => (match cells[off]? with
    | some x => k.ok x
    | none => false) && okAt ks cells (off + 1)
def shapeAt : List Kd -> List PV -> Nat -> List PV
  | [], _, _ => []
  | k :: ks, cells, off => k.shapeW (cells.getD off .nilp) :: shapeAt ks cells (off + 1)
section
variable {R : Type}
mutual
def oldVS (n : Nat) : PV -> Option R -> Option R
  | .ptr id _ _, k => match Nat.blt id n with
    | true => k
    | false => none
  | .osl id _ _ _ _ _, k => match Nat.blt id n with
    | true => k
    | false => none
  | .mp id, k => match Nat.blt id n with
    | true => k
    | false => none
  | .eptr cells _, k => ass (oldL n cells) k
  | .sl cells _ _ _, k => ass (oldL n cells) k
  | .agg cs, k => oldLS n cs k
  | .tup cs, k => oldLS n cs k
  | .fn _ a b, k => oldLS n a (oldLS n b k)
  | .iface _ v, k => oldVS n v k
  | _, k => k
def oldLS (n : Nat) : List PV -> Option R -> Option R
  | [], k => k
  | x :: xs, k => oldVS n x (oldLS n xs k)
end
mutual
def renVS (n : Nat) (L : List Nat) : PV -> (PV -> Option R) -> Option R
  | .ptr id b o, k => match newId n L id with
    | some id => k (.ptr id b o)
    | none => none
  | .osl id b c e l x, k => match newId n L id with
    | some id => k (.osl id b c e l x)
    | none => none
  | .mp id, k => match newId n L id with
    | some id => k (.mp id)
    | none => none
  | .eptr cells o, k => ass (oldL n cells) (k (.eptr cells o))
  | .sl cells e l x, k => ass (oldL n cells) (k (.sl cells e l x))
  | .agg cs, k => renLS n L cs fun cs => k (.agg cs)
  | .tup cs, k => renLS n L cs fun cs => k (.tup cs)
  | .fn f a b, k => renLS n L a fun a => renLS n L b fun b => k (.fn f a b)
  | .iface t v, k => renVS n L v fun v => k (.iface t v)
  | .bool b, k => k (.bool b)
  | .int kd m, k => k (.int kd m)
  | .str s, k => k (.str s)
  | .nilp, k => k .nilp
  | .glob g o, k => k (.glob g o)
  | .gptr g, k => k (.gptr g)
  | .nils, k => k .nils
  | .sln e, k => k (.sln e)
  | .nilfn, k => k .nilfn
  | .nilif, k => k .nilif
  | .nilm, k => k .nilm
  | .yld, k => k .yld
def renLS (n : Nat) (L : List Nat) : List PV -> (List PV -> Option R) -> Option R
  | [], k => k []
  | x :: xs, k => renVS n L x fun x => renLS n L xs fun xs => k (x :: xs)
end
def renSlotsS (n : Nat) (L : List Nat) : Slots -> (Slots -> Option R) -> Option R
  | [], k => k []
  | none :: s, k => renSlotsS n L s fun s => k (none :: s)
  | some v :: s, k => renVS n L v fun v => renSlotsS n L s fun s => k (some v :: s)
def renStoreS (n : Nat) (L : List Nat) : List Ob -> (Store -> Option R) -> Option R
  | [], k => k []
  | .mem m :: os, k => match m.box with
    | true => renLS n L m.cells fun cs => renStoreS n L os fun os => k (.mem { m with cells := cs } :: os)
    | false => ass (oldL 0 m.cells) (renStoreS n L os fun os => k (.mem m :: os))
  | .map m :: os, k => ass (m.iter.isNone && oldE 0 m.es) (renStoreS n L os fun os => k (.map m :: os))
def loadL (E : Env) (t : TypeId) (cells : List PV) (off : Nat) (dflt : Option PV) (k : PV -> Option R) : Option R :=
  match E.kinds t with
  | [] => then1 dflt k
  | k0 :: ks => match aggT E.P t, sizeT E.P t with
    | some true, some n => match Nat.beq n (ks.length + 1) with
      | true => ass (okAt (k0 :: ks) cells off) (k (.agg (shapeAt (k0 :: ks) cells off)))
      | false => none
    | some false, some _ => match ks with
      | [] => ass (okAt [k0] cells off) (k (k0.shape (cells.getD off .nilp)))
      | _ :: _ => none
    | _, _ => none
def caseL : List PV -> Nat -> Nat -> (PV -> Option R) -> Option R
  | [], _, _, _ => none
  | x :: xs, i, off, k => bif Nat.beq off i then k x else caseL xs (i + 1) off k
def loadS (E : Env) (σ : Store) (t : TypeId) (a : PV) (k : PV -> Option R) : Option R :=
  match a with
  | .eptr cells off => loadL E t cells off (loadAt E σ t (.eptr cells off)) k
  | .glob g off => match E.G g with
    | some cells => loadL E t cells off (loadAt E σ t (.glob g off)) k
    | none => none
  | .ptr id blen off => match getMem σ id with
    | some m => match m.box with
      | true => match ptrT E.P t with
        | true => ass (m.len == blen) (caseL m.cells 0 off fun x => k (viewV (E.kinds t) x))
        | false => then1 (loadAt E σ t (.ptr id blen off)) k
      | false => ass (m.len == blen) (loadL E t m.cells off (loadAt E σ t (.ptr id blen off)) k)
    | none => none
  | _ => none
def indexAddrS (E : Env) (t : TypeId) (x i : PV) (k : PV -> Option R) : Option R :=
  match i, E.P.underlying t, x with
  | .int _ i, some (.array n e), x => match sizeT E.P e with
    | some s => match addOff x (i.toNat * s) with
      | some p => ass (decide (0 <= i) && decide (i < (n : Int))) (k p)
      | none => none
    | none => none
  | .int _ i, some (.slice e), .sl cells es len _ => match sizeT E.P e with
    | some s => match Nat.beq es s && Nat.blt 0 s with
      | true => ass (decide (0 <= i) && decide (i < (len : Int))) (k (.eptr cells (i.toNat * s)))
      | false => none
    | none => none
  | .int _ i, some (.slice e), .osl id blen coff es len _ => match sizeT E.P e with
    | some s => match Nat.beq es s with
      | true => ass (decide (0 <= i) && decide (i < (len : Int))) (k (.ptr id blen (coff + i.toNat * s)))
      | false => none
    | none => none
  | _, _, _ => none
def indexS (E : Env) (t : TypeId) (x i : PV) (k : PV -> Option R) : Option R :=
  match i, E.P.underlying t, x with
  | .int _ i, some .string, .str s => ass (decide (0 <= i) && decide (i.toNat < s.length)) (k (.int .u8 ((s.getD i.toNat 0).toNat : Int)))
  | i, _, x => then1 (indexA E t x i) k
def boundS (x : PV) (y : Nat) (k : Nat -> Option R) : Option R :=
  match x with
  | .int _ i => ass (decide (0 <= i) && decide (i <= (y : Int))) (k i.toNat)
  | _ => none
def optS (x : Option PV) (dflt y : Nat) (k : Nat -> Option R) : Option R :=
  match x with
  | none => k dflt
  | some v => boundS v y k
def roomS (xc : Option Nat) (m : Mem) (s coff len : Nat) : Nat :=
  match xc with
  | some c => c
  | none => match Nat.beq m.size s with
    | true => m.len - coff / s
    | false => len
def sliceSlS (hs : List (Option Bool)) (σ : Store) (s : Nat) (x : PV) (lo hi mx : Option PV) (k : PV -> Option R) : Option R :=
  match x with
  | .nils => then1 (sliceSl σ s .nils lo hi mx) k
  | .sl cells es len xc =>
    match Nat.beq es s with
    | true => optS mx len len fun m => optS hi len m fun h => optS lo 0 h fun l => k (.sl ((cells.drop (l * s)).take ((h - l) * s)) s (h - l) (capA mx xc m l))
    | false => none
  | .sln es => then1 (sliceSl σ s (.sln es) lo hi mx) k
  | .osl id blen coff es len xc =>
    match Nat.beq es s with
    | true => match getMem σ id with
      | some m => ass (m.len == blen && decide (coff + len * es <= m.cells.length)) (optS mx (roomS xc m s coff len) (roomS xc m s coff len) fun q => optS hi len q fun h => optS lo 0 h fun l =>
          brH (hg hs 0) (decide (l = h) && decide (0 < l)) (k (.sl [] s 0 (capA mx xc q l))) (k (.osl id blen (coff + l * s) s (h - l) (capA mx xc q l))))
      | none => none
    | false => none
  | _ => none
def sliceS (E : Env) (hs : List (Option Bool)) (σ : Store) (t : TypeId) (x : PV) (lo hi mx : Option PV) (k : PV -> Option R) : Option R :=
  match hi.isNone && mx.isSome with
  | true => none
  | false => match E.P.underlying t, x with
    | some .string, .str s => match mx with
      | some _ => none
      | none => optS hi s.length s.length fun h => optS lo 0 h fun l => k (.str ((s.drop l).take (h - l)))
    | some (.slice e), x => match sizeT E.P e with
      | some s => match Nat.blt 0 s with
        | true => sliceSlS hs σ s x lo hi mx k
        | false => none
      | none => none
    | _, x => then1 (sliceA E σ t x lo hi mx) k
def viewS (σ : Store) (x : PV) (k : List PV -> Option R) : Option R :=
  match x with
  | .nils => k []
  | .sl cells _ _ _ => k cells
  | .sln _ => k []
  | .osl id blen coff es len _ => match getMem σ id with
    | some m => ass (m.len == blen && decide (coff + len * es <= m.cells.length)) (k ((m.cells.drop coff).take (len * es)))
    | none => none
  | _ => none
def okByte : PV -> Bool
  | .int .u8 _ => true
  | _ => false
def bytesL (cells : List PV) : List UInt8 := cells.map fun x => UInt8.ofNat (asI x).toNat
def convS (E : Env) (σ : Store) (src dst : TypeId) (x : PV) (k : PV -> Option R) : Option R :=
  match E.P.underlying src, E.P.underlying dst with
  | some (.slice e), some .string => match E.P.underlying e with
    | some (.int .u8) => match lenA x with
      | some n => viewS σ x fun cells => ass (cells.length == n && cells.all okByte) (k (.str (bytesL cells)))
      | none => none
    | _ => none
  | _, _ => then1 (convA E σ src dst x) k
def sealCellS (σ : Store) (x : PV) (k : PV -> Store -> Option R) : Option R :=
  match x with
  | .osl id blen coff es len xc => match getMem σ id with
    | some m => ass (m.len == blen && (decide (coff + len * es <= m.cells.length) && (decide (0 < es) && ((m.cells.drop coff).take (len * es)).all PV.calm))) (k (.sl ((m.cells.drop coff).take (len * es)) es len none) (freezeId σ id))
    | none => none
  | x => k x σ
def sealLS (σ : Store) : List PV -> (List PV -> Store -> Option R) -> Option R
  | [], k => k [] σ
  | x :: xs, k => sealCellS σ x fun y σ1 => sealLS σ1 xs fun ys σ2 => k (y :: ys) σ2
def sealVS (σ : Store) (x : PV) (k : PV -> Store -> Option R) : Option R :=
  match x with
  | .agg cs => ass (cs.all PV.oneCell) (sealLS σ cs fun cs σ => k (.agg cs) σ)
  | x => sealCellS σ x k
def sealArgsS (σ : Store) : List PV -> (List PV -> Store -> Option R) -> Option R
  | [], k => k [] σ
  | x :: xs, k => sealVS σ x fun y σ1 => sealArgsS σ1 xs fun ys σ2 => k (y :: ys) σ2
def sealPS (σ : Store) (x : PV) (k : PV -> Store -> Option R) : Option R :=
  match x with
  | .ptr id blen off => match getMem σ id with
    | some m => ass (m.len == blen && m.cells.all PV.calm) (k (.eptr m.cells off) (freezeId σ id))
    | none => none
  | x => sealVS σ x k
def sealPAS (σ : Store) : List PV -> (List PV -> Store -> Option R) -> Option R
  | [], k => k [] σ
  | x :: xs, k => sealPS σ x fun y σ1 => sealPAS σ1 xs fun ys σ2 => k (y :: ys) σ2
def sealPartsS (σ : Store) : List (Nat × PV) -> (List (Nat × PV) -> Store -> Option R) -> Option R
  | [], k => k [] σ
  | (i, x) :: xs, k => sealVS σ x fun y σ1 => sealPartsS σ1 xs fun ys σ2 => k ((i, y) :: ys) σ2
def sealResS (σ : Store) (v : PV) (k : PV -> Store -> Option R) : Option R :=
  match v with
  | .tup vs => sealArgsS σ vs fun vs σ => k (.tup vs) σ
  | v => sealVS σ v k
def storeS (E : Env) (fl : Nat) (σ : Store) (t : TypeId) (a v : PV) (k : Store -> Option R) : Option R :=
  match a with
  | .ptr id blen off => match getMem σ id, sizeT E.P t with
    | some m, some n => match m.box with
      | true => then1 (storeAt E fl σ t (.ptr id blen off) v) k
      | false => match Nat.ble fl id && !m.ice with
        | true => ass (m.len == blen && (v.cells.length == n && (decide (off + n <= m.cells.length) && v.cells.all PV.oneCell))) (k (σ.set id (.mem { m with cells := splice m.cells off v.cells })))
        | false => none
    | _, _ => none
  | _ => none
def buildSliceS (E : Env) (σ : Store) (t : TypeId) (n : Nat) (parts : List (Nat × PV)) (k : PV -> Store -> Option R) : Option R :=
  sealPartsS σ parts fun ps σ1 => match E.P.underlying t with
    | some (.slice e) => match sizeT E.P e, zeroT E.P e with
      | some s, some z =>
        if 0 < s /\ n * s <= 16777216 /\ z.cells.length = s then
          then1 (fillL (fun i => some (i * s, s)) (repCells z.cells n) ps) fun cells => k (.sl cells s n (some n)) σ1
        else none
      | _, _ => none
    | _ => none
def makeSliceS (E : Env) (σ : Store) (t : TypeId) (len cap : PV) (k : PV -> Store -> Option R) : Option R :=
  match E.P.underlying t, len, cap with
  | some (.slice e), .int _ l, .int _ c => match E.P.info? e, zeroT E.P e with
    | some i, some z =>
      if i.bytes <= 65536 /\ 0 < i.size /\ z.cells.length = i.size then
        ass (decide (0 <= l) && (decide (l <= c) && decide (c <= 1048576))) (k (.osl σ.length c.toNat 0 i.size l.toNat none) (σ ++ [.mem ⟨repCells z.cells c.toNat, i.size, c.toNat, true, false, false⟩]))
      else none
    | _, _ => none
  | _, _, _ => none
def binS (E : Env) (op : BinOp) (t : TypeId) (x y : Operand) (a b : PV) (k : PV -> Option R) : Option R :=
  match op, a, b with
  | .shl, .int _ _, .int _ n | .shr, .int _ _, .int _ n => ass (decide (0 <= n)) (then1 (binA E op t x y a b) k)
  | .quo, .int kd m, .int kd' n => if kd = kd' then ass (n != 0) (k (.int kd (kd.wrap (m.tdiv n)))) else none
  | .rem, .int kd m, .int kd' n => if kd = kd' then ass (n != 0) (k (.int kd (m.tmod n))) else none
  | .eql, .sl cells es n xc, .nils => match E.P.underlying t with
    | some (.slice _) => ass (n != 0) (k (.bool false))
    | _ => none
  | .neq, .sl cells es n xc, .nils => match E.P.underlying t with
    | some (.slice _) => ass (n != 0) (k (.bool true))
    | _ => none
  | .add, .str s, .str t => ass (decide (s.length + t.length <= 4611686018427387904)) (k (.str (s ++ t)))
  | _, _, _ => then1 (binA E op t x y a b) k
def appendS (E : Env) (hs : List (Option Bool)) (fl : Nat) (σ : Store) (e : TypeId) (x : PV) (n : Nat) (new : List PV) (k : PV -> Store -> Option R) : Option R :=
  match E.P.info? e, zeroT E.P e with
  | some i, some z =>
    if 0 < i.size /\ z.cells.length = i.size /\ i.bytes <= 65536 then
      ass (new.length == n * i.size) (
      match x with
      | .nils => brH (hg hs 0) (decide (n = 0)) (k .nils σ) (ass (decide (n <= 1048576)) (k (.osl σ.length n 0 i.size n none) (σ ++ [.mem ⟨new, i.size, n, false, false, ptrT E.P e⟩])))
      | .sln es => brH (hg hs 0) (decide (n = 0)) (k (.sln es) σ) none
      | .sl cells es len xc => brH (hg hs 0) (decide (n = 0)) (k (.sl cells es len xc) σ) <| match xc with
        | some c => ass (es == i.size && (decide (c < len + n) && (decide (len + n <= 1048576) && cells.all PV.oneCell))) (k (.osl σ.length (len + n) 0 i.size (len + n) none) (σ ++ [.mem ⟨cells ++ new, i.size, len + n, false, false, false⟩]))
        | none => none
      | .osl id blen coff es len xc => brH (hg hs 0) (decide (n = 0)) (k (.osl id blen coff es len xc) σ) <| match xc with
        | none => match getMem σ id with
          | some m => match Nat.beq es i.size && (Nat.beq m.size i.size && (!m.ice && Nat.ble fl id)) with
            | true => ass (m.len == blen && (decide (m.len <= 1048576) && (decide (n <= 1048576) && decide (coff + len * i.size <= m.cells.length)))) (
                brH (hg hs 1) (decide (coff / i.size + len + n <= m.len))
                  (k (.osl id blen coff i.size (len + n) none) (σ.set id (.mem { m with cells := splice m.cells (coff + len * i.size) new }))) <|
                match Nat.beq coff 0 with
                  | true => k (.osl id (len + n) 0 i.size (len + n) none) (σ.set id (.mem { m with cells := m.cells.take (len * i.size) ++ new, len := len + n, exact := false }))
                  | false => none)
            | false => none
          | none => none
        | some _ => none
      | _ => none)
    else none
  | _, _ => none
def sourceS (E : Env) (σ : Store) (zeros : Bool) (e : TypeId) (x : PV) (k : Nat -> List PV -> Option R) : Option R :=
  match zeros with
  | true => match x, zeroT E.P e with
    | .int .i64 n, some z => match Nat.blt 0 z.cells.length with
      | true => ass (decide (0 <= n) && decide (n <= 1048576)) (k n.toNat (repCells z.cells n.toNat))
      | false => none
    | _, _ => none
  | false => match x with
    | .str s => k s.length (s.map fun b => .int .u8 b.toNat)
    | x => match lenA x with
      | some n => viewS σ x fun cs => k n cs
      | none => none
def writeS (fl : Nat) (σ : Store) (id blen coff : Nat) (new : List PV) (k : Store -> Option R) : Option R :=
  match getMem σ id with
  | some m => match Nat.ble fl id && !m.ice with
    | true => ass (m.len == blen && decide (coff + new.length <= m.cells.length)) (k (σ.set id (.mem { m with cells := splice m.cells coff new })))
    | false => none
  | none => none
def builtinS (E : Env) (hs : List (Option Bool)) (fl : Nat) (σ : Store) (b : Builtin) (argTypes : Array TypeId) (args : List PV) (k : PV -> Store -> Option R) : Option R :=
  match b, args with
  | .append, [x, y] => match argTypes[0]?, isIntT E.P argTypes[1]? with
    | some t, some zeros => match E.P.underlying t with
      | some (.slice e) => sourceS E σ zeros e y fun n new => appendS E hs fl σ e x n new k
      | _ => none
    | _, _ => none
  | .copy, [.osl id blen coff es len xc, y] => match argTypes[0]? with
    | some t => match E.P.underlying t with
      | some (.slice e) => match sizeT E.P e with
        | some s => match Nat.beq es s with
          | true => sourceS E σ false e y fun n new => ass (new.length == n * s) (writeS fl σ id blen coff (new.take (Nat.min n len * s)) fun σ1 => k (goInt (Nat.min n len)) σ1)
          | false => none
        | none => none
      | _ => none
    | none => none
  | .cap, [.osl id blen coff es len none] => match argTypes[0]? with
    | some t => match E.P.underlying t with
      | some (.slice _) => match getMem σ id with
        | some m => match m.exact && (Nat.beq m.size es && Nat.blt 0 es) with
          | true => ass (m.len == blen && (Nat.beq (coff % es) 0 && decide (coff <= m.cells.length))) (k (goInt (m.len - coff / es)) σ)
          | false => none
        | none => none
      | _ => none
    | none => none
  | .clear, [.osl id blen coff es len xc] => match argTypes[0]? with
    | some t => match E.P.underlying t with
      | some (.slice e) => match sizeT E.P e, zeroT E.P e with
        | some s, some z => match Nat.beq es s && (Nat.beq z.cells.length s && Nat.blt 0 s) with
          | true => brH (hg hs 0) (decide (len = 0)) (k (.tup []) σ) (writeS fl σ id blen coff (repCells z.cells len) fun σ1 => k (.tup []) σ1)
          | false => none
        | _, _ => none
      | _ => none
    | none => none
  | b, args => then2 (builtinA E fl σ b argTypes args) k
abbrev RecS (R : Type) := FuncId -> List PV -> Store -> Nat -> (PV -> Store -> Option R) -> Option R
inductive Tr where
  | leaf (c : Bool) (v : PV)
  | br (c : Bool) (a b : Tr)
def Tr.run (k : PV -> Option R) : Tr -> Option R
  | .leaf c v => ass c (k v)
  | .br c a b => bif c then a.run k else b.run k
def Tr.val : Tr -> Option PV
  | .leaf c v => bif c then some v else none
  | .br c a b => bif c then a.val else b.val
abbrev Table := FuncId -> List PV -> Option Tr
def encE : List (PV × PV) -> List PV
  | [] => []
  | (k, v) :: es => k :: v :: encE es
def encN : List Nat -> List PV
  | [] => []
  | n :: ns => .mp n :: encN ns
def decE : List PV -> Option (List (PV × PV))
  | [] => some []
  | [_] => none
  | k :: v :: xs => (decE xs).map ((k, v) :: ·)
def decN : List PV -> Option (List Nat)
  | [] => some []
  | .mp n :: xs => (decN xs).map (n :: ·)
  | _ :: _ => none
def encOb : Ob -> PV
  | .mem m => .tup [.agg m.cells, .ptr m.size m.len 0, .bool m.exact, .bool m.ice, .bool m.box]
  | .map m => match m.iter with
    | none => .tup [.agg (encE m.es), .agg (encN m.born), .mp m.clock]
    | some _ => .nilp
def encL : Store -> List PV
  | [] => []
  | o :: σ => encOb o :: encL σ
def encS (σ : Store) : PV := .tup (encL σ)
def decOb : PV -> Option Ob
  | .tup [.agg cs, .ptr s l 0, .bool x, .bool i, .bool b] => some (.mem ⟨cs, s, l, x, i, b⟩)
  | .tup [.agg es, .agg bs, .mp c] => match decE es, decN bs with
    | some es, some bs => some (.map ⟨es, bs, c, none⟩)
    | _, _ => none
  | _ => none
def decL : List PV -> Option Store
  | [] => some []
  | x :: xs => match decOb x with
    | some o => match decL xs with
      | some σ => some (o :: σ)
      | none => none
    | none => none
def decS : PV -> Option Store
  | .tup xs => decL xs
  | _ => none
def splitLast : List PV -> Option (List PV × PV)
  | [] => none
  | [x] => some ([], x)
  | x :: y :: r => match splitLast (y :: r) with
    | some (l, e) => some (x :: l, e)
    | none => none
def footTS (n : Nat) (v : PV) (σ1 : Store) (k : PV -> Store -> Option R) : Option R :=
  match Nat.ble n σ1.length with
  | true => forceL (closeN n σ1 (idsV n v ++ idsStore n n σ1)) fun M => match pickObs σ1 M with
    | some os => renVS n M v fun v => renStoreS n M (σ1.take n ++ os) fun σ2 => k v σ2
    | none => none
  | false => none
def backS (σ : Store) (L : List Nat) (v : PV) (σ2 : Store) (k : PV -> Store -> Option R) : Option R :=
  forceL (backL L σ.length L.length (σ2.length - L.length)) fun B => renVS 0 B v fun p => renStoreS 0 B σ2 fun σ3 => k p (setAll σ L σ3)
def unpackS (a : PV) (k : PV -> Store -> Option R) : Option R :=
  match a with
  | .tup [v, e] => match decS e with
    | some σ2 => k v σ2
    | none => none
  | _ => none
def footS (T : Table) (rec : RecS R) (fl : Nat) (σ : Store) (f : FuncId) (args : List PV) (k : PV -> Store -> Option R) : Option R :=
  forceL (reach σ args) fun L => match nodupN L && L.all (Nat.ble fl) with
    | true => match pickObs σ L with
      | some os => renLS 0 L args fun as => renStoreS 0 L os fun σs => match T f (as ++ [encS σs]) with
        | some t => t.run fun a => unpackS a fun v σ2 => backS σ L v σ2 k
        | none => rec f as σs 0 fun v σ1 => footTS σs.length v σ1 fun v σ2 => backS σ L v σ2 k
      | none => none
    | false => none
def callS (E : Env) (T : Table) (rec : RecS R) (hs : List (Option Bool)) (fl : Nat) (σ : Store) (f : FuncId) (args : List PV) (k : PV -> Store -> Option R) : Option R :=
  match E.ext f with
  | some x => then1 (extA σ x args) fun r => k r σ
  | none => match E.P.funcs[f]? with
    | some fn =>
      if fn.name == "runtime.NumGoroutine" || fn.body.isNone then none
      else match E.apart f with
        | true => sealPAS σ args fun as0 σ1 => let as := viewArgs E fn.params.toList as0; match T f as with
          | some t => oldLS 0 as (t.run fun v => k v (pickS (E.seals f) v σ σ1))
          | none => none
        | false => match E.foot f with
          | true => footS T rec fl σ f args k
          | false => match E.seals f with
            | true => sealArgsS σ args fun as σ1 => match E.clone f with
              | some es => match as with
                | [.sl cells es' n xc] => match Nat.beq es es' with
                  | true => ass (decide (n <= 1048576) && cells.all PV.oneCell) (brH (hg hs 0) (decide (n = 0)) (k (.sl [] es 0 (some 0)) σ1) (k (.osl σ1.length n 0 es n none) (σ1 ++ [.mem ⟨cells, es, n, false, false, false⟩])))
                  | false => none
                | _ => none
              | none => rec f as σ1 fl k
            | false => rec f args σ fl k
    | none => none
def stepS (E : Env) (T : Table) (rec : RecS R) (hs : List (Option Bool)) (fl : Nat) (ev : Operand -> Option PV) (σ : Store) (o : Op) (k : PV -> Store -> Option R) : Option R :=
  match o with
  | .pick c a b => match ev c with
    | some (.bool t) => brH (hg hs 0) t (then1 (ev a) fun v => k v σ) (then1 (ev b) fun v => k v σ)
    | _ => none
  | .binOp op t x y _ => match ev x, ev y with
    | some a, some b => binS E op t x y a b fun v => k v σ
    | _, _ => none
  | .indexAddr t x i => match ev x, ev i with
    | some a, some b => indexAddrS E t a b fun v => k v σ
    | _, _ => none
  | .index t x i => match ev x, ev i with
    | some a, some b => indexS E t a b fun v => k v σ
    | _, _ => none
  | .load t a => match ev a with
    | some a => loadS E σ t a fun v => k v σ
    | none => none
  | .store t a v => match ev a, ev v with
    | some a, some v => storeS E fl σ t a v fun σ1 => k (.tup []) σ1
    | _, _ => none
  | .buildSlice t n parts => match evalParts ev parts.toList with
    | some ps => buildSliceS E σ t n ps k
    | none => none
  | .convert s d x => match ev x with
    | some v => match isNum s d with
      | true => then1 (convN E s d v) fun r => k r σ
      | false => convS E σ s d v fun r => k r σ
    | none => none
  | .slice t x lo hi mx => match ev x, evalOpt ev lo, evalOpt ev hi, evalOpt ev mx with
    | some v, some lo, some hi, some mx => sliceS E hs σ t v lo hi mx fun r => k r σ
    | _, _, _, _ => none
  | .makeSlice t l c => match ev l, ev c with
    | some l, some c => makeSliceS E σ t l c k
    | _, _ => none
  | .call c => match evalAll ev c.args.toList with
    | some args => match c.callee with
      | .builtin b => builtinS E hs fl σ b c.argTypes args k
      | .value f => match ev f with
        | some (.fn (.func g) first captured) => callS E T rec hs fl σ g (first ++ args ++ captured) k
        | _ => none
      | .invoke _ _ => none
    | none => none
  | o => then2 (stepA E (fun _ _ _ _ => none) fl ev σ o) k
def setB (s : Slots) (t : Tmp) (b : Bool) : Slots := s.set t (some (.bool b))
def setO (s : Slots) (x : Operand) (b : Bool) : Slots :=
  match x with
  | .tmp t => setB s t b
  | _ => s
def wantedK (hs : List (Option Bool)) (ops : Array Oper) (s : Slots) (o : Oper) (kt kf : Slots -> Option R) : Option R :=
  match o.guard with
  | none => kt s
  | some (j, want) => match (ops[j]?).bind (·.dst) with
    | some d => match s[d]? with
      | some (some (.bool b)) => match want with
        | true => brH (hg hs 9) b (kt (setB s d true)) (kf (setB s d false))
        | false => brH (hg hs 9) b (kf (setB s d true)) (kt (setB s d false))
      | some (some (.tup _)) => kf s
      | _ => none
    | none => none
def opS (E : Env) (T : Table) (rec : RecS R) (hs : List (Option Bool)) (fl : Nat) (tight : Bool) (ev : Operand -> Option PV) (σ : Store) (o : Op) (k : PV -> Store -> Option R) : Option R :=
  match tight with
  | true => stepS E T rec hs σ.length ev σ o fun v σ1 => match sameIce σ σ1 with
    | true => k v (σ ++ σ1.drop σ.length)
    | false => none
  | false => stepS E T rec hs fl ev σ o k
def hintOf (h : Hint) (o : Oper) : List (Option Bool) := match o.dst with
  | some d => h d
  | none => []
def opsS (E : Env) (T : Table) (rec : RecS R) (h : Hint) (fl : Nat) (ops : Array Oper) (tight : List Bool) : List Oper -> Nat -> Slots -> Store -> (Slots -> Store -> Option R) -> Option R
  | [], _, s, σ, k => k s σ
  | o :: rest, i, s, σ, k =>
    wantedK (hintOf h o) ops s o
      (fun s => opS E T rec (hintOf h o) fl (tight.getD i true) (evalA (maskS (o.looksAt ops) s)) σ o.op fun v σ1 => opsS E T rec h fl ops tight rest (i + 1) (putA s o.dst v) σ1 k)
      (fun s => opsS E T rec h fl ops tight rest (i + 1) (putA s o.dst (.tup [])) σ k)
def besideS (b : List Nat) (i : Nat) (x : Op) (f : Option Nat) (v : PV) (σ : Store) (l : List Oper) (fs : List (Option Nat)) (k : Option R) : Option R :=
  match isLoad x with
  | true => oldVS σ.length v (match footOk b i x f l 0 fs with
    | true => k
    | false => none)
  | false => match footOk b i x f l 0 fs with
    | true => k
    | false => none
def opsDS (E : Env) (T : Table) (rec : RecS R) (h : Hint) (fl : Nat) (ops : Array Oper) (b : List Nat) (tight : List Bool) : List Oper -> Nat -> List (Option Nat) -> Slots -> Store -> (Slots -> Store -> Option R) -> Option R
  | [], _, _, s, σ, k => k s σ
  | o :: rest, i, fs, s, σ, k =>
    wantedK (hintOf h o) ops s o
      (fun s => opS E T rec (hintOf h o) fl (tight.getD i true) (evalA (maskS (o.looksAt ops) s)) σ o.op fun v σ1 =>
        besideS b i o.op (footOf (evalA (maskS (o.looksAt ops) s)) o.op) v σ ops.toList fs
          (opsDS E T rec h fl ops b tight rest (i + 1) (fs ++ [footOf (evalA (maskS (o.looksAt ops) s)) o.op]) (putA s o.dst v) σ1 k))
      (fun s => opsDS E T rec h fl ops b tight rest (i + 1) (fs ++ [none]) (putA s o.dst (.tup [])) σ k)
def trimS (E : Env) (fl : Nat) (pat : List Bool) (n : Nat) (s : Slots) (σ : Store) (k : Slots -> Store -> Option R) : Option R :=
  match E.trim && Nat.beq fl 0 with
  | true => forceN n fun n => forceL (liveN pat n s σ) fun L => match pickObs σ L with
    | some os => renSlotsS n L (keepS pat s) fun s => renStoreS n L (σ.take n ++ os) fun σ => k s σ
    | none => none
  | false => k s σ
abbrev KC (R : Type) := Out -> Slots -> Store -> Option R
def iterS (E : Env) (fl : Nat) (pat : List Bool) (n0 : Nat) (body : Slots -> Store -> KC R -> Option R) : Nat -> Slots -> Store -> KC R -> Option R
  | 0, _, _, _ => none
  | n + 1, s, σ, k => body s σ fun o s1 σ1 => match o with
    | .norm => trimS E fl pat n0 s1 σ1 fun s2 σ2 => iterS E fl pat n0 body n s2 σ2 k
    | .exit j => k (.exit j) s1 σ1
    | .ret => k .ret s1 σ1
    | .goto l => k (.goto l) s1 σ1
def slotOf (x : Operand) : Nat := match x with
  | .tmp t => t
  | _ => 0
def rangeFS (E : Env) (rec : RecS R) (fl : Nat) (s : Slots) (σ : Store) (f : Operand) (k : Store -> Option R) : Option R :=
  match evalA s f with
  | some (.fn (.func g) [] ys) => match E.ext g, E.P.funcs[g]? with
    | none, some fn => if fn.name == "runtime.NumGoroutine" || fn.body.isNone then none else rec g (.yld :: ys) σ fl fun _ σ1 => k σ1
    | _, _ => none
  | _ => none
def codeSL (E : Env) (T : Table) (rec : RecS R) (h : Hint) (sc : Code -> Slots -> Store -> KC R -> Option R) (fl n : Nat) : Code -> Slots -> Store -> KC R -> Option R
  | .skip, s, σ, k => k .norm s σ
  | .region _ ops false, s, σ, k => opsS E T rec h fl ops (noTight ops) ops.toList 0 s σ (k .norm)
  | .region _ ops true, s, σ, k => match pairsOk ops (masks ops) with
    | true => opsDS E T rec h fl ops (masks ops) (tightOf ops (masks ops)) ops.toList 0 [] s (preF E ops s σ) (k .norm)
    | false => none
  | .seq a b, s, σ, k => codeSL E T rec h sc fl n a s σ fun o s1 σ1 => match o with
    | .norm => codeSL E T rec h sc fl n b s1 σ1 k
    | .exit j => k (.exit j) s1 σ1
    | .ret => k .ret s1 σ1
    | .goto l => k (.goto l) s1 σ1
  | .cond c x y, s, σ, k => match evalA s c with
    | some (.bool b) => brH (hg (h (slotOf c)) 8) b (codeSL E T rec h sc fl n x (setO s c true) σ k) (codeSL E T rec h sc fl n y (setO s c false) σ k)
    | _ => none
  | .block id body, s, σ, k => codeSL E T rec h sc fl n body s σ fun o s1 σ1 => match o with
    | .norm => k .norm s1 σ1
    | .exit j => if j = id then k .norm s1 σ1 else k (.exit j) s1 σ1
    | .ret => k .ret s1 σ1
    | .goto l => k (.goto l) s1 σ1
  | .loop body, s, σ, k => iterS E fl (patOf s) σ.length (codeSL E T rec h sc fl n body) n s σ k
  | .exit id, s, σ, k => k (.exit id) s σ
  | .ret, s, σ, k => k .ret s σ
  | .scope body, s, σ, k => sc body s σ k
  | .rangeFunc f _ _ _, s, σ, k => rangeFS E rec fl s σ f fun σ1 => k .norm s σ1
  | .label _, s, σ, k => k .norm s σ
  | .goto l, s, σ, k => k (.goto l) s σ
  | _, _, _, _ => none
def scopeIterS (run : Code -> Slots -> Store -> KC R -> Option R) (body : Code) : Nat -> Code -> Slots -> Store -> KC R -> Option R
  | 0, _, _, _, _ => none
  | j + 1, c, s, σ, k => run c s σ fun o s1 σ1 => match o with
    | .norm => k .norm s1 σ1
    | .exit j => k (.exit j) s1 σ1
    | .ret => k .ret s1 σ1
    | .goto l => match findLabel body l with
      | some rest => scopeIterS run body j rest s1 σ1 k
      | none => k (.goto l) s1 σ1
def scopeSN (E : Env) (T : Table) (rec : RecS R) (h : Hint) (fl n : Nat) : Nat -> Code -> Slots -> Store -> KC R -> Option R
  | 0, _, _, _, _ => none
  | d + 1, body, s, σ, k => scopeIterS (codeSL E T rec h (scopeSN E T rec h fl n d) fl n) body 50 body s σ k
def codeS (E : Env) (T : Table) (rec : RecS R) (h : Hint) (fl n : Nat) : Code -> Slots -> Store -> KC R -> Option R := codeSL E T rec h (scopeSN E T rec h fl n 3) fl n
def endK (E : Env) (fn : Func) (k : PV -> Store -> Option R) : KC R := fun o s1 σ1 => match o with
  | .norm => then2 (endA E fn s1 σ1) k
  | .ret => then2 (endA E fn s1 σ1) k
  | .exit _ => none
  | .goto _ => none
def enterS (E : Env) (T : Table) (H : FuncId -> Hint) (rec : RecS R) (n : Nat) : RecS R := fun f args σ fl k =>
  match E.P.funcs[f]? with
  | some fn => match fn.body with
    | some c =>
      if args.length <= fn.ntmps then
        codeS E T rec (H f) fl n c (args.map some ++ List.replicate (fn.ntmps - args.length) none) σ (endK E fn k)
      else none
    | none => none
  | none => none
def primS (E : Env) (r : RecS R) : RecS R := fun f args σ fl k =>
  match E.prim f args σ fl with
  | some (c, v, σ1) => ass c (k v σ1)
  | none => r f args σ fl k
def recS (E : Env) (T : Table) (H : FuncId -> Hint) (n : Nat) : Nat -> RecS R
  | 0 => fun _ _ _ _ _ => none
  | d + 1 => primS E (enterS E T H (recS E T H n d) n)
end
def lastF (n : Nat) (v : PV) (σ1 : Store) : Option PV := footTS n v σ1 fun v σ2 => some (.tup [v, encS σ2])
def lastK (E : Env) (f : FuncId) (v : PV) (σ : Store) : Option PV := sealResS σ v fun r _ => oldVS 0 (normRes E f r) (some (normRes E f r))
def H0 : FuncId -> Hint := fun _ _ => []
def apartS (E : Env) (T : Table) (H : FuncId -> Hint) (n d : Nat) (f : FuncId) (args : List PV) : Option PV := recS E T H n (d + 1) f args [] 0 (lastK E f)
def footSR (E : Env) (T : Table) (H : FuncId -> Hint) (n d : Nat) (f : FuncId) (xs : List PV) : Option PV :=
  match splitLast xs with
  | some (as, e) => match decS e with
    | some σs => recS E T H n (d + 1) f as σs 0 (lastF σs.length)
    | none => none
  | none => none
def footP (rec : Rec) (f : FuncId) (xs : List PV) : Option PV :=
  match splitLast xs with
  | some (as, e) => match decS e with
    | some σs => match footR rec f as σs with
      | some (v, σ2) => some (.tup [v, encS σ2])
      | none => none
    | none => none
  | none => none
def subC : Code -> List Nat -> Code
  | c, [] => c
  | .seq a _, 0 :: p => subC a p
  | .seq _ b, _ :: p => subC b p
  | .cond _ x _, 0 :: p => subC x p
  | .cond _ _ y, _ :: p => subC y p
  | .block _ b, _ :: p => subC b p
  | .loop b, _ :: p => subC b p
  | _, _ => .skip
def afterS {R : Type} (E : Env) (T : Table) (rec : RecS R) (h : Hint) (fl n : Nat) : Code -> List Nat -> KC R -> KC R
  | .seq a b, 0 :: p, k => afterS E T rec h fl n a p fun o s σ => match o with
    | .norm => codeS E T rec h fl n b s σ k
    | .exit j => k (.exit j) s σ
    | .ret => k .ret s σ
    | .goto l => k (.goto l) s σ
  | .seq _ b, _ :: p, k => afterS E T rec h fl n b p k
  | .cond _ x _, 0 :: p, k => afterS E T rec h fl n x p k
  | .cond _ _ y, _ :: p, k => afterS E T rec h fl n y p k
  | .block id b, _ :: p, k => afterS E T rec h fl n b p fun o s σ => match o with
    | .norm => k .norm s σ
    | .exit j => if j = id then k .norm s σ else k (.exit j) s σ
    | .ret => k .ret s σ
    | .goto l => k (.goto l) s σ
  | _, _, k => k
end Go.Proofs.YtaofbpldflcjmaaDoor.Am
