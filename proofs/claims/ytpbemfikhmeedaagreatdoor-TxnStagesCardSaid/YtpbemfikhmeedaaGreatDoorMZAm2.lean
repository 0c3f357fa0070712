/- The interpreter's slots, regions, code and functions: definitions alone. -/
import Derived.Test.YtpbemfikhmeedaaGreatDoorMZAm
set_option linter.unusedVariables false
namespace Go.Proofs.YtpbemfikhmeedaaGreatDoor.Am
def evalA (s : Slots) : Operand -> Option PV
  | .tmp t => match s[t]? with
    | some (some v) => some v
    | _ => none
  | .const v => ofConst v
  | .global g => some (.glob g 0)
  | .func f => some (.fn (.func f) [] [])
def putA (s : Slots) (dst : Option Tmp) (v : PV) : Slots :=
  match dst with
  | some d => s.set d (some v)
  | none => s
def wantedA (ops : Array Oper) (s : Slots) (o : Oper) : Option Bool :=
  match o.guard with
  | none => some true
  | some (j, want) => match (ops[j]?).bind (·.dst) with
    | some d => match s[d]? with
      | some (some (.bool b)) => some (b == want)
      | some (some (.tup _)) => some false
      | _ => none
    | none => none
def opA (E : Env) (rec : Rec) (fl : Nat) (tight : Bool) (ev : Operand -> Option PV) (σ : Store) (o : Op) : Option (PV × Store) :=
  if tight then match stepA E rec σ.length ev σ o with
    | some (v, σ1) => if sameIce σ σ1 then some (v, σ ++ σ1.drop σ.length) else none
    | none => none
  else stepA E rec fl ev σ o
def maskGo (ls : List Tmp) : Slots -> Nat -> Slots
  | [], _ => []
  | v :: rest, i => (if ls.contains i then v else none) :: maskGo ls rest (i + 1)
def maskS (ls : List Tmp) (s : Slots) : Slots := maskGo ls s 0
def opsA (E : Env) (rec : Rec) (fl : Nat) (ops : Array Oper) (tight : List Bool) : List Oper -> Nat -> Slots -> Store -> Option (Slots × Store)
  | [], _, s, σ => some (s, σ)
  | o :: rest, i, s, σ =>
    match wantedA ops (maskS (o.looksAt ops) s) o with
    | some true => match opA E rec fl (tight.getD i true) (evalA (maskS (o.looksAt ops) s)) σ o.op with
      | some (v, σ1) => opsA E rec fl ops tight rest (i + 1) (putA s o.dst v) σ1
      | none => none
    | some false => opsA E rec fl ops tight rest (i + 1) (putA s o.dst (.tup [])) σ
    | none => none
def maskOf (acc : List Nat) (o : Oper) : Nat :=
  o.after.toList.foldl (fun s e => if Region.binds .any e then s ||| 2 ^ e.on ||| acc.getD e.on 0 else s) 0
def masksGo : List Oper -> List Nat -> List Nat
  | [], acc => acc
  | o :: rest, acc => masksGo rest (acc ++ [maskOf acc o])
def masks (ops : Array Oper) : List Nat := masksGo ops.toList []
def ordered (b : List Nat) (i j : Nat) : Bool := (b.getD (max i j) 0).testBit (min i j)
def edgesGo : List Oper -> Nat -> Bool
  | [], _ => true
  | o :: rest, i => o.after.toList.all (fun e => !Region.binds .any e || decide (e.on < i)) && edgesGo rest (i + 1)
def slotsApart (ops : Array Oper) (x y : Oper) : Bool :=
  match x.dst with
  | some d => !(y.looksAt ops).contains d && y.dst != some d
  | none => true
def pairGo (ops : Array Oper) (b : List Nat) (x : Oper) (i : Nat) : List Oper -> Nat -> Bool
  | [], _ => true
  | y :: rest, j => (i == j || ordered b i j || slotsApart ops x y) && pairGo ops b x i rest (j + 1)
def pairsGo (ops : Array Oper) (b : List Nat) : List Oper -> Nat -> Bool
  | [], _ => true
  | x :: rest, i => pairGo ops b x i ops.toList 0 && pairsGo ops b rest (i + 1)
def dstsOk (ops : Array Oper) : Bool :=
  let ds := ops.toList.filterMap (·.dst)
  decide ds.Nodup
def pairsOk (ops : Array Oper) (b : List Nat) : Bool := edgesGo ops.toList 0 && dstsOk ops && pairsGo ops b ops.toList 0
def isLoad : Op -> Bool
  | .load .. => true
  | .lookup .. => true
  | .slice .. => true
  | _ => false
def isStore : Op -> Bool
  | .store .. => true
  | .mapUpdate .. | .mapEntry .. | .entryStore .. => true
  | .call c => match c.callee with
    | .builtin .append => true
    | _ => false
  | _ => false
def footOf (ev : Operand -> Option PV) : Op -> Option Nat
  | .load _ a | .store _ a _ => match ev a with
    | some (.ptr id _ _) => some id
    | _ => none
  | .lookup _ x _ _ | .mapUpdate _ x _ _ | .mapEntry _ x _ | .entryStore _ x _ _ => match ev x with
    | some (.mp id) => some id
    | _ => none
  | .slice _ x _ _ _ => match ev x with
    | some (.osl id _ _ _ _ _) => some id
    | _ => none
  | .call c => match c.callee with
    | .builtin .append => match evalAll ev c.args.toList with
      | some (.osl id _ _ _ _ _ :: _) => some id
      | _ => none
    | _ => none
  | _ => none
def beside (b : List Nat) (i k : Nat) (x y : Op) : Bool := !ordered b i k && ((isStore x && isLoad y) || (isLoad x && isStore y))
def entryPair : Op -> Op -> Bool
  | .lookup t _ _ false, .mapEntry t' _ _ => Nat.beq t t'
  | .mapEntry t' _ _, .lookup t _ _ false => Nat.beq t t'
  | _, _ => false
def footOk (b : List Nat) (i : Nat) (x : Op) (f : Option Nat) : List Oper -> Nat -> List (Option Nat) -> Bool
  | y :: rest, k, g :: gs => (!beside b i k x y.op || f.isNone || f != g || entryPair x y.op) && footOk b i x f rest (k + 1) gs
  | _, _, _ => true
def besideOk (b : List Nat) (i : Nat) (x : Op) (f : Option Nat) (v : PV) (σ : Store) (l : List Oper) (fs : List (Option Nat)) : Bool :=
  (!isLoad x || oldV σ.length v) && footOk b i x f l 0 fs
def anyBeside (b : List Nat) (i : Nat) (x : Op) : List Oper -> Nat -> Bool
  | [], _ => false
  | y :: rest, j => (i != j && !ordered b i j && !isPure y.op && !(isLoad y.op && isStore x)) || anyBeside b i x rest (j + 1)
def tightGo (ops : Array Oper) (b : List Nat) : List Oper -> Nat -> List Bool
  | [], _ => []
  | x :: rest, i => (!isPure x.op && !isLoad x.op && anyBeside b i x.op ops.toList 0) :: tightGo ops b rest (i + 1)
def opsD (E : Env) (rec : Rec) (fl : Nat) (ops : Array Oper) (b : List Nat) (tight : List Bool) : List Oper -> Nat -> List (Option Nat) -> Slots -> Store -> Option (Slots × Store)
  | [], _, _, s, σ => some (s, σ)
  | o :: rest, i, fs, s, σ =>
    match wantedA ops (maskS (o.looksAt ops) s) o with
    | some true => match opA E rec fl (tight.getD i true) (evalA (maskS (o.looksAt ops) s)) σ o.op with
      | some (v, σ1) =>
        if besideOk b i o.op (footOf (evalA (maskS (o.looksAt ops) s)) o.op) v σ ops.toList fs then
          opsD E rec fl ops b tight rest (i + 1) (fs ++ [footOf (evalA (maskS (o.looksAt ops) s)) o.op]) (putA s o.dst v) σ1
        else none
      | none => none
    | some false => opsD E rec fl ops b tight rest (i + 1) (fs ++ [none]) (putA s o.dst (.tup [])) σ
    | none => none
def tightOf (ops : Array Oper) (b : List Nat) : List Bool := tightGo ops b ops.toList 0
def noTight (ops : Array Oper) : List Bool := List.replicate ops.size false
inductive Out where
  | norm
  | exit (id : Nat)
  | ret
  | goto (l : Nat)
  deriving DecidableEq, Inhabited
def calmOp (E : Env) (o : Oper) : Bool := isPure o.op || (isLoad o.op || match o.op with
  | .call c => match c.callee with
    | .value (.func g) => E.apart g
    | _ => false
  | _ => false)
def movedTo (t : Nat) : List Oper -> Option Operand
  | [] => none
  | o :: rest => match o.dst, o.op, o.guard with
    | some d, .move x, none => bif Nat.beq d t then some x else movedTo t rest
    | _, _, _ => movedTo t rest
def slotId (s : Slots) (x : Operand) : List Nat := match x with
  | .tmp t => match s[t]? with
    | some (some (.osl id _ _ _ _ _)) => [id]
    | _ => []
  | _ => []
def preArg (ops : List Oper) (s : Slots) (x : Operand) : List Nat := match x with
  | .tmp t => match movedTo t ops with
    | some y => slotId s y
    | none => slotId s (.tmp t)
  | _ => []
def preOp (E : Env) (ops : List Oper) (s : Slots) (o : Oper) : List Nat := match o.guard, o.op with
  | none, .call c => match c.callee with
    | .value (.func g) => bif E.apart g && !E.seals g then c.args.toList.flatMap (preArg ops s) else []
    | _ => []
  | _, _ => []
def preIds (E : Env) (ops : List Oper) (s : Slots) : List Nat := bif ops.all (calmOp E) then ops.flatMap (preOp E ops s) else []
def preF (E : Env) (ops : Array Oper) (s : Slots) (σ : Store) : Store := (preIds E ops.toList s).foldl freezeId σ
def keepS : List Bool -> Slots -> Slots
  | b :: bs, v :: s => (if b then v else none) :: keepS bs s
  | _, s => s
def forceN {A : Type} (n : Nat) (k : Nat -> A) : A :=
  match n with
  | 0 => k 0
  | m + 1 => k (m + 1)
theorem forceN_eq {A : Type} (n : Nat) (k : Nat -> A) : forceN n k = k n := by cases n <;> rfl
def forceL {A : Type} : List Nat -> (List Nat -> A) -> A
  | [], k => k []
  | x :: xs, k => forceN x fun x => forceL xs fun xs => k (x :: xs)
theorem forceL_eq {A : Type} : ∀ (l : List Nat) (k : List Nat -> A), forceL l k = k l
  | [], k => rfl
  | x :: xs, k => by simp only [forceL, forceN_eq, forceL_eq xs]
def liveN (pat : List Bool) (n : Nat) (s : Slots) (σ : Store) : List Nat := onceN [] (idsSlots n (keepS pat s) ++ idsStore n n σ)
def trimO (pat : List Bool) (n : Nat) (s : Slots) (σ : Store) : Option (Slots × Store) :=
  match pickObs σ (liveN pat n s σ) with
  | some os => match renSlots n (liveN pat n s σ) (keepS pat s), renStore n (liveN pat n s σ) (σ.take n ++ os) with
    | some s1, some σ1 => some (s1, σ1)
    | _, _ => none
  | none => none
def trimA (E : Env) (fl : Nat) (pat : List Bool) (n : Nat) (s : Slots) (σ : Store) : Slots × Store :=
  if E.trim && Nat.beq fl 0 then match trimO pat n s σ with
    | some p => p
    | none => (s, σ)
  else (s, σ)
def patOf (s : Slots) : List Bool := s.map Option.isSome
def iterA (E : Env) (fl : Nat) (pat : List Bool) (n0 : Nat) (body : Slots -> Store -> Option (Out × Slots × Store)) : Nat -> Slots -> Store -> Option (Out × Slots × Store)
  | 0, _, _ => none
  | n + 1, s, σ => match body s σ with
    | some (.norm, s1, σ1) => iterA E fl pat n0 body n (trimA E fl pat n0 s1 σ1).1 (trimA E fl pat n0 s1 σ1).2
    | r => r
def rangeFA (E : Env) (rec : Rec) (fl : Nat) (s : Slots) (σ : Store) (f : Operand) : Option Store :=
  match evalA s f with
  | some (.fn (.func g) [] ys) => match E.ext g, E.P.funcs[g]? with
    | none, some fn => if fn.name == "runtime.NumGoroutine" || fn.body.isNone then none else (rec g (.yld :: ys) σ fl).map (·.2)
    | _, _ => none
  | _ => none
def codeL (E : Env) (rec : Rec) (sc : Code -> Slots -> Store -> Option (Out × Slots × Store)) (fl n : Nat) : Code -> Slots -> Store -> Option (Out × Slots × Store)
  | .skip, s, σ => some (.norm, s, σ)
  | .region _ ops false, s, σ => (opsA E rec fl ops (noTight ops) ops.toList 0 s σ).map fun (s, σ) => (.norm, s, σ)
  | .region _ ops true, s, σ =>
    if pairsOk ops (masks ops) then
      (opsD E rec fl ops (masks ops) (tightOf ops (masks ops)) ops.toList 0 [] s (preF E ops s σ)).map fun (s, σ) => (.norm, s, σ)
    else none
  | .seq a b, s, σ => match codeL E rec sc fl n a s σ with
    | some (.norm, s1, σ1) => codeL E rec sc fl n b s1 σ1
    | r => r
  | .cond c x y, s, σ => match evalA s c with
    | some (.bool true) => codeL E rec sc fl n x s σ
    | some (.bool false) => codeL E rec sc fl n y s σ
    | _ => none
  | .block id body, s, σ => match codeL E rec sc fl n body s σ with
    | some (.exit j, s1, σ1) => if j = id then some (.norm, s1, σ1) else some (.exit j, s1, σ1)
    | r => r
  | .loop body, s, σ => iterA E fl (patOf s) σ.length (codeL E rec sc fl n body) n s σ
  | .exit id, s, σ => some (.exit id, s, σ)
  | .ret, s, σ => some (.ret, s, σ)
  | .scope body, s, σ => sc body s σ
  | .rangeFunc f _ _ _, s, σ => (rangeFA E rec fl s σ f).map fun σ1 => (.norm, s, σ1)
  | .label _, s, σ => some (.norm, s, σ)
  | .goto l, s, σ => some (.goto l, s, σ)
  | _, _, _ => none
def scopeIter (run : Code -> Slots -> Store -> Option (Out × Slots × Store)) (body : Code) : Nat -> Code -> Slots -> Store -> Option (Out × Slots × Store)
  | 0, _, _, _ => none
  | j + 1, c, s, σ => match run c s σ with
    | some (.goto l, s1, σ1) => match findLabel body l with
      | some rest => scopeIter run body j rest s1 σ1
      | none => some (.goto l, s1, σ1)
    | r => r
def scopeN (E : Env) (rec : Rec) (fl n : Nat) : Nat -> Code -> Slots -> Store -> Option (Out × Slots × Store)
  | 0, _, _, _ => none
  | d + 1, body, s, σ => scopeIter (codeL E rec (scopeN E rec fl n d) fl n) body 50 body s σ
def codeA (E : Env) (rec : Rec) (fl n : Nat) (c : Code) (s : Slots) (σ : Store) : Option (Out × Slots × Store) := codeL E rec (scopeN E rec fl n 3) fl n c s σ
def resultA (E : Env) (s : Slots) (σ : Store) : ResultVar -> Option PV
  | .tmp t => match s[t]? with
    | some (some v) => some v
    | _ => none
  | .cell a t => match s[a]? with
    | some (some p) => loadAt E σ t p
    | _ => none
def resultsA (E : Env) (s : Slots) (σ : Store) : List ResultVar -> Option (List PV)
  | [] => some []
  | r :: rest => match resultA E s σ r, resultsA E s σ rest with
    | some v, some vs => some (v :: vs)
    | _, _ => none
def endA (E : Env) (fn : Func) (s : Slots) (σ : Store) : Option (PV × Store) :=
  match resultsA E s σ fn.results.toList with
  | some [v] => some (v, σ)
  | some vs => some (.tup vs, σ)
  | none => none
def enterA (E : Env) (rec : Rec) (n : Nat) : Rec := fun f args σ fl =>
  match E.P.funcs[f]? with
  | some fn => match fn.body with
    | some c =>
      if args.length <= fn.ntmps then
        match codeA E rec fl n c (args.map some ++ List.replicate (fn.ntmps - args.length) none) σ with
        | some (.norm, s, σ1) | some (.ret, s, σ1) => endA E fn s σ1
        | _ => none
      else none
    | none => none
  | none => none
def primR (E : Env) (r : Rec) : Rec := fun f args σ fl =>
  match E.prim f args σ fl with
  | some (c, v, σ1) => bif c then some (v, σ1) else none
  | none => r f args σ fl
def runA (E : Env) (n : Nat) : Nat -> Rec
  | 0 => fun _ _ _ _ => none
  | k + 1 => primR E (enterA E (runA E n k) n)
end Go.Proofs.YtpbemfikhmeedaaGreatDoor.Am
