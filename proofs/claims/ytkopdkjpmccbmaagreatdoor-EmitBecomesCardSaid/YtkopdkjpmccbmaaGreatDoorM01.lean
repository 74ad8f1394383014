/- A part of the proof of: EmitBecomes: what a term becomes by patterns, and a pattern's name, is what the document says, or the error is told. -/
import Derived.Test.YtkopdkjpmccbmaaGreatDoorM00
import GoSem.Core.Region
namespace Go.AM

/-- Which rows are written into, once made by append or as literals: a function, and the temporary that holds what was made. -/
structure Cfg where
  mut_ : List (Nat × Nat)
  keepArgs : List Nat
  keepRet : List Nat
  gc1 : List Nat
  gc0 : List Nat
  pins : List (Nat × Array Value)

def conv1 : Value → Option AV
  | .bool b => some (.bool b)
  | .int k n => some (.int k n)
  | .string s => some (.str s.data.toList)
  | .pointer none => some .nilp
  | .map none => some .nilm
  | .nilFunc => some .nilf
  | .nilIface => some .nili
  | .slice none 0 0 => some (.slice [] .full)
  | .tuple vs => if vs.isEmpty then some .undef else none
  | _ => none

def convs : List Value → Option (List AV)
  | [] => some []
  | v :: r => match conv1 v, convs r with
    | some a, some l => some (a :: l)
    | _, _ => none

def conv : Value → Option AV
  | .agg cs => (convs cs.toList).map .agg
  | .tuple vs => if vs.isEmpty then some .undef else (convs vs.toList).map .tup
  | v => conv1 v

def opd : Operand → Option Opd
  | .tmp t => some (.t t)
  | .const v => (conv v).map .c
  | .global _ => none
  | .func f => some (.f f)

def opds : List Operand → Option (List Opd)
  | [] => some []
  | v :: r => match opd v, opds r with
    | some a, some l => some (a :: l)
    | _, _ => none

section
variable (P : Program)

def sizeT (t : TypeId) : Option Nat := (P.info? t).map (·.size)
def bytesT (t : TypeId) : Option Nat := (P.info? t).map (·.bytes)
def zeroT (t : TypeId) : Option AV := ((P.info? t).bind (·.zero)).bind conv
def aggT (t : TypeId) : Option Bool := (P.underlying t).map fun | .struct _ => true | .array _ _ => true | _ => false
/-- How a variable of a type is read: whole, as so many cells; or as one. -/
def loadT (t : TypeId) : Option (Option Nat) :=
  match aggT P t, sizeT P t with
  | some true, some n => some (some n)
  | some false, some _ => some none
  | _, _ => none

def kindP (t : TypeId) : Option Nat :=
  match P.underlying t with
  | some .bool => some 11
  | some (.int .i8) => some 1
  | some (.int .i16) => some 2
  | some (.int .i32) => some 3
  | some (.int .i64) => some 4
  | some (.int .u8) => some 5
  | some (.int .u16) => some 6
  | some (.int .u32) => some 7
  | some (.int .u64) => some 8
  | some .string => some 10
  | _ => none

def kindsF (P : Program) : Nat → List Field → Option (List Nat)
  | _, [] => some []
  | i, f :: r => match kindP P f.type, kindsF P (i + 1) r with
    | some k, some l => if f.name != "_" && f.offset == i && sizeT P f.type == some 1 then some (k :: l) else none
    | _, _ => none

/-- A struct of plain fields, each a cell, each with a name: their kinds. -/
def plainStruct (t : TypeId) : Option (List Nat) :=
  match P.underlying t with
  | some (.struct fs) => if !P.stoodInHeld t && !P.eqGuardType P.depth t then kindsF P 0 fs.toList else none
  | _ => none
def plainArr (t : TypeId) : Option (List Nat) :=
  match P.underlying t with
  | some (.array n e) => match kindP P e with
    | some k => if sizeT P e == some 1 then some (List.replicate n k) else none
    | none => none
  | _ => none
/-- Of which kinds a map's keys are. -/
def keyT (t : TypeId) : Option (List Nat) :=
  match kindP P t with
  | some k => some [k]
  | none => match plainStruct P t with
    | some l => some (0 :: l)
    | none => (plainArr P t).map (0 :: ·)

/-- Of which kind, where one may be nil. -/
def nilT (t : TypeId) : Option Nat :=
  match P.underlying t with
  | some (.pointer _) => some 1
  | some (.map _ _) => some 3
  | some (.func _ _ _) => some 5
  | _ => none

def partsT (place : Nat → Option (Nat × Nat)) : List (Nat × Operand) → Option (List (Nat × Nat × Opd))
  | [] => some []
  | (i, x) :: r => match place i, opd x, partsT place r with
    | some (o, n), some x, some l => some ((o, n, x) :: l)
    | _, _, _ => none

def fieldsT (fs : List Field) : Option (List (Nat × Nat)) :=
  match fs with
  | [] => some []
  | f :: r => match sizeT P f.type, fieldsT r with
    | some n, some l => some ((f.offset, n) :: l)
    | _, _ => none

def elemsC : List (Nat × Operand) → Option (List (Nat × Opd))
  | [] => some []
  | (i, x) :: r => match opd x, elemsC r with
    | some x, some l => some ((i, x) :: l)
    | _, _ => none

def optOpd : Option Operand → Option (Option Opd)
  | none => some none
  | some x => (opd x).map some

/-- How many cells a value has. -/
def ncells : AV → Nat
  | .agg cs => cs.length
  | _ => 1

def orBad (x : Option AOp) : AOp := x.getD .bad
def ok (b : Bool) : Option Unit := if b then some () else none

def notYield (f : Fn) : Bool :=
  match f with
  | .yield _ => false
  | _ => true

def isMut (cfg : Cfg) (fid : Nat) (d : Option Tmp) : Bool :=
  match d with
  | some d => cfg.mut_.any fun (a, b) => a == fid && b == d
  | none => false

def compOp (cfg : Cfg) (fid : Nat) (dst : Option Tmp) : Op → AOp
  | .move x | .assign x => orBad ((opd x).map .move)
  | .pick c a b => orBad do pure (.pick (← opd c) (← opd a) (← opd b))
  | .alloc t => orBad do pure (.alloc (← zeroT P t))
  | .box _ x => orBad do pure (.box (← opd x))
  | .build t ps => orBad do
    let .agg z ← zeroT P t | none
    match P.underlying t with
    | some (.struct fs) =>
      let pl ← fieldsT P fs.toList
      pure (.build z (← partsT (pl[·]?) ps.toList))
    | some (.array _ e) =>
      let n ← sizeT P e
      pure (.build z (← partsT (fun i => some (i * n, n)) ps.toList))
    | _ => none
  | .buildSlice t len ps => orBad do
    let some (.slice e) := P.underlying t | none
    let n ← sizeT P e
    AM.ok (!decide (n = 0 ∨ len * n > 2 ^ 24))
    let z ← zeroT P e
    AM.ok (!decide (ncells z ≠ n))
    pure (.buildSlice n len z (← elemsC ps.toList) (isMut cfg fid dst))
  | .load t a => orBad do pure (.load (← loadT P t) (← opd a))
  | .store t a x => orBad do pure (.store (← sizeT P t) (← opd a) (← opd x))
  | .nilCheck x => orBad do pure (.nilCheck (← opd x))
  | .binOp o t x y _ => orBad do
    match P.underlying t with
    | some (.int _) | some .string => pure (.bin o (← opd x) (← opd y))
    | some .bool =>
      match o with
      | .eql => pure (.eqBool false (← opd x) (← opd y))
      | .neq => pure (.eqBool true (← opd x) (← opd y))
      | _ => none
    | some (.struct _) =>
      let ks ← plainStruct P t
      match o with
      | .eql => pure (.eqAgg false ks (← opd x) (← opd y))
      | .neq => pure (.eqAgg true ks (← opd x) (← opd y))
      | _ => none
    | _ =>
      let kd ← nilT P t
      match o with
      | .eql => pure (.eqNil false kd (← opd x) (← opd y))
      | .neq => pure (.eqNil true kd (← opd x) (← opd y))
      | _ => none
  | .unOp o _ x => orBad do pure (.un o (← opd x))
  | .convert s d x => orBad do
    match P.underlying s, P.underlying d with
    | some (.int _), some (.int k) => pure (.convInt k (← opd x))
    | some .string, some .string => pure (.convId (← opd x))
    | some (.int _), some .string => pure (.convChar (← opd x))
    | some (.slice e), some .string => match P.underlying e with
      | some (.int .u8) => pure (.convBytes (← opd x))
      | _ => none
    | _, _ => none
  | .makeFunc fn first caps => orBad do
    AM.ok (notYield fn)
    pure (.makeFunc fn (← opds first.toList) (← opds caps.toList))
  | .makeMap t none => orBad do
    let some (.map k _) := P.underlying t | none
    pure (.makeMap (← keyT P k))
  | .makeMap t (some (.const (.int _ _))) => orBad do
    let some (.map k _) := P.underlying t | none
    pure (.makeMap (← keyT P k))
  | .makeSlice t l c => orBad do
    let some (.slice e) := P.underlying t | none
    let n ← sizeT P e
    AM.ok (!decide (n = 0))
    let z ← zeroT P e
    AM.ok (!decide (ncells z ≠ n))
    pure (.makeSlice n (← bytesT P e) z (← opd l) (← opd c))
  | .slice t x lo hi none => orBad do
    match P.underlying t with
    | some .string => pure (.sliceStr (← opd x) (← optOpd lo) (← optOpd hi))
    | some (.slice e) => pure (.sliceSl (← sizeT P e) (← opd x) (← optOpd lo) (← optOpd hi))
    | _ => none
  | .fieldAddr t x f => orBad do
    let some (.struct fs) := P.underlying t | none
    let f ← fs[f]?
    let n ← sizeT P f.type
    AM.ok (!decide (n = 0))
    pure (.fieldAddr f.offset (← opd x))
  | .field t x f => orBad do
    let some (.struct fs) := P.underlying t | none
    let f ← fs[f]?
    pure (.field f.offset (← loadT P f.type) (← opd x))
  | .indexAddr t x i => orBad do
    match P.underlying t with
    | some (.array len e) => pure (.indexArr len (← sizeT P e) (← opd x) (← opd i))
    | some (.slice e) =>
      let n ← sizeT P e
      AM.ok (!decide (n = 0))
      pure (.indexSl n (← opd x) (← opd i))
    | _ => none
  | .index t x i => orBad do
    match P.underlying t with
    | some .string => pure (.charAt (← opd x) (← opd i))
    | _ => none
  | .lookup t x i ok => orBad do
    match P.underlying t with
    | some (.map k e) => pure (.lookup (← keyT P k) (← zeroT P e) (← opd x) (← opd i) ok)
    | _ => none
  | .mapUpdate t m k x | .insert t m k x => orBad do
    match P.underlying t with
    | some (.map kt _) => pure (.mapUpdate (← keyT P kt) (← opd m) (← opd k) (← opd x))
    | _ => none
  | .extract x i => orBad do pure (.extract (← opd x) i)
  | .range t x => orBad do
    match P.underlying t with
    | some .string => pure (.rangeStr (← opd x))
    | _ => none
  | .next x true => orBad do pure (.nextStr (← opd x))
  | .call { callee := .value f, args, .. } => orBad do pure (.call (← opd f) (← opds args.toList))
  | .call { callee := .builtin b, args, argTypes } => orBad do
    match b, args.toList, argTypes.toList with
    | .len, [x], [t] => match P.underlying t with
      | some .string => pure (.lenStr (← opd x))
      | some (.slice _) => pure (.lenSl (← opd x))
      | some (.map k _) => pure (.lenMap (← keyT P k) (← opd x))
      | _ => none
    | .append, [s, x], [t, u] => match P.underlying t, P.underlying u with
      | some (.slice e), some (.slice _) =>
        let n ← sizeT P e
        AM.ok (!decide (n = 0))
        let z ← zeroT P e
        AM.ok (!decide (ncells z ≠ n))
        pure (.append n (← bytesT P e) (isMut cfg fid dst) (← opd s) (← opd x))
      | _, _ => none
    | .min, [x, y], [_, _] => pure (.min (← opd x) (← opd y))
    | .delete, [m, k], [t, _] => match P.underlying t with
      | some (.map kt _) => pure (.delete (← keyT P kt) (← opd m) (← opd k))
      | _ => none
    | _, _, _ => none
  | .defer { callee := .value f, args, .. } => orBad do pure (.defer (← opd f) (← opds args.toList))
  | _ => .bad

inductive Cls where
  | pure | read | new | eff
  deriving DecidableEq

def cls : AOp → Cls
  | .load _ _ | .lookup .. | .lenMap .. | .convBytes _ => .read
  | .box _ | .alloc _ | .makeMap _ | .makeSlice .. | .rangeStr _ | .mapLit .. => .new
  | .buildSlice _ _ _ _ m => if m then .new else .pure
  | .store .. | .mapUpdate .. | .delete .. | .nextStr _ | .call .. | .defer .. | .append .. | .append1 .. => .eff
  | _ => .pure

def guardT (ops : Array Oper) (o : Oper) : Option (Option (Nat × Bool)) :=
  match o.guard with
  | none => some none
  | some (j, b) => match ops[j]? with
    | some q => match q.dst with
      | some d => some (some (d, b))
      | none => none
    | none => none

def plainA : AOp → Bool
  | .call .. | .defer .. => false
  | _ => true
/-- Calls come of calls alone. -/
def onlyPlain (q : Op) (p : AOp) : AOp :=
  match q with
  | .call { callee := .value _, .. } => p
  | .defer _ => p
  | _ => if plainA p then p else .bad

def compOper (cfg : Cfg) (fid : Nat) (ops : Array Oper) (o : Oper) : AOper :=
  match guardT ops o with
  | some g => { dst := o.dst, guard := g, op := onlyPlain o.op (compOp P cfg fid o.dst o.op) }
  | none => { dst := o.dst, guard := none, op := .bad }

def opdT : Opd → List Nat
  | .t i => [i]
  | _ => []
def optT : Option Opd → List Nat
  | some x => opdT x
  | none => []
def readsOf : AOp → List Nat
  | .move x | .box x | .load _ x | .nilCheck x | .un _ x | .convInt _ x | .convId x | .convChar x | .convBytes x | .fieldAddr _ x | .field _ _ x | .extract x _ | .lenStr x | .lenSl x | .lenMap _ x | .rangeStr x | .nextStr x => opdT x
  | .pick a b c | .mapUpdate _ a b c => opdT a ++ opdT b ++ opdT c
  | .bad | .alloc _ | .makeMap _ => []
  | .build _ ps => ps.flatMap fun (_, _, x) => opdT x
  | .buildSlice _ _ _ ps _ => ps.flatMap fun (_, x) => opdT x
  | .store _ a b | .bin _ a b | .eqAgg _ _ a b | .eqBool _ a b | .eqNil _ _ a b | .makeSlice _ _ _ a b | .indexArr _ _ a b | .indexSl _ a b | .charAt a b | .lookup _ _ a b _ | .delete _ a b | .min a b | .append _ _ _ a b | .append1 _ _ a b => opdT a ++ opdT b
  | .makeFunc _ a b => a.flatMap opdT ++ b.flatMap opdT
  | .sliceStr x a b | .sliceSl _ x a b => opdT x ++ optT a ++ optT b
  | .call f as | .defer f as => opdT f ++ as.flatMap opdT
  | .mapLit _ ps => ps.flatMap fun (_, x) => opdT x

/-- Each operation's edges lead back; what touches a temporary is in order. -/
def backOk (ops : Array Oper) : Bool :=
  ops.toList.zipIdx.all fun (o, i) => o.after.all fun e => !Region.binds .any e || e.on < i

def pairsOf (n : Nat) : List (Nat × Nat) := (List.range n).flatMap fun j => (List.range j).map fun i => (i, j)

/-- May the unordered two be done in either order? -/
def pairOk (a b : AOp) : Bool :=
  match cls a, cls b with
  | .eff, .eff => false
  | .new, .eff => false
  | _, _ => true

def unordered (bf : Array Nat) (i j : Nat) : Bool := !(bf.getD j 0).testBit i

/-- The temporaries that an operation names. -/
def namesA (o : AOper) : List Nat :=
  readsOf o.op ++ (match o.guard with | some (t, _) => [t] | none => []) ++ (match o.dst with | some d => [d] | none => [])

/-- What names a temporary and what writes it stand in order. -/
def tempsOk (bf : Array Nat) (l : List AOper) : Bool :=
  l.zipIdx.all fun (o, j) => (namesA o).all fun t => l.zipIdx.all fun (q, i) =>
    match q.dst with
    | some d => bif Nat.beq d t then (bif Nat.beq i j then true else (bf.getD (max i j) 0).testBit (min i j)) else true
    | none => true

def drawOk (ops : Array Oper) (l : List AOper) : Bool :=
  let bf := Region.before ops
  backOk ops && tempsOk bf l &&
  (pairsOf l.length).all fun (i, j) => !unordered bf i j || pairOk (l.getD i default).op (l.getD j default).op

def chkOf (ops : Array Oper) (l : List AOper) : List (Nat × List Nat) :=
  let bf := Region.before ops
  let n := l.length
  (List.range n).filterMap fun j =>
    if cls (l.getD j default).op = .read then
      let ps := (List.range n).filter fun p => p != j && (cls (l.getD p default).op = .eff || cls (l.getD p default).op = .new) && (if p < j then unordered bf p j else unordered bf j p)
      if ps.isEmpty then none else some (j, ps)
    else none

/-! ### 's = append(s, x)', where a row of one zero is appended, the new element is stored into, and the row is stored -/
def appArgs? : Op → Option (Nat × Nat × TypeId × TypeId)
  | .call { callee := .builtin .append, args, argTypes } => match args.toList, argTypes.toList with
    | [.tmp s, .tmp z], [t, u] => some (s, z, t, u)
    | _, _ => none
  | _ => none
def idxArgs? : Op → Option (TypeId × Nat × Nat)
  | .indexAddr t (.tmp s) (.tmp k) => some (t, s, k)
  | _ => none
def storeArgs? : Op → Option (TypeId × Nat × Nat)
  | .store t (.tmp a) (.tmp x) => some (t, a, x)
  | _ => none
def elemT (P : Program) (t : TypeId) : Option TypeId :=
  match P.underlying t with
  | some (.slice e) => some e
  | _ => none

def cellOk : AV → Bool
  | .junk | .undef | .agg _ | .tup _ | .iface _ _ => false
  | _ => true
def zcOk : AV → Bool
  | .agg cs => cs.all cellOk
  | v => cellOk v
def bs1? (o : AOper) : Option (Nat × Nat × AV) :=
  match o.dst, o.guard, o.op with
  | some z, none, .buildSlice n 1 _ [(0, .c zc)] false => some (z, n, zc)
  | _, _, _ => none
def len1? (o : AOper) : Option (Nat × Nat) :=
  match o.dst, o.guard, o.op with
  | some k, none, .lenSl (.t s) => some (k, s)
  | _, _, _ => none

structure Apz where
  (s z s' ad k q p : Nat)
  (t u t5 t6 t7 e e' e5 : TypeId)
  (n bytes : Nat)
  (zc : AV)

def findApz (P : Program) (ops : Array Oper) (l : List AOper) : Option Apz := do
  let o4 ← ops[4]?
  let o5 ← ops[5]?
  let o6 ← ops[6]?
  let o7 ← ops[7]?
  let (s, z, t, u) ← appArgs? o4.op
  let (t5, s', k) ← idxArgs? o5.op
  let (t6, ad, q) ← storeArgs? o6.op
  let (t7, p, _) ← storeArgs? o7.op
  let e ← elemT P t
  let e' ← elemT P u
  let e5 ← elemT P t5
  let (_, n, zc) ← (l[3]?).bind bs1?
  pure { s, z, s', ad, k, q, p, t, u, t5, t6, t7, e, e', e5, n, bytes := (bytesT P e).getD 0, zc }

def quietA (o : AOper) : Bool := o.guard.isNone && (cls o.op = .pure || cls o.op = .read)

def apzOk (P : Program) (X : List Nat) (ops : Array Oper) (l : List AOper) (x : Apz) : Bool :=
  let bf := Region.before ops
  decide (ops.size = 8) &&
  (match ops[4]?, ops[5]?, ops[6]?, ops[7]? with
   | some o4, some o5, some o6, some o7 =>
     (decide (appArgs? o4.op = some (x.s, x.z, x.t, x.u)) && decide (o4.dst = some x.s') && o4.guard.isNone) &&
     (decide (idxArgs? o5.op = some (x.t5, x.s', x.k)) && decide (o5.dst = some x.ad) && o5.guard.isNone) &&
     (decide (storeArgs? o6.op = some (x.t6, x.ad, x.q)) && decide (o6.dst = none) && o6.guard.isNone) &&
     (decide (storeArgs? o7.op = some (x.t7, x.p, x.s')) && decide (o7.dst = none) && o7.guard.isNone)
   | _, _, _, _ => false) &&
  (decide (elemT P x.t = some x.e) && decide (elemT P x.u = some x.e') && decide (elemT P x.t5 = some x.e5)) &&
  (decide (sizeT P x.e = some x.n) && decide (bytesT P x.e = some x.bytes) && decide (sizeT P x.e5 = some x.n) && decide (sizeT P x.t6 = some x.n) && decide (sizeT P x.t7 = some 1)) &&
  (decide (x.n ≠ 0) && decide ((zeroT P x.e).map ncells = some x.n)) &&
  (match (l[2]?).bind len1?, (l[3]?).bind bs1? with
   | some (k, s), some (z, n, zc) => decide (k = x.k) && decide (s = x.s) && decide (z = x.z) && decide (n = x.n) && zcOk zc
   | _, _ => false) &&
  ((List.range 4).all fun i => match l[i]? with
    | some o => quietA o && !(namesA o).contains x.s' && !(namesA o).contains x.ad && (bf.getD 4 0).testBit i
    | none => false) &&
  ((bf.getD 5 0).testBit 4 && (bf.getD 6 0).testBit 5 && (bf.getD 7 0).testBit 4 && (bf.getD 6 0).testBit 4) &&
  (!X.contains x.ad && x.ad != x.s' && x.ad != x.p && x.s' != x.p && x.s' != x.k && x.ad != x.k && x.s' != x.q && x.ad != x.q && x.k != x.s && x.z != x.s && x.z != x.k) &&
  tempsOk bf l && backOk ops

def apzList (l : List AOper) (x : Apz) : List AOper := l.take 4 ++ [⟨some x.s', none, .append1 x.n x.bytes (.t x.s) (.t x.q)⟩, ⟨none, none, .store 1 (.t x.p) (.t x.s')⟩]

/-- What a row of operations reads that it has not written itself. -/
def needs (l : List AOper) : List Nat :=
  (l.foldl (init := (([] : List Nat), ([] : List Nat))) fun (got, need) o =>
    let rs := readsOf o.op ++ (match o.guard with | some (t, _) => [t] | none => [])
    ((match o.dst with | some d => d :: got | none => got), rs.filter (fun t => !got.contains t && !need.contains t) ++ need)).2

def needsOf : ACode → List Nat
  | .region l _ | .draw l _ _ => needs l
  | .seq a b => needsOf a ++ needsOf b
  | .cond c a b => opdT c ++ needsOf a ++ needsOf b
  | .block _ c | .loop c => needsOf c
  | .rangeFunc f _ a b => opdT f ++ needsOf a ++ needsOf b
  | _ => []

def outsOf (x : List Nat) (l : List AOper) : List Nat :=
  ((l.filterMap (·.dst)).filter fun d => x.contains d).eraseDups

/-- For what a function is compiled: itself, how many temporaries it has, which are wanted across its regions. -/
structure Self where
  fid : Nat
  N : Nat
  X : List Nat

def dstsOk (N : Nat) (ops : Array Oper) : Bool := ops.toList.all fun o => match o.dst with | some d => decide (d < N) | none => true
def badCode : ACode := .region [⟨none, none, .bad⟩] []


/-! ### The literal of a map: its keys are texts that differ -/
structure MapPlan where
  j0 : Nat
  t : Nat
  ks : List Nat
  e : Nat
def opAt (l : List AOper) (i : Nat) : AOper := l.getD i default
def mkOf (o : AOper) : Option (Nat × List Nat) :=
  match o.dst, o.guard, o.op with
  | some t, none, .makeMap ks => some (t, ks)
  | _, _, _ => none
/-- What is laid into the map by an operation. -/
def insOf (t : Nat) (ks : List Nat) (o : AOper) : Option (AV × Opd) :=
  match o.dst, o.guard, o.op with
  | none, none, .mapUpdate ks' (.t m) (.c k) x => if Nat.beq m t && ks' == ks then some (k, x) else none
  | _, _, _ => none
def insAt (l : List AOper) (m : MapPlan) (i : Nat) : Bool := (insOf m.t m.ks (opAt l i)).isSome
def findMap (l : List AOper) : Option MapPlan :=
  match (List.range l.length).findSome? fun i => (mkOf (opAt l i)).map fun p => (i, p) with
  | some (j0, t, ks) => some ⟨j0, t, ks, (List.range l.length).foldl (fun e i => if (insOf t ks (opAt l i)).isSome then i else e) j0⟩
  | none => none
def fstAt (l : List AOper) (m : MapPlan) (i : Nat) : Bool := decide (i < m.e) && i != m.j0 && !insAt l m i
def lstAt (m : MapPlan) (i : Nat) : Bool := decide (m.e < i)
def fstIdx (l : List AOper) (m : MapPlan) : List Nat := (List.range l.length).filter (fstAt l m)
def lstIdx (l : List AOper) (m : MapPlan) : List Nat := (List.range l.length).filter (lstAt m)
def insIdx (l : List AOper) (m : MapPlan) : List Nat := (List.range l.length).filter (insAt l m)
def partAt (l : List AOper) (m : MapPlan) (i : Nat) : AV × Opd := (insOf m.t m.ks (opAt l i)).getD (.junk, .t 0)
def mapParts (l : List AOper) (m : MapPlan) : List (AV × Opd) := (insIdx l m).map (partAt l m)

def keyOkC (ks : List Nat) : AV → Bool
  | .str _ => ks == [10]
  | _ => false
def strNe : AV → AV → Bool
  | .str a, .str b => a != b
  | _, _ => false
def distinctK : List (AV × Opd) → Bool
  | [] => true
  | (k, _) :: r => (r.all fun (j, _) => strNe k j) && distinctK r

def mapOk (ops : Array Oper) (l : List AOper) (m : MapPlan) : Bool :=
  let bf := Region.before ops
  backOk ops && tempsOk bf l && decide (m.j0 ≤ m.e) && decide (m.e < l.length) && (Nat.beq m.e m.j0 || insAt l m m.e) &&
  (match mkOf (opAt l m.j0) with | some (t, ks) => Nat.beq t m.t && ks == m.ks | none => false) &&
  ((fstIdx l m).all fun i => (namesA (opAt l i)).all fun u => !Nat.beq u m.t) &&
  ((fstIdx l m).all fun j => (fstIdx l m).all fun i => !(decide (i < j)) || !unordered bf i j || pairOk (opAt l i).op (opAt l j).op) &&
  ((lstIdx l m).all fun j => cls (opAt l j).op = .pure && (List.range (m.e + 1)).all fun i => (bf.getD j 0).testBit i) &&
  ((insIdx l m).all fun j => decide (m.j0 < j) && (bf.getD j 0).testBit m.j0 && keyOkC m.ks (partAt l m j).1 &&
    (opdT (partAt l m j).2).all fun u => !Nat.beq u m.t && (fstIdx l m).all fun i => decide (i < j) || (match (opAt l i).dst with | some d => !Nat.beq d u | none => true)) &&
  distinctK (mapParts l m)

def mapChk (ops : Array Oper) (l : List AOper) (m : MapPlan) : List (Nat × List Nat) :=
  let bf := Region.before ops
  let fst := (fstIdx l m).zipIdx
  fst.filterMap fun (j, nj) =>
    if cls (opAt l j).op = .read then
      let ps := (fst.filter fun (p, _) => p != j && (cls (opAt l p).op = .eff || cls (opAt l p).op = .new) && (if p < j then unordered bf p j else unordered bf j p)).map (·.2)
      if ps.isEmpty then none else some (nj, ps)
    else none

def mapList (l : List AOper) (m : MapPlan) : List AOper := (fstIdx l m).map (opAt l) ++ ⟨some m.t, none, .mapLit m.ks (mapParts l m)⟩ :: (lstIdx l m).map (opAt l)

def ACode.isBad : ACode → Bool
  | .region [⟨none, none, .bad⟩] [] => true
  | _ => false

def compApz (P : Program) (X : List Nat) (ops : Array Oper) (l : List AOper) : ACode :=
  match findApz P ops l with
  | some x => if apzOk P X ops l x then .region (apzList l x) (outsOf X (apzList l x)) else badCode
  | none => badCode

/-! ### The same, into a field behind a pointer -/
def nilArgs? : Op → Option Nat
  | .nilCheck (.tmp x) => some x
  | _ => none
def fldArgs? : Op → Option (TypeId × Nat × Nat)
  | .fieldAddr t (.tmp x) i => some (t, x, i)
  | _ => none
def fldT (P : Program) (t : TypeId) (i : Nat) : Option (Nat × Nat) :=
  match P.underlying t with
  | some (.struct fs) => match fs[i]? with
    | some f => (sizeT P f.type).map fun n => (f.offset, n)
    | none => none
  | _ => none
def nil1? (o : AOper) : Option (Nat × Nat) :=
  match o.dst, o.guard, o.op with
  | some d, none, .nilCheck (.t x) => some (d, x)
  | _, _, _ => none
def fld1? (o : AOper) : Option (Nat × Nat × Nat) :=
  match o.dst, o.guard, o.op with
  | some d, none, .fieldAddr k (.t x) => some (d, k, x)
  | _, _, _ => none

structure Apf where
  (A s z s' ad k q p0 n1 p fi off fz : Nat)
  (t u t5 t6 t7 tf e e' e5 : TypeId)
  (n bytes : Nat)

def findApf (P : Program) (ops : Array Oper) (l : List AOper) : Option Apf := do
  let A := ops.size - 6
  let oA ← ops[A]?
  let oB ← ops[A + 1]?
  let oC ← ops[A + 2]?
  let oE ← ops[A + 4]?
  let oF ← ops[A + 5]?
  let (s, z, t, u) ← appArgs? oA.op
  let (t5, s', k) ← idxArgs? oB.op
  let (t6, ad, q) ← storeArgs? oC.op
  let (t7, p, _) ← storeArgs? oF.op
  let (tf, n1, fi) ← fldArgs? oE.op
  let (_, p0) ← (l[A + 3]?).bind nil1?
  let (off, fz) ← fldT P tf fi
  let e ← elemT P t
  let e' ← elemT P u
  let e5 ← elemT P t5
  let (_, n, _) ← (l[A - 1]?).bind bs1?
  pure { A, s, z, s', ad, k, q, p0, n1, p, fi, off, fz, t, u, t5, t6, t7, tf, e, e', e5, n, bytes := (bytesT P e).getD 0 }

def apfOk (P : Program) (X : List Nat) (ops : Array Oper) (l : List AOper) (x : Apf) : Bool :=
  let bf := Region.before ops
  decide (ops.size = x.A + 6) && decide (2 ≤ x.A) &&
  (match ops[x.A]?, ops[x.A + 1]?, ops[x.A + 2]?, ops[x.A + 3]?, ops[x.A + 4]?, ops[x.A + 5]? with
   | some oA, some oB, some oC, some oD, some oE, some oF =>
     (decide (appArgs? oA.op = some (x.s, x.z, x.t, x.u)) && decide (oA.dst = some x.s') && oA.guard.isNone) &&
     (decide (idxArgs? oB.op = some (x.t5, x.s', x.k)) && decide (oB.dst = some x.ad) && oB.guard.isNone) &&
     (decide (storeArgs? oC.op = some (x.t6, x.ad, x.q)) && decide (oC.dst = none) && oC.guard.isNone) &&
     (decide (nilArgs? oD.op = some x.p0) && decide (oD.dst = some x.n1) && oD.guard.isNone) &&
     (decide (fldArgs? oE.op = some (x.tf, x.n1, x.fi)) && decide (oE.dst = some x.p) && oE.guard.isNone) &&
     (decide (storeArgs? oF.op = some (x.t7, x.p, x.s')) && decide (oF.dst = none) && oF.guard.isNone)
   | _, _, _, _, _, _ => false) &&
  (decide (elemT P x.t = some x.e) && decide (elemT P x.u = some x.e') && decide (elemT P x.t5 = some x.e5)) &&
  (decide (sizeT P x.e = some x.n) && decide (bytesT P x.e = some x.bytes) && decide (sizeT P x.e5 = some x.n) && decide (sizeT P x.t6 = some x.n) && decide (sizeT P x.t7 = some 1)) &&
  (decide (x.n ≠ 0) && decide ((zeroT P x.e).map ncells = some x.n)) &&
  (match (l[x.A - 2]?).bind len1?, (l[x.A - 1]?).bind bs1? with
   | some (k, s), some (z, n, zc) => decide (k = x.k) && decide (s = x.s) && decide (z = x.z) && decide (n = x.n) && zcOk zc
   | _, _ => false) &&
  (match (l[x.A + 3]?).bind nil1?, (l[x.A + 4]?).bind fld1?, fldT P x.tf x.fi with
   | some (d, y), some (d', k, y'), some (off, fz) => decide (d = x.n1) && decide (y = x.p0) && decide (d' = x.p) && decide (k = x.off) && decide (y' = x.n1) && decide (off = x.off) && decide (fz ≠ 0)
   | _, _, _ => false) &&
  ((List.range x.A).all fun i => match l[i]? with
    | some o => quietA o && ([x.s', x.ad, x.n1, x.p].all fun u => !(namesA o).contains u) && (bf.getD x.A 0).testBit i
    | none => false) &&
  ((bf.getD (x.A + 1) 0).testBit x.A && (bf.getD (x.A + 2) 0).testBit (x.A + 1) && (bf.getD (x.A + 3) 0).testBit x.A && (bf.getD (x.A + 4) 0).testBit (x.A + 3) && (bf.getD (x.A + 5) 0).testBit (x.A + 4)) &&
  (!X.contains x.ad && x.ad != x.s' && x.ad != x.p && x.ad != x.n1 && x.s' != x.p && x.s' != x.n1 && x.n1 != x.p) &&
  ([x.s', x.ad, x.n1, x.p].all fun u => u != x.k && u != x.q && u != x.p0 && u != x.s) && (x.k != x.s && x.z != x.s && x.z != x.k) &&
  tempsOk bf l && backOk ops

def apfList (l : List AOper) (x : Apf) : List AOper := l.take x.A ++ [opAt l (x.A + 3), opAt l (x.A + 4), ⟨some x.s', none, .append1 x.n x.bytes (.t x.s) (.t x.q)⟩, ⟨none, none, .store 1 (.t x.p) (.t x.s')⟩]

def compApf (P : Program) (X : List Nat) (ops : Array Oper) (l : List AOper) : ACode :=
  match findApf P ops l with
  | some x => if apfOk P X ops l x then .region (apfList l x) (outsOf X (apfList l x)) else badCode
  | none => badCode

def compPat (P : Program) (X : List Nat) (ops : Array Oper) (l : List AOper) : ACode :=
  match findMap l with
  | some m => if mapOk ops l m then .draw (mapList l m) (mapChk ops l m) (outsOf X (mapList l m)) else compApz P X ops l
  | none => if (compApz P X ops l).isBad then compApf P X ops l else compApz P X ops l

/-- What a region becomes. -/
def compRegion (cfg : Cfg) (s : Self) (ops : Array Oper) (d : Bool) : ACode :=
  let l := ops.toList.map (compOper P cfg s.fid ops)
  if !dstsOk s.N ops then badCode else
  if !d then .region l (outsOf s.X l) else
  if drawOk ops l then .draw l (chkOf ops l) (outsOf s.X l) else compPat P s.X ops l

def comp (cfg : Cfg) (s : Self) : Code → ACode
  | .skip => .skip
  | .region _ ops d => compRegion P cfg s ops d
  | .seq a b => .seq (comp cfg s a) (comp cfg s b)
  | .cond c a b => match opd c with
    | some c => .cond c (comp cfg s a) (comp cfg s b)
    | none => badCode
  | .block i c => .block i (comp cfg s c)
  | .loop c => .loop (comp cfg s c)
  | .rangeFunc f ps a b => match opd f with
    | some f => if ps.toList.all (fun p => decide (p < s.N) && s.X.contains p) then .rangeFunc f ps.toList (comp cfg s a) (comp cfg s b) else badCode
    | none => badCode
  | .exit i => .exit i
  | .ret => .ret
  | _ => badCode

def paramsOf : Code → List Nat
  | .seq a b => paramsOf a ++ paramsOf b
  | .cond _ a b => paramsOf a ++ paramsOf b
  | .block _ c => paramsOf c
  | .loop c => paramsOf c
  | .rangeFunc _ ps a b => ps.toList ++ paramsOf a ++ paramsOf b
  | _ => []

def resultsT : List ResultVar → Option (List (Nat × Option (Option Nat)))
  | [] => some []
  | .tmp t :: r => (resultsT r).map ((t, none) :: ·)
  | .cell a t :: r => match loadT P t, resultsT r with
    | some n, some l => some ((a, some n) :: l)
    | _, _ => none

def compFunc (cfg : Cfg) (fid : Nat) (fn : Func) : Option AFunc :=
  match fn.body, resultsT P fn.results.toList with
  | some c, some rs =>
    let n := fn.params.size + fn.nfree
    let ps := List.range n ++ paramsOf c
    let X := (needsOf (comp P cfg ⟨fid, fn.ntmps, ps⟩ c) ++ rs.map (·.1) ++ ps).eraseDups
    some { nargs := n, results := rs, body := comp P cfg ⟨fid, fn.ntmps, X⟩ c, stripArgs := !cfg.keepArgs.contains fid, stripRet := !cfg.keepRet.contains fid, gc := if cfg.gc0.contains fid then 0 else if cfg.gc1.contains fid then 1 else 2 }
  | _, _ => none
end
end Go.AM
