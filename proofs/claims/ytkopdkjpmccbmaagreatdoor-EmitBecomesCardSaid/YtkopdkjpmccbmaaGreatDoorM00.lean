/- A part of the proof of: EmitBecomes: what a term becomes by patterns, and a pattern's name, is what the document says, or the error is told. -/
import GoSem.Dispatch
namespace Go.AM

noncomputable section

/-- Whether a slice may be appended to where it lies: never · its capacity is its length · by the bearer of a number. -/
inductive Tok where
  | none
  | full
  | live (id gen : Nat)
  deriving DecidableEq, Repr, Inhabited

/-- Values: slices that came in, or were appended to, are what they hold. -/
inductive AV where
  /-- Nothing is known of it. -/
  | junk
  | undef
  | bool (b : Bool)
  | int (k : IntKind) (n : Int)
  | str (s : List UInt8)
  | nilp
  | nilm
  | nilf
  | nili
  | agg (cs : List AV)
  | tup (vs : List AV)
  | slice (es : List AV) (tk : Tok)
  | hsl (o off len sz : Nat)
  | ptr (o off : Nat)
  | eptr (cs : List AV) (off : Nat)
  | map (o : Nat)
  | itr (o : Nat)
  | fn (f : Fn) (first caps : List AV)
  | iface (t : TypeId) (v : AV)
  deriving Inhabited

mutual
def AV.beq : AV → AV → Bool
  | .junk, .junk => true
  | .undef, .undef => true
  | .bool a, .bool b => a == b
  | .int j a, .int k b => j == k && a == b
  | .str a, .str b => a == b
  | .nilp, .nilp => true
  | .nilm, .nilm => true
  | .nilf, .nilf => true
  | .nili, .nili => true
  | .agg a, .agg b => AV.beqs a b
  | .tup a, .tup b => AV.beqs a b
  | .slice a s, .slice b t => s == t && AV.beqs a b
  | .hsl a b c g, .hsl d e f h => a == d && b == e && c == f && g == h
  | .ptr a b, .ptr c d => a == c && b == d
  | .eptr a i, .eptr b j => i == j && AV.beqs a b
  | .map a, .map b => a == b
  | .itr a, .itr b => a == b
  | .fn f a c, .fn g b d => f == g && AV.beqs a b && AV.beqs c d
  | .iface t a, .iface u b => t == u && AV.beq a b
  | _, _ => false
def AV.beqs : List AV → List AV → Bool
  | [], [] => true
  | a :: l, b :: m => AV.beq a b && AV.beqs l m
  | _, _ => false
end

/-! ### The code -/
inductive Opd where
  | t (i : Nat)
  | c (v : AV)
  | f (n : Nat)
  deriving Inhabited

inductive AOp where
  | bad
  | move (x : Opd)
  | pick (c : Opd) (a : Opd) (b : Opd)
  | box (x : Opd)
  | alloc (zero : AV)
  | build (zero : List AV) (parts : List (Nat × Nat × Opd))
  | buildSlice (sz : Nat) (len : Nat) (zero : AV) (parts : List (Nat × Opd)) (hs : Bool)
  | load (n : Option Nat) (a : Opd)
  | store (n : Nat) (a : Opd) (x : Opd)
  | nilCheck (x : Opd)
  | bin (o : BinOp) (x : Opd) (y : Opd)
  | eqAgg (neg : Bool) (ks : List Nat) (x : Opd) (y : Opd)
  | eqBool (neg : Bool) (x : Opd) (y : Opd)
  | eqNil (neg : Bool) (kd : Nat) (x : Opd) (y : Opd)
  | un (o : UnOp) (x : Opd)
  | convInt (k : IntKind) (x : Opd)
  | convId (x : Opd)
  | convChar (x : Opd)
  | convBytes (x : Opd)
  | makeFunc (fn : Fn) (first : List Opd) (caps : List Opd)
  | makeMap (ks : List Nat)
  | makeSlice (sz : Nat) (bytes : Nat) (zero : AV) (len : Opd) (cap : Opd)
  | sliceStr (x : Opd) (lo : Option Opd) (hi : Option Opd)
  | sliceSl (sz : Nat) (x : Opd) (lo : Option Opd) (hi : Option Opd)
  | fieldAddr (off : Nat) (x : Opd)
  | field (off : Nat) (n : Option Nat) (x : Opd)
  | indexArr (len : Nat) (sz : Nat) (x : Opd) (i : Opd)
  | indexSl (sz : Nat) (x : Opd) (i : Opd)
  | charAt (x : Opd) (i : Opd)
  | lookup (ks : List Nat) (zero : AV) (x : Opd) (i : Opd) (ok : Bool)
  | mapUpdate (ks : List Nat) (m : Opd) (k : Opd) (x : Opd)
  | delete (ks : List Nat) (m : Opd) (k : Opd)
  | extract (x : Opd) (i : Nat)
  | call (f : Opd) (args : List Opd)
  | lenStr (x : Opd)
  | lenSl (x : Opd)
  | lenMap (ks : List Nat) (x : Opd)
  | min (x : Opd) (y : Opd)
  | append (sz : Nat) (bytes : Nat) (hs : Bool) (s : Opd) (x : Opd)
  | append1 (sz : Nat) (bytes : Nat) (s : Opd) (x : Opd)
  | rangeStr (x : Opd)
  | nextStr (x : Opd)
  | defer (f : Opd) (args : List Opd)
  | mapLit (ks : List Nat) (parts : List (AV × Opd))
  deriving Inhabited

structure AOper where
  dst : Option Nat
  guard : Option (Nat × Bool)
  op : AOp
  deriving Inhabited

/-- A region: its operations, what is wanted behind it; if it draws its order: which reads must come to the same before and behind which operations. -/
inductive ACode where
  | skip
  | region (ops : List AOper) (outs : List Nat)
  | draw (ops : List AOper) (chk : List (Nat × List Nat)) (outs : List Nat)
  | seq (a b : ACode)
  | cond (c : Opd) (a b : ACode)
  | block (id : Nat) (c : ACode)
  | loop (c : ACode)
  | rangeFunc (f : Opd) (params : List Nat) (assign body : ACode)
  | exit (id : Nat)
  | ret
  deriving Inhabited

structure AFunc where
  nargs : Nat
  results : List (Nat × Option (Option Nat))
  body : ACode
  stripArgs : Bool
  stripRet : Bool
  gc : Nat
  deriving Inhabited

/-! ### The state -/
inductive LState where
  | ready | busy | done | gone
  deriving DecidableEq, Repr, Inhabited

inductive Jump where
  | ret | exit (id : Nat)
  deriving DecidableEq, Repr, Inhabited

abbrev Env := List (Nat × AV)

inductive AObj where
  | cells (l : List AV)
  | map (ks : List Nat) (es : List (AV × AV))
  | tok (gen sz : Nat)
  | iter (s : List UInt8) (pos : Nat)
  | loop (st : LState) (jump : Option Jump) (tmps : Env) (params : List Nat) (assign body : ACode)
  | defs
  deriving Inhabited

def AObj.cells? (o : AObj) : Option (List AV) :=
  AObj.rec (motive := fun _ => Option (List AV)) (fun l => some l) (fun _ _ => none) (fun _ _ => none) (fun _ _ => none) (fun _ _ _ _ _ _ => none) none o
def AObj.map? (o : AObj) : Option (List Nat × List (AV × AV)) :=
  AObj.rec (motive := fun _ => Option (List Nat × List (AV × AV))) (fun _ => none) (fun ks l => some (ks, l)) (fun _ _ => none) (fun _ _ => none) (fun _ _ _ _ _ _ => none) none o
def AObj.tok? (o : AObj) : Option (Nat × Nat) :=
  AObj.rec (motive := fun _ => Option (Nat × Nat)) (fun _ => none) (fun _ _ => none) (fun g n => some (g, n)) (fun _ _ => none) (fun _ _ _ _ _ _ => none) none o
def AObj.stays (o : AObj) : Bool :=
  AObj.rec (motive := fun _ => Bool) (fun _ => false) (fun _ _ => true) (fun _ _ => true) (fun _ _ => false) (fun _ _ _ _ _ _ => false) false o

abbrev Heap := List (Nat × AObj)

structure St where
  heap : Heap
  next : Nat
  deriving Inhabited

def hget (l : Heap) (i : Nat) : Option AObj :=
  List.rec (motive := fun _ => Option AObj) none (fun p _ ih => bif Nat.beq p.1 i then some p.2 else ih) l
def hset (l : Heap) (i : Nat) (x : AObj) : Heap :=
  List.rec (motive := fun _ => Heap) [] (fun p r ih => bif Nat.beq p.1 i then (i, x) :: r else p :: ih) l
def hdel (l : Heap) (i : Nat) : Heap :=
  List.rec (motive := fun _ => Heap) [] (fun p r ih => bif Nat.beq p.1 i then r else p :: ih) l
def hgc (l : Heap) (n : Nat) : Heap :=
  List.rec (motive := fun _ => Heap) [] (fun p r ih => bif Nat.ble n p.1 then ih else p :: r) l
/-- New variables are dropped, what else is new is kept. -/
def hgc1 (l : Heap) (n : Nat) : Heap :=
  List.rec (motive := fun _ => Heap) [] (fun p r ih => bif Nat.ble n p.1 then (bif p.2.stays then p :: ih else ih) else p :: r) l

def St.get (σ : St) (i : Nat) : Option AObj := hget σ.heap i
def St.set (σ : St) (i : Nat) (o : AObj) : St := ⟨hset σ.heap i o, σ.next⟩
def St.del (σ : St) (i : Nat) : St := ⟨hdel σ.heap i, σ.next⟩
def St.add (σ : St) (o : AObj) : St := ⟨(σ.next, o) :: σ.heap, σ.next + 1⟩
def St.gc (σ : St) (how n : Nat) : St :=
  match how with
  | 0 => σ
  | 1 => ⟨hgc1 σ.heap n, σ.next⟩
  | _ => ⟨hgc σ.heap n, σ.next⟩
def St.cells (σ : St) (o : Nat) : Option (List AV) := (σ.get o).bind AObj.cells?
def St.mapOf (σ : St) (o : Nat) : Option (List Nat × List (AV × AV)) := (σ.get o).bind AObj.map?
def St.tokOf (σ : St) (o : Nat) : Option (Nat × Nat) := (σ.get o).bind AObj.tok?

inductive ADef where
  | call (f : Fn) (args caps : List AV)
  | mark (o : Nat)
  deriving Inhabited

/-- What a temporary holds, so far as it is known. -/
def aget (l : Env) (i : Nat) : AV :=
  List.rec (motive := fun _ => AV) .junk (fun p _ ih => bif Nat.beq p.1 i then p.2 else ih) l
def upd (l : Env) (i : Nat) (v : AV) : Env :=
  List.rec (motive := fun _ => Env) [(i, v)] (fun p r ih => bif Nat.beq p.1 i then (i, v) :: r else p :: ih) l

structure Fr where
  env : Env
  defs : List ADef
  deriving Inhabited

def put (env : Env) (d : Option Nat) (v : AV) : Env :=
  match d with
  | some d => (d, v) :: env
  | none => env

/-- Behind a region: what is wanted further on is kept. -/
def keep (old new : Env) (outs : List Nat) : Env :=
  List.rec (motive := fun _ => Env) old (fun k _ ih => upd ih k (aget new k)) outs

def Opd.eval (tm : Env) (x : Opd) : AV :=
  match x with
  | .t i => aget tm i
  | .c v => v
  | .f n => .fn (.func n) [] []

def evals (tm : Env) (l : List Opd) : List AV :=
  List.rec (motive := fun _ => List AV) [] (fun x _ ih => x.eval tm :: ih) l

/-! ### Lists -/
def nth {α : Type} (l : List α) : Nat → Option α :=
  List.rec (motive := fun _ => Nat → Option α) (fun _ => none) (fun x _ ih n => Nat.rec (motive := fun _ => Option α) (some x) (fun m _ => ih m) n) l
/-- So many from a place on, if there are. -/
def takeN (l : List AV) : Nat → Option (List AV) :=
  List.rec (motive := fun _ => Nat → Option (List AV)) (fun n => bif Nat.beq n 0 then some [] else none)
    (fun x _ ih n => Nat.rec (motive := fun _ => Option (List AV)) (some []) (fun m _ => match ih m with | some r => some (x :: r) | none => none) n) l
def slc (l : List AV) : Nat → Nat → Option (List AV) :=
  List.rec (motive := fun _ => Nat → Nat → Option (List AV)) (fun off n => bif Nat.beq (off + n) 0 then some [] else none)
    (fun x r ih off n => Nat.rec (motive := fun _ => Option (List AV)) (takeN (x :: r) n) (fun m _ => ih m n) off) l
/-- Others laid over from the first place on, if there is room. -/
def over (l : List AV) : List AV → Option (List AV) :=
  List.rec (motive := fun _ => List AV → Option (List AV)) (fun n => match n with | [] => some [] | _ :: _ => none)
    (fun x r ih n => match n with | [] => some (x :: r) | y :: n => match ih n with | some t => some (y :: t) | none => none) l
def splice (l : List AV) : Nat → List AV → Option (List AV) :=
  List.rec (motive := fun _ => Nat → List AV → Option (List AV)) (fun off n => match n with | [] => bif Nat.beq off 0 then some [] else none | _ :: _ => none)
    (fun x r ih off n => Nat.rec (motive := fun _ => Option (List AV)) (over (x :: r) n) (fun m _ => match ih m n with | some t => some (x :: t) | none => none) off) l

/-! ### Values taken apart -/
/-- A value's cells. -/
def AV.cells (v : AV) : List AV :=
  AV.rec (motive_1 := fun _ => List AV) (motive_2 := fun _ => Unit)
    ([.junk])
    ([.undef])
    (fun b => [(.bool b)])
    (fun k n => [(.int k n)])
    (fun s => [(.str s)])
    ([.nilp])
    ([.nilm])
    ([.nilf])
    ([.nili])
    (fun cs _ => cs)
    (fun vs _ => [(.tup vs)])
    (fun es tk _ => [(.slice es tk)])
    (fun o off len sz => [(.hsl o off len sz)])
    (fun o off => [(.ptr o off)])
    (fun cs off _ => [(.eptr cs off)])
    (fun o => [(.map o)])
    (fun o => [(.itr o)])
    (fun f first caps _ _ => [(.fn f first caps)])
    (fun t v _ => [(.iface t v)])
    () (fun _ _ _ _ => ()) v
@[simp] theorem eq_AV_cells_junk : AV.cells (.junk) = [.junk] := rfl
@[simp] theorem eq_AV_cells_undef : AV.cells (.undef) = [.undef] := rfl
@[simp] theorem eq_AV_cells_bool (b : Bool) : AV.cells (.bool b) = [(.bool b)] := rfl
@[simp] theorem eq_AV_cells_int (k : IntKind) (n : Int) : AV.cells (.int k n) = [(.int k n)] := rfl
@[simp] theorem eq_AV_cells_str (s : List UInt8) : AV.cells (.str s) = [(.str s)] := rfl
@[simp] theorem eq_AV_cells_nilp : AV.cells (.nilp) = [.nilp] := rfl
@[simp] theorem eq_AV_cells_nilm : AV.cells (.nilm) = [.nilm] := rfl
@[simp] theorem eq_AV_cells_nilf : AV.cells (.nilf) = [.nilf] := rfl
@[simp] theorem eq_AV_cells_nili : AV.cells (.nili) = [.nili] := rfl
@[simp] theorem eq_AV_cells_agg (cs : List AV) : AV.cells (.agg cs) = cs := rfl
@[simp] theorem eq_AV_cells_tup (vs : List AV) : AV.cells (.tup vs) = [(.tup vs)] := rfl
@[simp] theorem eq_AV_cells_slice (es : List AV) (tk : Tok) : AV.cells (.slice es tk) = [(.slice es tk)] := rfl
@[simp] theorem eq_AV_cells_hsl (o : Nat) (off : Nat) (len : Nat) (sz : Nat) : AV.cells (.hsl o off len sz) = [(.hsl o off len sz)] := rfl
@[simp] theorem eq_AV_cells_ptr (o : Nat) (off : Nat) : AV.cells (.ptr o off) = [(.ptr o off)] := rfl
@[simp] theorem eq_AV_cells_eptr (cs : List AV) (off : Nat) : AV.cells (.eptr cs off) = [(.eptr cs off)] := rfl
@[simp] theorem eq_AV_cells_map (o : Nat) : AV.cells (.map o) = [(.map o)] := rfl
@[simp] theorem eq_AV_cells_itr (o : Nat) : AV.cells (.itr o) = [(.itr o)] := rfl
@[simp] theorem eq_AV_cells_fn (f : Fn) (first : List AV) (caps : List AV) : AV.cells (.fn f first caps) = [(.fn f first caps)] := rfl
@[simp] theorem eq_AV_cells_iface (t : TypeId) (v : AV) : AV.cells (.iface t v) = [(.iface t v)] := rfl


def AV.bool? (v : AV) : Option Bool :=
  AV.rec (motive_1 := fun _ => Option Bool) (motive_2 := fun _ => Unit)
    (none)
    (none)
    (fun b => some b)
    (fun _ _ => none)
    (fun _ => none)
    (none)
    (none)
    (none)
    (none)
    (fun _ _ => none)
    (fun _ _ => none)
    (fun _ _ _ => none)
    (fun _ _ _ _ => none)
    (fun _ _ => none)
    (fun _ _ _ => none)
    (fun _ => none)
    (fun _ => none)
    (fun _ _ _ _ _ => none)
    (fun _ _ _ => none)
    () (fun _ _ _ _ => ()) v
@[simp] theorem eq_AV_bool_junk : AV.bool? (.junk) = none := rfl
@[simp] theorem eq_AV_bool_undef : AV.bool? (.undef) = none := rfl
@[simp] theorem eq_AV_bool_bool (b : Bool) : AV.bool? (.bool b) = some b := rfl
@[simp] theorem eq_AV_bool_int (k : IntKind) (n : Int) : AV.bool? (.int k n) = none := rfl
@[simp] theorem eq_AV_bool_str (s : List UInt8) : AV.bool? (.str s) = none := rfl
@[simp] theorem eq_AV_bool_nilp : AV.bool? (.nilp) = none := rfl
@[simp] theorem eq_AV_bool_nilm : AV.bool? (.nilm) = none := rfl
@[simp] theorem eq_AV_bool_nilf : AV.bool? (.nilf) = none := rfl
@[simp] theorem eq_AV_bool_nili : AV.bool? (.nili) = none := rfl
@[simp] theorem eq_AV_bool_agg (cs : List AV) : AV.bool? (.agg cs) = none := rfl
@[simp] theorem eq_AV_bool_tup (vs : List AV) : AV.bool? (.tup vs) = none := rfl
@[simp] theorem eq_AV_bool_slice (es : List AV) (tk : Tok) : AV.bool? (.slice es tk) = none := rfl
@[simp] theorem eq_AV_bool_hsl (o : Nat) (off : Nat) (len : Nat) (sz : Nat) : AV.bool? (.hsl o off len sz) = none := rfl
@[simp] theorem eq_AV_bool_ptr (o : Nat) (off : Nat) : AV.bool? (.ptr o off) = none := rfl
@[simp] theorem eq_AV_bool_eptr (cs : List AV) (off : Nat) : AV.bool? (.eptr cs off) = none := rfl
@[simp] theorem eq_AV_bool_map (o : Nat) : AV.bool? (.map o) = none := rfl
@[simp] theorem eq_AV_bool_itr (o : Nat) : AV.bool? (.itr o) = none := rfl
@[simp] theorem eq_AV_bool_fn (f : Fn) (first : List AV) (caps : List AV) : AV.bool? (.fn f first caps) = none := rfl
@[simp] theorem eq_AV_bool_iface (t : TypeId) (v : AV) : AV.bool? (.iface t v) = none := rfl


def AV.int? (v : AV) : Option Int :=
  AV.rec (motive_1 := fun _ => Option Int) (motive_2 := fun _ => Unit)
    (none)
    (none)
    (fun _ => none)
    (fun _ n => some n)
    (fun _ => none)
    (none)
    (none)
    (none)
    (none)
    (fun _ _ => none)
    (fun _ _ => none)
    (fun _ _ _ => none)
    (fun _ _ _ _ => none)
    (fun _ _ => none)
    (fun _ _ _ => none)
    (fun _ => none)
    (fun _ => none)
    (fun _ _ _ _ _ => none)
    (fun _ _ _ => none)
    () (fun _ _ _ _ => ()) v
@[simp] theorem eq_AV_int_junk : AV.int? (.junk) = none := rfl
@[simp] theorem eq_AV_int_undef : AV.int? (.undef) = none := rfl
@[simp] theorem eq_AV_int_bool (b : Bool) : AV.int? (.bool b) = none := rfl
@[simp] theorem eq_AV_int_int (k : IntKind) (n : Int) : AV.int? (.int k n) = some n := rfl
@[simp] theorem eq_AV_int_str (s : List UInt8) : AV.int? (.str s) = none := rfl
@[simp] theorem eq_AV_int_nilp : AV.int? (.nilp) = none := rfl
@[simp] theorem eq_AV_int_nilm : AV.int? (.nilm) = none := rfl
@[simp] theorem eq_AV_int_nilf : AV.int? (.nilf) = none := rfl
@[simp] theorem eq_AV_int_nili : AV.int? (.nili) = none := rfl
@[simp] theorem eq_AV_int_agg (cs : List AV) : AV.int? (.agg cs) = none := rfl
@[simp] theorem eq_AV_int_tup (vs : List AV) : AV.int? (.tup vs) = none := rfl
@[simp] theorem eq_AV_int_slice (es : List AV) (tk : Tok) : AV.int? (.slice es tk) = none := rfl
@[simp] theorem eq_AV_int_hsl (o : Nat) (off : Nat) (len : Nat) (sz : Nat) : AV.int? (.hsl o off len sz) = none := rfl
@[simp] theorem eq_AV_int_ptr (o : Nat) (off : Nat) : AV.int? (.ptr o off) = none := rfl
@[simp] theorem eq_AV_int_eptr (cs : List AV) (off : Nat) : AV.int? (.eptr cs off) = none := rfl
@[simp] theorem eq_AV_int_map (o : Nat) : AV.int? (.map o) = none := rfl
@[simp] theorem eq_AV_int_itr (o : Nat) : AV.int? (.itr o) = none := rfl
@[simp] theorem eq_AV_int_fn (f : Fn) (first : List AV) (caps : List AV) : AV.int? (.fn f first caps) = none := rfl
@[simp] theorem eq_AV_int_iface (t : TypeId) (v : AV) : AV.int? (.iface t v) = none := rfl


def AV.str? (v : AV) : Option (List UInt8) :=
  AV.rec (motive_1 := fun _ => Option (List UInt8)) (motive_2 := fun _ => Unit)
    (none)
    (none)
    (fun _ => none)
    (fun _ _ => none)
    (fun s => some s)
    (none)
    (none)
    (none)
    (none)
    (fun _ _ => none)
    (fun _ _ => none)
    (fun _ _ _ => none)
    (fun _ _ _ _ => none)
    (fun _ _ => none)
    (fun _ _ _ => none)
    (fun _ => none)
    (fun _ => none)
    (fun _ _ _ _ _ => none)
    (fun _ _ _ => none)
    () (fun _ _ _ _ => ()) v
@[simp] theorem eq_AV_str_junk : AV.str? (.junk) = none := rfl
@[simp] theorem eq_AV_str_undef : AV.str? (.undef) = none := rfl
@[simp] theorem eq_AV_str_bool (b : Bool) : AV.str? (.bool b) = none := rfl
@[simp] theorem eq_AV_str_int (k : IntKind) (n : Int) : AV.str? (.int k n) = none := rfl
@[simp] theorem eq_AV_str_str (s : List UInt8) : AV.str? (.str s) = some s := rfl
@[simp] theorem eq_AV_str_nilp : AV.str? (.nilp) = none := rfl
@[simp] theorem eq_AV_str_nilm : AV.str? (.nilm) = none := rfl
@[simp] theorem eq_AV_str_nilf : AV.str? (.nilf) = none := rfl
@[simp] theorem eq_AV_str_nili : AV.str? (.nili) = none := rfl
@[simp] theorem eq_AV_str_agg (cs : List AV) : AV.str? (.agg cs) = none := rfl
@[simp] theorem eq_AV_str_tup (vs : List AV) : AV.str? (.tup vs) = none := rfl
@[simp] theorem eq_AV_str_slice (es : List AV) (tk : Tok) : AV.str? (.slice es tk) = none := rfl
@[simp] theorem eq_AV_str_hsl (o : Nat) (off : Nat) (len : Nat) (sz : Nat) : AV.str? (.hsl o off len sz) = none := rfl
@[simp] theorem eq_AV_str_ptr (o : Nat) (off : Nat) : AV.str? (.ptr o off) = none := rfl
@[simp] theorem eq_AV_str_eptr (cs : List AV) (off : Nat) : AV.str? (.eptr cs off) = none := rfl
@[simp] theorem eq_AV_str_map (o : Nat) : AV.str? (.map o) = none := rfl
@[simp] theorem eq_AV_str_itr (o : Nat) : AV.str? (.itr o) = none := rfl
@[simp] theorem eq_AV_str_fn (f : Fn) (first : List AV) (caps : List AV) : AV.str? (.fn f first caps) = none := rfl
@[simp] theorem eq_AV_str_iface (t : TypeId) (v : AV) : AV.str? (.iface t v) = none := rfl


def AV.agg? (v : AV) : Option (List AV) :=
  AV.rec (motive_1 := fun _ => Option (List AV)) (motive_2 := fun _ => Unit)
    (none)
    (none)
    (fun _ => none)
    (fun _ _ => none)
    (fun _ => none)
    (none)
    (none)
    (none)
    (none)
    (fun cs _ => some cs)
    (fun _ _ => none)
    (fun _ _ _ => none)
    (fun _ _ _ _ => none)
    (fun _ _ => none)
    (fun _ _ _ => none)
    (fun _ => none)
    (fun _ => none)
    (fun _ _ _ _ _ => none)
    (fun _ _ _ => none)
    () (fun _ _ _ _ => ()) v
@[simp] theorem eq_AV_agg_junk : AV.agg? (.junk) = none := rfl
@[simp] theorem eq_AV_agg_undef : AV.agg? (.undef) = none := rfl
@[simp] theorem eq_AV_agg_bool (b : Bool) : AV.agg? (.bool b) = none := rfl
@[simp] theorem eq_AV_agg_int (k : IntKind) (n : Int) : AV.agg? (.int k n) = none := rfl
@[simp] theorem eq_AV_agg_str (s : List UInt8) : AV.agg? (.str s) = none := rfl
@[simp] theorem eq_AV_agg_nilp : AV.agg? (.nilp) = none := rfl
@[simp] theorem eq_AV_agg_nilm : AV.agg? (.nilm) = none := rfl
@[simp] theorem eq_AV_agg_nilf : AV.agg? (.nilf) = none := rfl
@[simp] theorem eq_AV_agg_nili : AV.agg? (.nili) = none := rfl
@[simp] theorem eq_AV_agg_agg (cs : List AV) : AV.agg? (.agg cs) = some cs := rfl
@[simp] theorem eq_AV_agg_tup (vs : List AV) : AV.agg? (.tup vs) = none := rfl
@[simp] theorem eq_AV_agg_slice (es : List AV) (tk : Tok) : AV.agg? (.slice es tk) = none := rfl
@[simp] theorem eq_AV_agg_hsl (o : Nat) (off : Nat) (len : Nat) (sz : Nat) : AV.agg? (.hsl o off len sz) = none := rfl
@[simp] theorem eq_AV_agg_ptr (o : Nat) (off : Nat) : AV.agg? (.ptr o off) = none := rfl
@[simp] theorem eq_AV_agg_eptr (cs : List AV) (off : Nat) : AV.agg? (.eptr cs off) = none := rfl
@[simp] theorem eq_AV_agg_map (o : Nat) : AV.agg? (.map o) = none := rfl
@[simp] theorem eq_AV_agg_itr (o : Nat) : AV.agg? (.itr o) = none := rfl
@[simp] theorem eq_AV_agg_fn (f : Fn) (first : List AV) (caps : List AV) : AV.agg? (.fn f first caps) = none := rfl
@[simp] theorem eq_AV_agg_iface (t : TypeId) (v : AV) : AV.agg? (.iface t v) = none := rfl


def AV.tup? (v : AV) : Option (List AV) :=
  AV.rec (motive_1 := fun _ => Option (List AV)) (motive_2 := fun _ => Unit)
    (none)
    (none)
    (fun _ => none)
    (fun _ _ => none)
    (fun _ => none)
    (none)
    (none)
    (none)
    (none)
    (fun _ _ => none)
    (fun vs _ => some vs)
    (fun _ _ _ => none)
    (fun _ _ _ _ => none)
    (fun _ _ => none)
    (fun _ _ _ => none)
    (fun _ => none)
    (fun _ => none)
    (fun _ _ _ _ _ => none)
    (fun _ _ _ => none)
    () (fun _ _ _ _ => ()) v
@[simp] theorem eq_AV_tup_junk : AV.tup? (.junk) = none := rfl
@[simp] theorem eq_AV_tup_undef : AV.tup? (.undef) = none := rfl
@[simp] theorem eq_AV_tup_bool (b : Bool) : AV.tup? (.bool b) = none := rfl
@[simp] theorem eq_AV_tup_int (k : IntKind) (n : Int) : AV.tup? (.int k n) = none := rfl
@[simp] theorem eq_AV_tup_str (s : List UInt8) : AV.tup? (.str s) = none := rfl
@[simp] theorem eq_AV_tup_nilp : AV.tup? (.nilp) = none := rfl
@[simp] theorem eq_AV_tup_nilm : AV.tup? (.nilm) = none := rfl
@[simp] theorem eq_AV_tup_nilf : AV.tup? (.nilf) = none := rfl
@[simp] theorem eq_AV_tup_nili : AV.tup? (.nili) = none := rfl
@[simp] theorem eq_AV_tup_agg (cs : List AV) : AV.tup? (.agg cs) = none := rfl
@[simp] theorem eq_AV_tup_tup (vs : List AV) : AV.tup? (.tup vs) = some vs := rfl
@[simp] theorem eq_AV_tup_slice (es : List AV) (tk : Tok) : AV.tup? (.slice es tk) = none := rfl
@[simp] theorem eq_AV_tup_hsl (o : Nat) (off : Nat) (len : Nat) (sz : Nat) : AV.tup? (.hsl o off len sz) = none := rfl
@[simp] theorem eq_AV_tup_ptr (o : Nat) (off : Nat) : AV.tup? (.ptr o off) = none := rfl
@[simp] theorem eq_AV_tup_eptr (cs : List AV) (off : Nat) : AV.tup? (.eptr cs off) = none := rfl
@[simp] theorem eq_AV_tup_map (o : Nat) : AV.tup? (.map o) = none := rfl
@[simp] theorem eq_AV_tup_itr (o : Nat) : AV.tup? (.itr o) = none := rfl
@[simp] theorem eq_AV_tup_fn (f : Fn) (first : List AV) (caps : List AV) : AV.tup? (.fn f first caps) = none := rfl
@[simp] theorem eq_AV_tup_iface (t : TypeId) (v : AV) : AV.tup? (.iface t v) = none := rfl


def AV.map? (v : AV) : Option Nat :=
  AV.rec (motive_1 := fun _ => Option Nat) (motive_2 := fun _ => Unit)
    (none)
    (none)
    (fun _ => none)
    (fun _ _ => none)
    (fun _ => none)
    (none)
    (none)
    (none)
    (none)
    (fun _ _ => none)
    (fun _ _ => none)
    (fun _ _ _ => none)
    (fun _ _ _ _ => none)
    (fun _ _ => none)
    (fun _ _ _ => none)
    (fun o => some o)
    (fun _ => none)
    (fun _ _ _ _ _ => none)
    (fun _ _ _ => none)
    () (fun _ _ _ _ => ()) v
@[simp] theorem eq_AV_map_junk : AV.map? (.junk) = none := rfl
@[simp] theorem eq_AV_map_undef : AV.map? (.undef) = none := rfl
@[simp] theorem eq_AV_map_bool (b : Bool) : AV.map? (.bool b) = none := rfl
@[simp] theorem eq_AV_map_int (k : IntKind) (n : Int) : AV.map? (.int k n) = none := rfl
@[simp] theorem eq_AV_map_str (s : List UInt8) : AV.map? (.str s) = none := rfl
@[simp] theorem eq_AV_map_nilp : AV.map? (.nilp) = none := rfl
@[simp] theorem eq_AV_map_nilm : AV.map? (.nilm) = none := rfl
@[simp] theorem eq_AV_map_nilf : AV.map? (.nilf) = none := rfl
@[simp] theorem eq_AV_map_nili : AV.map? (.nili) = none := rfl
@[simp] theorem eq_AV_map_agg (cs : List AV) : AV.map? (.agg cs) = none := rfl
@[simp] theorem eq_AV_map_tup (vs : List AV) : AV.map? (.tup vs) = none := rfl
@[simp] theorem eq_AV_map_slice (es : List AV) (tk : Tok) : AV.map? (.slice es tk) = none := rfl
@[simp] theorem eq_AV_map_hsl (o : Nat) (off : Nat) (len : Nat) (sz : Nat) : AV.map? (.hsl o off len sz) = none := rfl
@[simp] theorem eq_AV_map_ptr (o : Nat) (off : Nat) : AV.map? (.ptr o off) = none := rfl
@[simp] theorem eq_AV_map_eptr (cs : List AV) (off : Nat) : AV.map? (.eptr cs off) = none := rfl
@[simp] theorem eq_AV_map_map (o : Nat) : AV.map? (.map o) = some o := rfl
@[simp] theorem eq_AV_map_itr (o : Nat) : AV.map? (.itr o) = none := rfl
@[simp] theorem eq_AV_map_fn (f : Fn) (first : List AV) (caps : List AV) : AV.map? (.fn f first caps) = none := rfl
@[simp] theorem eq_AV_map_iface (t : TypeId) (v : AV) : AV.map? (.iface t v) = none := rfl


def AV.itr? (v : AV) : Option Nat :=
  AV.rec (motive_1 := fun _ => Option Nat) (motive_2 := fun _ => Unit)
    (none)
    (none)
    (fun _ => none)
    (fun _ _ => none)
    (fun _ => none)
    (none)
    (none)
    (none)
    (none)
    (fun _ _ => none)
    (fun _ _ => none)
    (fun _ _ _ => none)
    (fun _ _ _ _ => none)
    (fun _ _ => none)
    (fun _ _ _ => none)
    (fun _ => none)
    (fun o => some o)
    (fun _ _ _ _ _ => none)
    (fun _ _ _ => none)
    () (fun _ _ _ _ => ()) v
@[simp] theorem eq_AV_itr_junk : AV.itr? (.junk) = none := rfl
@[simp] theorem eq_AV_itr_undef : AV.itr? (.undef) = none := rfl
@[simp] theorem eq_AV_itr_bool (b : Bool) : AV.itr? (.bool b) = none := rfl
@[simp] theorem eq_AV_itr_int (k : IntKind) (n : Int) : AV.itr? (.int k n) = none := rfl
@[simp] theorem eq_AV_itr_str (s : List UInt8) : AV.itr? (.str s) = none := rfl
@[simp] theorem eq_AV_itr_nilp : AV.itr? (.nilp) = none := rfl
@[simp] theorem eq_AV_itr_nilm : AV.itr? (.nilm) = none := rfl
@[simp] theorem eq_AV_itr_nilf : AV.itr? (.nilf) = none := rfl
@[simp] theorem eq_AV_itr_nili : AV.itr? (.nili) = none := rfl
@[simp] theorem eq_AV_itr_agg (cs : List AV) : AV.itr? (.agg cs) = none := rfl
@[simp] theorem eq_AV_itr_tup (vs : List AV) : AV.itr? (.tup vs) = none := rfl
@[simp] theorem eq_AV_itr_slice (es : List AV) (tk : Tok) : AV.itr? (.slice es tk) = none := rfl
@[simp] theorem eq_AV_itr_hsl (o : Nat) (off : Nat) (len : Nat) (sz : Nat) : AV.itr? (.hsl o off len sz) = none := rfl
@[simp] theorem eq_AV_itr_ptr (o : Nat) (off : Nat) : AV.itr? (.ptr o off) = none := rfl
@[simp] theorem eq_AV_itr_eptr (cs : List AV) (off : Nat) : AV.itr? (.eptr cs off) = none := rfl
@[simp] theorem eq_AV_itr_map (o : Nat) : AV.itr? (.map o) = none := rfl
@[simp] theorem eq_AV_itr_itr (o : Nat) : AV.itr? (.itr o) = some o := rfl
@[simp] theorem eq_AV_itr_fn (f : Fn) (first : List AV) (caps : List AV) : AV.itr? (.fn f first caps) = none := rfl
@[simp] theorem eq_AV_itr_iface (t : TypeId) (v : AV) : AV.itr? (.iface t v) = none := rfl


/-- It may be appended to no more. -/
def strip (v : AV) : AV :=
  AV.rec (motive_1 := fun _ => AV) (motive_2 := fun _ => Unit)
    (.junk)
    (.undef)
    (fun b => (.bool b))
    (fun k n => (.int k n))
    (fun s => (.str s))
    (.nilp)
    (.nilm)
    (.nilf)
    (.nili)
    (fun cs _ => (.agg cs))
    (fun vs _ => (.tup vs))
    (fun es _ _ => .slice es .none)
    (fun o off len sz => (.hsl o off len sz))
    (fun o off => (.ptr o off))
    (fun cs off _ => (.eptr cs off))
    (fun o => (.map o))
    (fun o => (.itr o))
    (fun f first caps _ _ => (.fn f first caps))
    (fun t v _ => (.iface t v))
    () (fun _ _ _ _ => ()) v
@[simp] theorem eq_strip_junk : strip (.junk) = .junk := rfl
@[simp] theorem eq_strip_undef : strip (.undef) = .undef := rfl
@[simp] theorem eq_strip_bool (b : Bool) : strip (.bool b) = (.bool b) := rfl
@[simp] theorem eq_strip_int (k : IntKind) (n : Int) : strip (.int k n) = (.int k n) := rfl
@[simp] theorem eq_strip_str (s : List UInt8) : strip (.str s) = (.str s) := rfl
@[simp] theorem eq_strip_nilp : strip (.nilp) = .nilp := rfl
@[simp] theorem eq_strip_nilm : strip (.nilm) = .nilm := rfl
@[simp] theorem eq_strip_nilf : strip (.nilf) = .nilf := rfl
@[simp] theorem eq_strip_nili : strip (.nili) = .nili := rfl
@[simp] theorem eq_strip_agg (cs : List AV) : strip (.agg cs) = (.agg cs) := rfl
@[simp] theorem eq_strip_tup (vs : List AV) : strip (.tup vs) = (.tup vs) := rfl
@[simp] theorem eq_strip_slice (es : List AV) (tk : Tok) : strip (.slice es tk) = .slice es .none := rfl
@[simp] theorem eq_strip_hsl (o : Nat) (off : Nat) (len : Nat) (sz : Nat) : strip (.hsl o off len sz) = (.hsl o off len sz) := rfl
@[simp] theorem eq_strip_ptr (o : Nat) (off : Nat) : strip (.ptr o off) = (.ptr o off) := rfl
@[simp] theorem eq_strip_eptr (cs : List AV) (off : Nat) : strip (.eptr cs off) = (.eptr cs off) := rfl
@[simp] theorem eq_strip_map (o : Nat) : strip (.map o) = (.map o) := rfl
@[simp] theorem eq_strip_itr (o : Nat) : strip (.itr o) = (.itr o) := rfl
@[simp] theorem eq_strip_fn (f : Fn) (first : List AV) (caps : List AV) : strip (.fn f first caps) = (.fn f first caps) := rfl
@[simp] theorem eq_strip_iface (t : TypeId) (v : AV) : strip (.iface t v) = (.iface t v) := rfl


def stripCell (v : AV) : AV :=
  AV.rec (motive_1 := fun _ => AV) (motive_2 := fun _ => Unit)
    (.junk)
    (.undef)
    (fun b => (.bool b))
    (fun k n => (.int k n))
    (fun s => (.str s))
    (.nilp)
    (.nilm)
    (.nilf)
    (.nili)
    (fun cs _ => .agg (cs.map strip))
    (fun vs _ => (.tup vs))
    (fun es _ _ => .slice es .none)
    (fun o off len sz => (.hsl o off len sz))
    (fun o off => (.ptr o off))
    (fun cs off _ => (.eptr cs off))
    (fun o => (.map o))
    (fun o => (.itr o))
    (fun f first caps _ _ => (.fn f first caps))
    (fun t v _ => (.iface t v))
    () (fun _ _ _ _ => ()) v
@[simp] theorem eq_stripCell_junk : stripCell (.junk) = .junk := rfl
@[simp] theorem eq_stripCell_undef : stripCell (.undef) = .undef := rfl
@[simp] theorem eq_stripCell_bool (b : Bool) : stripCell (.bool b) = (.bool b) := rfl
@[simp] theorem eq_stripCell_int (k : IntKind) (n : Int) : stripCell (.int k n) = (.int k n) := rfl
@[simp] theorem eq_stripCell_str (s : List UInt8) : stripCell (.str s) = (.str s) := rfl
@[simp] theorem eq_stripCell_nilp : stripCell (.nilp) = .nilp := rfl
@[simp] theorem eq_stripCell_nilm : stripCell (.nilm) = .nilm := rfl
@[simp] theorem eq_stripCell_nilf : stripCell (.nilf) = .nilf := rfl
@[simp] theorem eq_stripCell_nili : stripCell (.nili) = .nili := rfl
@[simp] theorem eq_stripCell_agg (cs : List AV) : stripCell (.agg cs) = .agg (cs.map strip) := rfl
@[simp] theorem eq_stripCell_tup (vs : List AV) : stripCell (.tup vs) = (.tup vs) := rfl
@[simp] theorem eq_stripCell_slice (es : List AV) (tk : Tok) : stripCell (.slice es tk) = .slice es .none := rfl
@[simp] theorem eq_stripCell_hsl (o : Nat) (off : Nat) (len : Nat) (sz : Nat) : stripCell (.hsl o off len sz) = (.hsl o off len sz) := rfl
@[simp] theorem eq_stripCell_ptr (o : Nat) (off : Nat) : stripCell (.ptr o off) = (.ptr o off) := rfl
@[simp] theorem eq_stripCell_eptr (cs : List AV) (off : Nat) : stripCell (.eptr cs off) = (.eptr cs off) := rfl
@[simp] theorem eq_stripCell_map (o : Nat) : stripCell (.map o) = (.map o) := rfl
@[simp] theorem eq_stripCell_itr (o : Nat) : stripCell (.itr o) = (.itr o) := rfl
@[simp] theorem eq_stripCell_fn (f : Fn) (first : List AV) (caps : List AV) : stripCell (.fn f first caps) = (.fn f first caps) := rfl
@[simp] theorem eq_stripCell_iface (t : TypeId) (v : AV) : stripCell (.iface t v) = (.iface t v) := rfl


def stripAgg (v : AV) : AV :=
  AV.rec (motive_1 := fun _ => AV) (motive_2 := fun _ => Unit)
    (.junk)
    (.undef)
    (fun b => (.bool b))
    (fun k n => (.int k n))
    (fun s => (.str s))
    (.nilp)
    (.nilm)
    (.nilf)
    (.nili)
    (fun cs _ => .agg (cs.map strip))
    (fun vs _ => (.tup vs))
    (fun es tk _ => (.slice es tk))
    (fun o off len sz => (.hsl o off len sz))
    (fun o off => (.ptr o off))
    (fun cs off _ => (.eptr cs off))
    (fun o => (.map o))
    (fun o => (.itr o))
    (fun f first caps _ _ => (.fn f first caps))
    (fun t v _ => (.iface t v))
    () (fun _ _ _ _ => ()) v
@[simp] theorem eq_stripAgg_junk : stripAgg (.junk) = .junk := rfl
@[simp] theorem eq_stripAgg_undef : stripAgg (.undef) = .undef := rfl
@[simp] theorem eq_stripAgg_bool (b : Bool) : stripAgg (.bool b) = (.bool b) := rfl
@[simp] theorem eq_stripAgg_int (k : IntKind) (n : Int) : stripAgg (.int k n) = (.int k n) := rfl
@[simp] theorem eq_stripAgg_str (s : List UInt8) : stripAgg (.str s) = (.str s) := rfl
@[simp] theorem eq_stripAgg_nilp : stripAgg (.nilp) = .nilp := rfl
@[simp] theorem eq_stripAgg_nilm : stripAgg (.nilm) = .nilm := rfl
@[simp] theorem eq_stripAgg_nilf : stripAgg (.nilf) = .nilf := rfl
@[simp] theorem eq_stripAgg_nili : stripAgg (.nili) = .nili := rfl
@[simp] theorem eq_stripAgg_agg (cs : List AV) : stripAgg (.agg cs) = .agg (cs.map strip) := rfl
@[simp] theorem eq_stripAgg_tup (vs : List AV) : stripAgg (.tup vs) = (.tup vs) := rfl
@[simp] theorem eq_stripAgg_slice (es : List AV) (tk : Tok) : stripAgg (.slice es tk) = (.slice es tk) := rfl
@[simp] theorem eq_stripAgg_hsl (o : Nat) (off : Nat) (len : Nat) (sz : Nat) : stripAgg (.hsl o off len sz) = (.hsl o off len sz) := rfl
@[simp] theorem eq_stripAgg_ptr (o : Nat) (off : Nat) : stripAgg (.ptr o off) = (.ptr o off) := rfl
@[simp] theorem eq_stripAgg_eptr (cs : List AV) (off : Nat) : stripAgg (.eptr cs off) = (.eptr cs off) := rfl
@[simp] theorem eq_stripAgg_map (o : Nat) : stripAgg (.map o) = (.map o) := rfl
@[simp] theorem eq_stripAgg_itr (o : Nat) : stripAgg (.itr o) = (.itr o) := rfl
@[simp] theorem eq_stripAgg_fn (f : Fn) (first : List AV) (caps : List AV) : stripAgg (.fn f first caps) = (.fn f first caps) := rfl
@[simp] theorem eq_stripAgg_iface (t : TypeId) (v : AV) : stripAgg (.iface t v) = (.iface t v) := rfl


/-- What is handed on or back: a slice may still be appended to, what lies in a struct may not. -/
def stripVal (v : AV) : AV :=
  AV.rec (motive_1 := fun _ => AV) (motive_2 := fun _ => Unit)
    (.junk)
    (.undef)
    (fun b => (.bool b))
    (fun k n => (.int k n))
    (fun s => (.str s))
    (.nilp)
    (.nilm)
    (.nilf)
    (.nili)
    (fun cs _ => .agg (cs.map strip))
    (fun vs _ => .tup (vs.map stripAgg))
    (fun es tk _ => (.slice es tk))
    (fun o off len sz => (.hsl o off len sz))
    (fun o off => (.ptr o off))
    (fun cs off _ => (.eptr cs off))
    (fun o => (.map o))
    (fun o => (.itr o))
    (fun f first caps _ _ => (.fn f first caps))
    (fun t v _ => (.iface t v))
    () (fun _ _ _ _ => ()) v
@[simp] theorem eq_stripVal_junk : stripVal (.junk) = .junk := rfl
@[simp] theorem eq_stripVal_undef : stripVal (.undef) = .undef := rfl
@[simp] theorem eq_stripVal_bool (b : Bool) : stripVal (.bool b) = (.bool b) := rfl
@[simp] theorem eq_stripVal_int (k : IntKind) (n : Int) : stripVal (.int k n) = (.int k n) := rfl
@[simp] theorem eq_stripVal_str (s : List UInt8) : stripVal (.str s) = (.str s) := rfl
@[simp] theorem eq_stripVal_nilp : stripVal (.nilp) = .nilp := rfl
@[simp] theorem eq_stripVal_nilm : stripVal (.nilm) = .nilm := rfl
@[simp] theorem eq_stripVal_nilf : stripVal (.nilf) = .nilf := rfl
@[simp] theorem eq_stripVal_nili : stripVal (.nili) = .nili := rfl
@[simp] theorem eq_stripVal_agg (cs : List AV) : stripVal (.agg cs) = .agg (cs.map strip) := rfl
@[simp] theorem eq_stripVal_tup (vs : List AV) : stripVal (.tup vs) = .tup (vs.map stripAgg) := rfl
@[simp] theorem eq_stripVal_slice (es : List AV) (tk : Tok) : stripVal (.slice es tk) = (.slice es tk) := rfl
@[simp] theorem eq_stripVal_hsl (o : Nat) (off : Nat) (len : Nat) (sz : Nat) : stripVal (.hsl o off len sz) = (.hsl o off len sz) := rfl
@[simp] theorem eq_stripVal_ptr (o : Nat) (off : Nat) : stripVal (.ptr o off) = (.ptr o off) := rfl
@[simp] theorem eq_stripVal_eptr (cs : List AV) (off : Nat) : stripVal (.eptr cs off) = (.eptr cs off) := rfl
@[simp] theorem eq_stripVal_map (o : Nat) : stripVal (.map o) = (.map o) := rfl
@[simp] theorem eq_stripVal_itr (o : Nat) : stripVal (.itr o) = (.itr o) := rfl
@[simp] theorem eq_stripVal_fn (f : Fn) (first : List AV) (caps : List AV) : stripVal (.fn f first caps) = (.fn f first caps) := rfl
@[simp] theorem eq_stripVal_iface (t : TypeId) (v : AV) : stripVal (.iface t v) = (.iface t v) := rfl


def known (v : AV) : Bool :=
  AV.rec (motive_1 := fun _ => Bool) (motive_2 := fun _ => Unit)
    (false)
    (true)
    (fun _ => true)
    (fun _ _ => true)
    (fun _ => true)
    (true)
    (true)
    (true)
    (true)
    (fun _ _ => true)
    (fun _ _ => true)
    (fun _ _ _ => true)
    (fun _ _ _ _ => true)
    (fun _ _ => true)
    (fun _ _ _ => true)
    (fun _ => true)
    (fun _ => true)
    (fun _ _ _ _ _ => true)
    (fun _ _ _ => true)
    () (fun _ _ _ _ => ()) v
@[simp] theorem eq_known_junk : known (.junk) = false := rfl
@[simp] theorem eq_known_undef : known (.undef) = true := rfl
@[simp] theorem eq_known_bool (b : Bool) : known (.bool b) = true := rfl
@[simp] theorem eq_known_int (k : IntKind) (n : Int) : known (.int k n) = true := rfl
@[simp] theorem eq_known_str (s : List UInt8) : known (.str s) = true := rfl
@[simp] theorem eq_known_nilp : known (.nilp) = true := rfl
@[simp] theorem eq_known_nilm : known (.nilm) = true := rfl
@[simp] theorem eq_known_nilf : known (.nilf) = true := rfl
@[simp] theorem eq_known_nili : known (.nili) = true := rfl
@[simp] theorem eq_known_agg (cs : List AV) : known (.agg cs) = true := rfl
@[simp] theorem eq_known_tup (vs : List AV) : known (.tup vs) = true := rfl
@[simp] theorem eq_known_slice (es : List AV) (tk : Tok) : known (.slice es tk) = true := rfl
@[simp] theorem eq_known_hsl (o : Nat) (off : Nat) (len : Nat) (sz : Nat) : known (.hsl o off len sz) = true := rfl
@[simp] theorem eq_known_ptr (o : Nat) (off : Nat) : known (.ptr o off) = true := rfl
@[simp] theorem eq_known_eptr (cs : List AV) (off : Nat) : known (.eptr cs off) = true := rfl
@[simp] theorem eq_known_map (o : Nat) : known (.map o) = true := rfl
@[simp] theorem eq_known_itr (o : Nat) : known (.itr o) = true := rfl
@[simp] theorem eq_known_fn (f : Fn) (first : List AV) (caps : List AV) : known (.fn f first caps) = true := rfl
@[simp] theorem eq_known_iface (t : TypeId) (v : AV) : known (.iface t v) = true := rfl


def isCell (v : AV) : Bool :=
  AV.rec (motive_1 := fun _ => Bool) (motive_2 := fun _ => Unit)
    (false)
    (false)
    (fun _ => true)
    (fun _ _ => true)
    (fun _ => true)
    (true)
    (true)
    (true)
    (true)
    (fun _ _ => false)
    (fun _ _ => false)
    (fun _ _ _ => true)
    (fun _ _ _ _ => true)
    (fun _ _ => true)
    (fun _ _ _ => true)
    (fun _ => true)
    (fun _ => true)
    (fun _ _ _ _ _ => true)
    (fun _ _ _ => false)
    () (fun _ _ _ _ => ()) v
@[simp] theorem eq_isCell_junk : isCell (.junk) = false := rfl
@[simp] theorem eq_isCell_undef : isCell (.undef) = false := rfl
@[simp] theorem eq_isCell_bool (b : Bool) : isCell (.bool b) = true := rfl
@[simp] theorem eq_isCell_int (k : IntKind) (n : Int) : isCell (.int k n) = true := rfl
@[simp] theorem eq_isCell_str (s : List UInt8) : isCell (.str s) = true := rfl
@[simp] theorem eq_isCell_nilp : isCell (.nilp) = true := rfl
@[simp] theorem eq_isCell_nilm : isCell (.nilm) = true := rfl
@[simp] theorem eq_isCell_nilf : isCell (.nilf) = true := rfl
@[simp] theorem eq_isCell_nili : isCell (.nili) = true := rfl
@[simp] theorem eq_isCell_agg (cs : List AV) : isCell (.agg cs) = false := rfl
@[simp] theorem eq_isCell_tup (vs : List AV) : isCell (.tup vs) = false := rfl
@[simp] theorem eq_isCell_slice (es : List AV) (tk : Tok) : isCell (.slice es tk) = true := rfl
@[simp] theorem eq_isCell_hsl (o : Nat) (off : Nat) (len : Nat) (sz : Nat) : isCell (.hsl o off len sz) = true := rfl
@[simp] theorem eq_isCell_ptr (o : Nat) (off : Nat) : isCell (.ptr o off) = true := rfl
@[simp] theorem eq_isCell_eptr (cs : List AV) (off : Nat) : isCell (.eptr cs off) = true := rfl
@[simp] theorem eq_isCell_map (o : Nat) : isCell (.map o) = true := rfl
@[simp] theorem eq_isCell_itr (o : Nat) : isCell (.itr o) = true := rfl
@[simp] theorem eq_isCell_fn (f : Fn) (first : List AV) (caps : List AV) : isCell (.fn f first caps) = true := rfl
@[simp] theorem eq_isCell_iface (t : TypeId) (v : AV) : isCell (.iface t v) = false := rfl


def nilCode (v : AV) : Nat :=
  AV.rec (motive_1 := fun _ => Nat) (motive_2 := fun _ => Unit)
    (0)
    (0)
    (fun _ => 0)
    (fun _ _ => 0)
    (fun _ => 0)
    (1)
    (3)
    (5)
    (0)
    (fun _ _ => 0)
    (fun _ _ => 0)
    (fun _ _ _ => 0)
    (fun _ _ _ _ => 0)
    (fun _ _ => 2)
    (fun _ _ _ => 0)
    (fun _ => 4)
    (fun _ => 0)
    (fun _ _ _ _ _ => 6)
    (fun _ _ _ => 0)
    () (fun _ _ _ _ => ()) v
@[simp] theorem eq_nilCode_junk : nilCode (.junk) = 0 := rfl
@[simp] theorem eq_nilCode_undef : nilCode (.undef) = 0 := rfl
@[simp] theorem eq_nilCode_bool (b : Bool) : nilCode (.bool b) = 0 := rfl
@[simp] theorem eq_nilCode_int (k : IntKind) (n : Int) : nilCode (.int k n) = 0 := rfl
@[simp] theorem eq_nilCode_str (s : List UInt8) : nilCode (.str s) = 0 := rfl
@[simp] theorem eq_nilCode_nilp : nilCode (.nilp) = 1 := rfl
@[simp] theorem eq_nilCode_nilm : nilCode (.nilm) = 3 := rfl
@[simp] theorem eq_nilCode_nilf : nilCode (.nilf) = 5 := rfl
@[simp] theorem eq_nilCode_nili : nilCode (.nili) = 0 := rfl
@[simp] theorem eq_nilCode_agg (cs : List AV) : nilCode (.agg cs) = 0 := rfl
@[simp] theorem eq_nilCode_tup (vs : List AV) : nilCode (.tup vs) = 0 := rfl
@[simp] theorem eq_nilCode_slice (es : List AV) (tk : Tok) : nilCode (.slice es tk) = 0 := rfl
@[simp] theorem eq_nilCode_hsl (o : Nat) (off : Nat) (len : Nat) (sz : Nat) : nilCode (.hsl o off len sz) = 0 := rfl
@[simp] theorem eq_nilCode_ptr (o : Nat) (off : Nat) : nilCode (.ptr o off) = 2 := rfl
@[simp] theorem eq_nilCode_eptr (cs : List AV) (off : Nat) : nilCode (.eptr cs off) = 0 := rfl
@[simp] theorem eq_nilCode_map (o : Nat) : nilCode (.map o) = 4 := rfl
@[simp] theorem eq_nilCode_itr (o : Nat) : nilCode (.itr o) = 0 := rfl
@[simp] theorem eq_nilCode_fn (f : Fn) (first : List AV) (caps : List AV) : nilCode (.fn f first caps) = 6 := rfl
@[simp] theorem eq_nilCode_iface (t : TypeId) (v : AV) : nilCode (.iface t v) = 0 := rfl


def AV.wants (v : AV) : Bool → Option Bool :=
  AV.rec (motive_1 := fun _ => Bool → Option Bool) (motive_2 := fun _ => Unit)
    (fun _ => none)
    (fun _ => some false)
    (fun b => fun w => some (bif b then w else !w))
    (fun _ _ => fun _ => none)
    (fun _ => fun _ => none)
    (fun _ => none)
    (fun _ => none)
    (fun _ => none)
    (fun _ => none)
    (fun _ _ => fun _ => none)
    (fun _ _ => fun _ => none)
    (fun _ _ _ => fun _ => none)
    (fun _ _ _ _ => fun _ => none)
    (fun _ _ => fun _ => none)
    (fun _ _ _ => fun _ => none)
    (fun _ => fun _ => none)
    (fun _ => fun _ => none)
    (fun _ _ _ _ _ => fun _ => none)
    (fun _ _ _ => fun _ => none)
    () (fun _ _ _ _ => ()) v
@[simp] theorem eq_AV_wants_junk : AV.wants (.junk) = (fun _ => none) := rfl
@[simp] theorem eq_AV_wants_undef : AV.wants (.undef) = (fun _ => some false) := rfl
@[simp] theorem eq_AV_wants_bool (b : Bool) : AV.wants (.bool b) = (fun w => some (bif b then w else !w)) := rfl
@[simp] theorem eq_AV_wants_int (k : IntKind) (n : Int) : AV.wants (.int k n) = (fun _ => none) := rfl
@[simp] theorem eq_AV_wants_str (s : List UInt8) : AV.wants (.str s) = (fun _ => none) := rfl
@[simp] theorem eq_AV_wants_nilp : AV.wants (.nilp) = (fun _ => none) := rfl
@[simp] theorem eq_AV_wants_nilm : AV.wants (.nilm) = (fun _ => none) := rfl
@[simp] theorem eq_AV_wants_nilf : AV.wants (.nilf) = (fun _ => none) := rfl
@[simp] theorem eq_AV_wants_nili : AV.wants (.nili) = (fun _ => none) := rfl
@[simp] theorem eq_AV_wants_agg (cs : List AV) : AV.wants (.agg cs) = (fun _ => none) := rfl
@[simp] theorem eq_AV_wants_tup (vs : List AV) : AV.wants (.tup vs) = (fun _ => none) := rfl
@[simp] theorem eq_AV_wants_slice (es : List AV) (tk : Tok) : AV.wants (.slice es tk) = (fun _ => none) := rfl
@[simp] theorem eq_AV_wants_hsl (o : Nat) (off : Nat) (len : Nat) (sz : Nat) : AV.wants (.hsl o off len sz) = (fun _ => none) := rfl
@[simp] theorem eq_AV_wants_ptr (o : Nat) (off : Nat) : AV.wants (.ptr o off) = (fun _ => none) := rfl
@[simp] theorem eq_AV_wants_eptr (cs : List AV) (off : Nat) : AV.wants (.eptr cs off) = (fun _ => none) := rfl
@[simp] theorem eq_AV_wants_map (o : Nat) : AV.wants (.map o) = (fun _ => none) := rfl
@[simp] theorem eq_AV_wants_itr (o : Nat) : AV.wants (.itr o) = (fun _ => none) := rfl
@[simp] theorem eq_AV_wants_fn (f : Fn) (first : List AV) (caps : List AV) : AV.wants (.fn f first caps) = (fun _ => none) := rfl
@[simp] theorem eq_AV_wants_iface (t : TypeId) (v : AV) : AV.wants (.iface t v) = (fun _ => none) := rfl



def readPtr (o off : Nat) (σ : St) (n : Nat) : Option (List AV) :=
  match σ.cells o with
  | some l => slc l off n
  | none => none
def readCells (v : AV) : St → Nat → Option (List AV) :=
  AV.rec (motive_1 := fun _ => St → Nat → Option (List AV)) (motive_2 := fun _ => Unit)
    (fun _ _ => none)
    (fun _ _ => none)
    (fun _ => fun _ _ => none)
    (fun _ _ => fun _ _ => none)
    (fun _ => fun _ _ => none)
    (fun _ _ => none)
    (fun _ _ => none)
    (fun _ _ => none)
    (fun _ _ => none)
    (fun _ _ => fun _ _ => none)
    (fun _ _ => fun _ _ => none)
    (fun _ _ _ => fun _ _ => none)
    (fun _ _ _ _ => fun _ _ => none)
    (fun o off => readPtr o off)
    (fun cs off _ => fun _ n => slc cs off n)
    (fun _ => fun _ _ => none)
    (fun _ => fun _ _ => none)
    (fun _ _ _ _ _ => fun _ _ => none)
    (fun _ _ _ => fun _ _ => none)
    () (fun _ _ _ _ => ()) v
@[simp] theorem eq_readCells_junk : readCells (.junk) = (fun _ _ => none) := rfl
@[simp] theorem eq_readCells_undef : readCells (.undef) = (fun _ _ => none) := rfl
@[simp] theorem eq_readCells_bool (b : Bool) : readCells (.bool b) = (fun _ _ => none) := rfl
@[simp] theorem eq_readCells_int (k : IntKind) (n : Int) : readCells (.int k n) = (fun _ _ => none) := rfl
@[simp] theorem eq_readCells_str (s : List UInt8) : readCells (.str s) = (fun _ _ => none) := rfl
@[simp] theorem eq_readCells_nilp : readCells (.nilp) = (fun _ _ => none) := rfl
@[simp] theorem eq_readCells_nilm : readCells (.nilm) = (fun _ _ => none) := rfl
@[simp] theorem eq_readCells_nilf : readCells (.nilf) = (fun _ _ => none) := rfl
@[simp] theorem eq_readCells_nili : readCells (.nili) = (fun _ _ => none) := rfl
@[simp] theorem eq_readCells_agg (cs : List AV) : readCells (.agg cs) = (fun _ _ => none) := rfl
@[simp] theorem eq_readCells_tup (vs : List AV) : readCells (.tup vs) = (fun _ _ => none) := rfl
@[simp] theorem eq_readCells_slice (es : List AV) (tk : Tok) : readCells (.slice es tk) = (fun _ _ => none) := rfl
@[simp] theorem eq_readCells_hsl (o : Nat) (off : Nat) (len : Nat) (sz : Nat) : readCells (.hsl o off len sz) = (fun _ _ => none) := rfl
@[simp] theorem eq_readCells_ptr (o : Nat) (off : Nat) : readCells (.ptr o off) = readPtr o off := rfl
@[simp] theorem eq_readCells_eptr (cs : List AV) (off : Nat) : readCells (.eptr cs off) = (fun _ n => slc cs off n) := rfl
@[simp] theorem eq_readCells_map (o : Nat) : readCells (.map o) = (fun _ _ => none) := rfl
@[simp] theorem eq_readCells_itr (o : Nat) : readCells (.itr o) = (fun _ _ => none) := rfl
@[simp] theorem eq_readCells_fn (f : Fn) (first : List AV) (caps : List AV) : readCells (.fn f first caps) = (fun _ _ => none) := rfl
@[simp] theorem eq_readCells_iface (t : TypeId) (v : AV) : readCells (.iface t v) = (fun _ _ => none) := rfl



def ofCells (n : Option Nat) (cs : List AV) : Option AV :=
  match n with
  | some _ => some (.agg cs)
  | none => match cs with
    | [v] => some v
    | _ => none

def loadAt (σ : St) (n : Option Nat) (a : AV) : Option AV :=
  match readCells a σ (n.getD 1) with
  | some cs => ofCells n cs
  | none => none

def storePtr (o off : Nat) (σ : St) (n : Nat) (cs : List AV) : Option St :=
  match σ.cells o with
  | some l => bif Nat.beq cs.length n && cs.all isCell then match splice l off cs with
    | some l' => some (σ.set o (.cells l'))
    | none => none
    else none
  | none => none
def storeCells (v : AV) : St → Nat → List AV → Option St :=
  AV.rec (motive_1 := fun _ => St → Nat → List AV → Option St) (motive_2 := fun _ => Unit)
    (fun _ _ _ => none)
    (fun _ _ _ => none)
    (fun _ => fun _ _ _ => none)
    (fun _ _ => fun _ _ _ => none)
    (fun _ => fun _ _ _ => none)
    (fun _ _ _ => none)
    (fun _ _ _ => none)
    (fun _ _ _ => none)
    (fun _ _ _ => none)
    (fun _ _ => fun _ _ _ => none)
    (fun _ _ => fun _ _ _ => none)
    (fun _ _ _ => fun _ _ _ => none)
    (fun _ _ _ _ => fun _ _ _ => none)
    (fun o off => storePtr o off)
    (fun _ _ _ => fun _ _ _ => none)
    (fun _ => fun _ _ _ => none)
    (fun _ => fun _ _ _ => none)
    (fun _ _ _ _ _ => fun _ _ _ => none)
    (fun _ _ _ => fun _ _ _ => none)
    () (fun _ _ _ _ => ()) v
@[simp] theorem eq_storeCells_junk : storeCells (.junk) = (fun _ _ _ => none) := rfl
@[simp] theorem eq_storeCells_undef : storeCells (.undef) = (fun _ _ _ => none) := rfl
@[simp] theorem eq_storeCells_bool (b : Bool) : storeCells (.bool b) = (fun _ _ _ => none) := rfl
@[simp] theorem eq_storeCells_int (k : IntKind) (n : Int) : storeCells (.int k n) = (fun _ _ _ => none) := rfl
@[simp] theorem eq_storeCells_str (s : List UInt8) : storeCells (.str s) = (fun _ _ _ => none) := rfl
@[simp] theorem eq_storeCells_nilp : storeCells (.nilp) = (fun _ _ _ => none) := rfl
@[simp] theorem eq_storeCells_nilm : storeCells (.nilm) = (fun _ _ _ => none) := rfl
@[simp] theorem eq_storeCells_nilf : storeCells (.nilf) = (fun _ _ _ => none) := rfl
@[simp] theorem eq_storeCells_nili : storeCells (.nili) = (fun _ _ _ => none) := rfl
@[simp] theorem eq_storeCells_agg (cs : List AV) : storeCells (.agg cs) = (fun _ _ _ => none) := rfl
@[simp] theorem eq_storeCells_tup (vs : List AV) : storeCells (.tup vs) = (fun _ _ _ => none) := rfl
@[simp] theorem eq_storeCells_slice (es : List AV) (tk : Tok) : storeCells (.slice es tk) = (fun _ _ _ => none) := rfl
@[simp] theorem eq_storeCells_hsl (o : Nat) (off : Nat) (len : Nat) (sz : Nat) : storeCells (.hsl o off len sz) = (fun _ _ _ => none) := rfl
@[simp] theorem eq_storeCells_ptr (o : Nat) (off : Nat) : storeCells (.ptr o off) = storePtr o off := rfl
@[simp] theorem eq_storeCells_eptr (cs : List AV) (off : Nat) : storeCells (.eptr cs off) = (fun _ _ _ => none) := rfl
@[simp] theorem eq_storeCells_map (o : Nat) : storeCells (.map o) = (fun _ _ _ => none) := rfl
@[simp] theorem eq_storeCells_itr (o : Nat) : storeCells (.itr o) = (fun _ _ _ => none) := rfl
@[simp] theorem eq_storeCells_fn (f : Fn) (first : List AV) (caps : List AV) : storeCells (.fn f first caps) = (fun _ _ _ => none) := rfl
@[simp] theorem eq_storeCells_iface (t : TypeId) (v : AV) : storeCells (.iface t v) = (fun _ _ _ => none) := rfl



/-- Parts laid into a struct's or an array's cells. -/
def fillParts (tm : Env) (ps : List (Nat × Nat × Opd)) : List AV → Option (List AV) :=
  List.rec (motive := fun _ => List AV → Option (List AV)) (fun l => some l)
    (fun p _ ih l => bif Nat.beq (p.2.2.eval tm).cells.length p.2.1 && known (p.2.2.eval tm) then match splice l p.1 (p.2.2.eval tm).cells with
      | some l' => ih l'
      | none => none else none) ps

def setNth (l : List AV) : Nat → AV → Option (List AV) :=
  List.rec (motive := fun _ => Nat → AV → Option (List AV)) (fun _ _ => none)
    (fun x r ih n v => Nat.rec (motive := fun _ => Option (List AV)) (some (v :: r)) (fun m _ => match ih m v with | some t => some (x :: t) | none => none) n) l

def setElems (tm : Env) (sz : Nat) (ps : List (Nat × Opd)) : List AV → Option (List AV) :=
  List.rec (motive := fun _ => List AV → Option (List AV)) (fun l => some l)
    (fun p _ ih l => bif Nat.beq (p.2.eval tm).cells.length sz && known (p.2.eval tm) then match setNth l p.1 (stripCell (p.2.eval tm)) with
      | some l' => ih l'
      | none => none else none) ps

def rep {α : Type} (n : Nat) (v : α) : List α := Nat.rec (motive := fun _ => List α) [] (fun _ ih => v :: ih) n
def repCells (n : Nat) (z : List AV) : List AV := Nat.rec (motive := fun _ => List AV) [] (fun _ ih => z ++ ih) n

/-- Is one of a kind (a pointer 1, a map 3, a function 5) the other, one of them nil? -/
def nilEq (kd a b : Nat) : Option Bool :=
  bif Nat.beq a kd then (bif Nat.beq b kd then some true else bif Nat.beq b (kd + 1) then some false else none)
  else bif Nat.beq a (kd + 1) && Nat.beq b kd then some false else none

/-! ### Numbers and texts -/
def wrapI64 (n : Int) : Int :=
  match n with
  | .ofNat m => bif Nat.ble m 9223372036854775807 then n else IntKind.i64.wrap n
  | .negSucc m => bif Nat.ble m 9223372036854775807 then n else IntKind.i64.wrap n
/-- 'wrap', quickly. -/
def wrapK (k : IntKind) : Int → Int :=
  IntKind.rec (motive := fun _ => Int → Int) (IntKind.wrap .i8) (IntKind.wrap .i16) (IntKind.wrap .i32) wrapI64 (IntKind.wrap .u8) (IntKind.wrap .u16) (IntKind.wrap .u32) (IntKind.wrap .u64) k

def ltI (x y : Int) : Bool :=
  match x, y with
  | .ofNat a, .ofNat b => Nat.blt a b
  | .ofNat _, .negSucc _ => false
  | .negSucc _, .ofNat _ => true
  | .negSucc a, .negSucc b => Nat.blt b a
def eqI (x y : Int) : Bool :=
  match x, y with
  | .ofNat a, .ofNat b => Nat.beq a b
  | .negSucc a, .negSucc b => Nat.beq a b
  | _, _ => false
/-- A number from 0 on. -/
def natI (x : Int) : Option Nat :=
  match x with
  | .ofNat a => some a
  | .negSucc _ => none

def eqS (a : List UInt8) : List UInt8 → Bool :=
  List.rec (motive := fun _ => List UInt8 → Bool) (fun b => b.isEmpty) (fun x _ ih b => match b with | [] => false | y :: r => bif Nat.beq x.toNat y.toNat then ih r else false) a
def bytesLt (a : List UInt8) : List UInt8 → Bool :=
  List.rec (motive := fun _ => List UInt8 → Bool) (fun b => !b.isEmpty) (fun x _ ih b => match b with | [] => false | y :: r => bif Nat.blt x.toNat y.toNat then true else bif Nat.beq x.toNat y.toNat then ih r else false) a

def kcode (k : IntKind) : Nat := IntKind.rec (motive := fun _ => Nat) 0 1 2 3 4 5 6 7 k
def ifK (k k' : IntKind) (v : AV) : Option AV := bif Nat.beq (kcode k) (kcode k') then some v else none

abbrev BinF := IntKind → Int → IntKind → Int → Option AV
def binInt (o : BinOp) : BinF :=
  BinOp.rec (motive := fun _ => BinF)
    (fun k x k' y => ifK k k' (.int k (wrapK k (x + y))))
    (fun k x k' y => ifK k k' (.int k (wrapK k (x - y))))
    (fun k x k' y => ifK k k' (.int k (wrapK k (x * y))))
    (fun k x k' y => bif eqI y 0 then none else ifK k k' (.int k (k.wrap (x.tdiv y))))
    (fun k x k' y => bif eqI y 0 then none else ifK k k' (.int k (x.tmod y)))
    (fun _ _ _ _ => none) (fun _ _ _ _ => none) (fun _ _ _ _ => none)
    (fun k x _ y => match natI y with | some n => some (.int k (k.wrap (x * 2 ^ (min n k.bits)))) | none => none)
    (fun k x _ y => match natI y with | some n => some (.int k (x.fdiv (2 ^ (min n k.bits)))) | none => none)
    (fun _ _ _ _ => none)
    (fun k x k' y => ifK k k' (.bool (eqI x y)))
    (fun k x k' y => ifK k k' (.bool (!(eqI x y))))
    (fun k x k' y => ifK k k' (.bool (ltI x y)))
    (fun k x k' y => ifK k k' (.bool (!(ltI y x))))
    (fun k x k' y => ifK k k' (.bool (ltI y x)))
    (fun k x k' y => ifK k k' (.bool (!(ltI x y)))) o

abbrev BinS := List UInt8 → List UInt8 → Option AV
def binStr (o : BinOp) : BinS :=
  BinOp.rec (motive := fun _ => BinS)
    (fun x y => bif Nat.ble (x.length + y.length) 9223372036854775807 then some (.str (x ++ y)) else none)
    (fun _ _ => none) (fun _ _ => none) (fun _ _ => none) (fun _ _ => none) (fun _ _ => none) (fun _ _ => none) (fun _ _ => none) (fun _ _ => none) (fun _ _ => none) (fun _ _ => none)
    (fun x y => some (.bool (eqS x y)))
    (fun x y => some (.bool (!(eqS x y))))
    (fun x y => some (.bool (bytesLt x y)))
    (fun x y => some (.bool (bytesLt x y || eqS x y)))
    (fun x y => some (.bool (!(bytesLt x y || eqS x y))))
    (fun x y => some (.bool (!(bytesLt x y)))) o

def binR_int (v : AV) : BinOp → IntKind → Int → Option AV :=
  AV.rec (motive_1 := fun _ => BinOp → IntKind → Int → Option AV) (motive_2 := fun _ => Unit)
    (fun _ _ _ => none)
    (fun _ _ _ => none)
    (fun _ => fun _ _ _ => none)
    (fun k n => fun o k1 x => binInt o k1 x k n)
    (fun _ => fun _ _ _ => none)
    (fun _ _ _ => none)
    (fun _ _ _ => none)
    (fun _ _ _ => none)
    (fun _ _ _ => none)
    (fun _ _ => fun _ _ _ => none)
    (fun _ _ => fun _ _ _ => none)
    (fun _ _ _ => fun _ _ _ => none)
    (fun _ _ _ _ => fun _ _ _ => none)
    (fun _ _ => fun _ _ _ => none)
    (fun _ _ _ => fun _ _ _ => none)
    (fun _ => fun _ _ _ => none)
    (fun _ => fun _ _ _ => none)
    (fun _ _ _ _ _ => fun _ _ _ => none)
    (fun _ _ _ => fun _ _ _ => none)
    () (fun _ _ _ _ => ()) v
@[simp] theorem eq_binR_int_junk : binR_int (.junk) = (fun _ _ _ => none) := rfl
@[simp] theorem eq_binR_int_undef : binR_int (.undef) = (fun _ _ _ => none) := rfl
@[simp] theorem eq_binR_int_bool (b : Bool) : binR_int (.bool b) = (fun _ _ _ => none) := rfl
@[simp] theorem eq_binR_int_int (k : IntKind) (n : Int) : binR_int (.int k n) = (fun o k1 x => binInt o k1 x k n) := rfl
@[simp] theorem eq_binR_int_str (s : List UInt8) : binR_int (.str s) = (fun _ _ _ => none) := rfl
@[simp] theorem eq_binR_int_nilp : binR_int (.nilp) = (fun _ _ _ => none) := rfl
@[simp] theorem eq_binR_int_nilm : binR_int (.nilm) = (fun _ _ _ => none) := rfl
@[simp] theorem eq_binR_int_nilf : binR_int (.nilf) = (fun _ _ _ => none) := rfl
@[simp] theorem eq_binR_int_nili : binR_int (.nili) = (fun _ _ _ => none) := rfl
@[simp] theorem eq_binR_int_agg (cs : List AV) : binR_int (.agg cs) = (fun _ _ _ => none) := rfl
@[simp] theorem eq_binR_int_tup (vs : List AV) : binR_int (.tup vs) = (fun _ _ _ => none) := rfl
@[simp] theorem eq_binR_int_slice (es : List AV) (tk : Tok) : binR_int (.slice es tk) = (fun _ _ _ => none) := rfl
@[simp] theorem eq_binR_int_hsl (o : Nat) (off : Nat) (len : Nat) (sz : Nat) : binR_int (.hsl o off len sz) = (fun _ _ _ => none) := rfl
@[simp] theorem eq_binR_int_ptr (o : Nat) (off : Nat) : binR_int (.ptr o off) = (fun _ _ _ => none) := rfl
@[simp] theorem eq_binR_int_eptr (cs : List AV) (off : Nat) : binR_int (.eptr cs off) = (fun _ _ _ => none) := rfl
@[simp] theorem eq_binR_int_map (o : Nat) : binR_int (.map o) = (fun _ _ _ => none) := rfl
@[simp] theorem eq_binR_int_itr (o : Nat) : binR_int (.itr o) = (fun _ _ _ => none) := rfl
@[simp] theorem eq_binR_int_fn (f : Fn) (first : List AV) (caps : List AV) : binR_int (.fn f first caps) = (fun _ _ _ => none) := rfl
@[simp] theorem eq_binR_int_iface (t : TypeId) (v : AV) : binR_int (.iface t v) = (fun _ _ _ => none) := rfl


def binR_str (v : AV) : BinOp → List UInt8 → Option AV :=
  AV.rec (motive_1 := fun _ => BinOp → List UInt8 → Option AV) (motive_2 := fun _ => Unit)
    (fun _ _ => none)
    (fun _ _ => none)
    (fun _ => fun _ _ => none)
    (fun _ _ => fun _ _ => none)
    (fun s => fun o x => binStr o x s)
    (fun _ _ => none)
    (fun _ _ => none)
    (fun _ _ => none)
    (fun _ _ => none)
    (fun _ _ => fun _ _ => none)
    (fun _ _ => fun _ _ => none)
    (fun _ _ _ => fun _ _ => none)
    (fun _ _ _ _ => fun _ _ => none)
    (fun _ _ => fun _ _ => none)
    (fun _ _ _ => fun _ _ => none)
    (fun _ => fun _ _ => none)
    (fun _ => fun _ _ => none)
    (fun _ _ _ _ _ => fun _ _ => none)
    (fun _ _ _ => fun _ _ => none)
    () (fun _ _ _ _ => ()) v
@[simp] theorem eq_binR_str_junk : binR_str (.junk) = (fun _ _ => none) := rfl
@[simp] theorem eq_binR_str_undef : binR_str (.undef) = (fun _ _ => none) := rfl
@[simp] theorem eq_binR_str_bool (b : Bool) : binR_str (.bool b) = (fun _ _ => none) := rfl
@[simp] theorem eq_binR_str_int (k : IntKind) (n : Int) : binR_str (.int k n) = (fun _ _ => none) := rfl
@[simp] theorem eq_binR_str_str (s : List UInt8) : binR_str (.str s) = (fun o x => binStr o x s) := rfl
@[simp] theorem eq_binR_str_nilp : binR_str (.nilp) = (fun _ _ => none) := rfl
@[simp] theorem eq_binR_str_nilm : binR_str (.nilm) = (fun _ _ => none) := rfl
@[simp] theorem eq_binR_str_nilf : binR_str (.nilf) = (fun _ _ => none) := rfl
@[simp] theorem eq_binR_str_nili : binR_str (.nili) = (fun _ _ => none) := rfl
@[simp] theorem eq_binR_str_agg (cs : List AV) : binR_str (.agg cs) = (fun _ _ => none) := rfl
@[simp] theorem eq_binR_str_tup (vs : List AV) : binR_str (.tup vs) = (fun _ _ => none) := rfl
@[simp] theorem eq_binR_str_slice (es : List AV) (tk : Tok) : binR_str (.slice es tk) = (fun _ _ => none) := rfl
@[simp] theorem eq_binR_str_hsl (o : Nat) (off : Nat) (len : Nat) (sz : Nat) : binR_str (.hsl o off len sz) = (fun _ _ => none) := rfl
@[simp] theorem eq_binR_str_ptr (o : Nat) (off : Nat) : binR_str (.ptr o off) = (fun _ _ => none) := rfl
@[simp] theorem eq_binR_str_eptr (cs : List AV) (off : Nat) : binR_str (.eptr cs off) = (fun _ _ => none) := rfl
@[simp] theorem eq_binR_str_map (o : Nat) : binR_str (.map o) = (fun _ _ => none) := rfl
@[simp] theorem eq_binR_str_itr (o : Nat) : binR_str (.itr o) = (fun _ _ => none) := rfl
@[simp] theorem eq_binR_str_fn (f : Fn) (first : List AV) (caps : List AV) : binR_str (.fn f first caps) = (fun _ _ => none) := rfl
@[simp] theorem eq_binR_str_iface (t : TypeId) (v : AV) : binR_str (.iface t v) = (fun _ _ => none) := rfl


def binL (v : AV) : AV → BinOp → Option AV :=
  AV.rec (motive_1 := fun _ => AV → BinOp → Option AV) (motive_2 := fun _ => Unit)
    (fun _ _ => none)
    (fun _ _ => none)
    (fun _ => fun _ _ => none)
    (fun k n => fun y o => binR_int y o k n)
    (fun s => fun y o => binR_str y o s)
    (fun _ _ => none)
    (fun _ _ => none)
    (fun _ _ => none)
    (fun _ _ => none)
    (fun _ _ => fun _ _ => none)
    (fun _ _ => fun _ _ => none)
    (fun _ _ _ => fun _ _ => none)
    (fun _ _ _ _ => fun _ _ => none)
    (fun _ _ => fun _ _ => none)
    (fun _ _ _ => fun _ _ => none)
    (fun _ => fun _ _ => none)
    (fun _ => fun _ _ => none)
    (fun _ _ _ _ _ => fun _ _ => none)
    (fun _ _ _ => fun _ _ => none)
    () (fun _ _ _ _ => ()) v
@[simp] theorem eq_binL_junk : binL (.junk) = (fun _ _ => none) := rfl
@[simp] theorem eq_binL_undef : binL (.undef) = (fun _ _ => none) := rfl
@[simp] theorem eq_binL_bool (b : Bool) : binL (.bool b) = (fun _ _ => none) := rfl
@[simp] theorem eq_binL_int (k : IntKind) (n : Int) : binL (.int k n) = (fun y o => binR_int y o k n) := rfl
@[simp] theorem eq_binL_str (s : List UInt8) : binL (.str s) = (fun y o => binR_str y o s) := rfl
@[simp] theorem eq_binL_nilp : binL (.nilp) = (fun _ _ => none) := rfl
@[simp] theorem eq_binL_nilm : binL (.nilm) = (fun _ _ => none) := rfl
@[simp] theorem eq_binL_nilf : binL (.nilf) = (fun _ _ => none) := rfl
@[simp] theorem eq_binL_nili : binL (.nili) = (fun _ _ => none) := rfl
@[simp] theorem eq_binL_agg (cs : List AV) : binL (.agg cs) = (fun _ _ => none) := rfl
@[simp] theorem eq_binL_tup (vs : List AV) : binL (.tup vs) = (fun _ _ => none) := rfl
@[simp] theorem eq_binL_slice (es : List AV) (tk : Tok) : binL (.slice es tk) = (fun _ _ => none) := rfl
@[simp] theorem eq_binL_hsl (o : Nat) (off : Nat) (len : Nat) (sz : Nat) : binL (.hsl o off len sz) = (fun _ _ => none) := rfl
@[simp] theorem eq_binL_ptr (o : Nat) (off : Nat) : binL (.ptr o off) = (fun _ _ => none) := rfl
@[simp] theorem eq_binL_eptr (cs : List AV) (off : Nat) : binL (.eptr cs off) = (fun _ _ => none) := rfl
@[simp] theorem eq_binL_map (o : Nat) : binL (.map o) = (fun _ _ => none) := rfl
@[simp] theorem eq_binL_itr (o : Nat) : binL (.itr o) = (fun _ _ => none) := rfl
@[simp] theorem eq_binL_fn (f : Fn) (first : List AV) (caps : List AV) : binL (.fn f first caps) = (fun _ _ => none) := rfl
@[simp] theorem eq_binL_iface (t : TypeId) (v : AV) : binL (.iface t v) = (fun _ _ => none) := rfl



def unV (v : AV) : UnOp → Option AV :=
  AV.rec (motive_1 := fun _ => UnOp → Option AV) (motive_2 := fun _ => Unit)
    (fun _ => none)
    (fun _ => none)
    (fun b => fun o => match o with | .not => some (.bool (!b)) | _ => none)
    (fun k n => fun o => match o with | .neg => some (.int k (wrapK k (0 - n))) | _ => none)
    (fun _ => fun _ => none)
    (fun _ => none)
    (fun _ => none)
    (fun _ => none)
    (fun _ => none)
    (fun _ _ => fun _ => none)
    (fun _ _ => fun _ => none)
    (fun _ _ _ => fun _ => none)
    (fun _ _ _ _ => fun _ => none)
    (fun _ _ => fun _ => none)
    (fun _ _ _ => fun _ => none)
    (fun _ => fun _ => none)
    (fun _ => fun _ => none)
    (fun _ _ _ _ _ => fun _ => none)
    (fun _ _ _ => fun _ => none)
    () (fun _ _ _ _ => ()) v
@[simp] theorem eq_unV_junk : unV (.junk) = (fun _ => none) := rfl
@[simp] theorem eq_unV_undef : unV (.undef) = (fun _ => none) := rfl
@[simp] theorem eq_unV_bool (b : Bool) : unV (.bool b) = (fun o => match o with | .not => some (.bool (!b)) | _ => none) := rfl
@[simp] theorem eq_unV_int (k : IntKind) (n : Int) : unV (.int k n) = (fun o => match o with | .neg => some (.int k (wrapK k (0 - n))) | _ => none) := rfl
@[simp] theorem eq_unV_str (s : List UInt8) : unV (.str s) = (fun _ => none) := rfl
@[simp] theorem eq_unV_nilp : unV (.nilp) = (fun _ => none) := rfl
@[simp] theorem eq_unV_nilm : unV (.nilm) = (fun _ => none) := rfl
@[simp] theorem eq_unV_nilf : unV (.nilf) = (fun _ => none) := rfl
@[simp] theorem eq_unV_nili : unV (.nili) = (fun _ => none) := rfl
@[simp] theorem eq_unV_agg (cs : List AV) : unV (.agg cs) = (fun _ => none) := rfl
@[simp] theorem eq_unV_tup (vs : List AV) : unV (.tup vs) = (fun _ => none) := rfl
@[simp] theorem eq_unV_slice (es : List AV) (tk : Tok) : unV (.slice es tk) = (fun _ => none) := rfl
@[simp] theorem eq_unV_hsl (o : Nat) (off : Nat) (len : Nat) (sz : Nat) : unV (.hsl o off len sz) = (fun _ => none) := rfl
@[simp] theorem eq_unV_ptr (o : Nat) (off : Nat) : unV (.ptr o off) = (fun _ => none) := rfl
@[simp] theorem eq_unV_eptr (cs : List AV) (off : Nat) : unV (.eptr cs off) = (fun _ => none) := rfl
@[simp] theorem eq_unV_map (o : Nat) : unV (.map o) = (fun _ => none) := rfl
@[simp] theorem eq_unV_itr (o : Nat) : unV (.itr o) = (fun _ => none) := rfl
@[simp] theorem eq_unV_fn (f : Fn) (first : List AV) (caps : List AV) : unV (.fn f first caps) = (fun _ => none) := rfl
@[simp] theorem eq_unV_iface (t : TypeId) (v : AV) : unV (.iface t v) = (fun _ => none) := rfl



def eqP_bool (v : AV) : Bool → Bool :=
  AV.rec (motive_1 := fun _ => Bool → Bool) (motive_2 := fun _ => Unit)
    (fun _ => false)
    (fun _ => false)
    (fun b => fun x => x == b)
    (fun _ _ => fun _ => false)
    (fun _ => fun _ => false)
    (fun _ => false)
    (fun _ => false)
    (fun _ => false)
    (fun _ => false)
    (fun _ _ => fun _ => false)
    (fun _ _ => fun _ => false)
    (fun _ _ _ => fun _ => false)
    (fun _ _ _ _ => fun _ => false)
    (fun _ _ => fun _ => false)
    (fun _ _ _ => fun _ => false)
    (fun _ => fun _ => false)
    (fun _ => fun _ => false)
    (fun _ _ _ _ _ => fun _ => false)
    (fun _ _ _ => fun _ => false)
    () (fun _ _ _ _ => ()) v
@[simp] theorem eq_eqP_bool_junk : eqP_bool (.junk) = (fun _ => false) := rfl
@[simp] theorem eq_eqP_bool_undef : eqP_bool (.undef) = (fun _ => false) := rfl
@[simp] theorem eq_eqP_bool_bool (b : Bool) : eqP_bool (.bool b) = (fun x => x == b) := rfl
@[simp] theorem eq_eqP_bool_int (k : IntKind) (n : Int) : eqP_bool (.int k n) = (fun _ => false) := rfl
@[simp] theorem eq_eqP_bool_str (s : List UInt8) : eqP_bool (.str s) = (fun _ => false) := rfl
@[simp] theorem eq_eqP_bool_nilp : eqP_bool (.nilp) = (fun _ => false) := rfl
@[simp] theorem eq_eqP_bool_nilm : eqP_bool (.nilm) = (fun _ => false) := rfl
@[simp] theorem eq_eqP_bool_nilf : eqP_bool (.nilf) = (fun _ => false) := rfl
@[simp] theorem eq_eqP_bool_nili : eqP_bool (.nili) = (fun _ => false) := rfl
@[simp] theorem eq_eqP_bool_agg (cs : List AV) : eqP_bool (.agg cs) = (fun _ => false) := rfl
@[simp] theorem eq_eqP_bool_tup (vs : List AV) : eqP_bool (.tup vs) = (fun _ => false) := rfl
@[simp] theorem eq_eqP_bool_slice (es : List AV) (tk : Tok) : eqP_bool (.slice es tk) = (fun _ => false) := rfl
@[simp] theorem eq_eqP_bool_hsl (o : Nat) (off : Nat) (len : Nat) (sz : Nat) : eqP_bool (.hsl o off len sz) = (fun _ => false) := rfl
@[simp] theorem eq_eqP_bool_ptr (o : Nat) (off : Nat) : eqP_bool (.ptr o off) = (fun _ => false) := rfl
@[simp] theorem eq_eqP_bool_eptr (cs : List AV) (off : Nat) : eqP_bool (.eptr cs off) = (fun _ => false) := rfl
@[simp] theorem eq_eqP_bool_map (o : Nat) : eqP_bool (.map o) = (fun _ => false) := rfl
@[simp] theorem eq_eqP_bool_itr (o : Nat) : eqP_bool (.itr o) = (fun _ => false) := rfl
@[simp] theorem eq_eqP_bool_fn (f : Fn) (first : List AV) (caps : List AV) : eqP_bool (.fn f first caps) = (fun _ => false) := rfl
@[simp] theorem eq_eqP_bool_iface (t : TypeId) (v : AV) : eqP_bool (.iface t v) = (fun _ => false) := rfl


def eqP_int (v : AV) : Int → Bool :=
  AV.rec (motive_1 := fun _ => Int → Bool) (motive_2 := fun _ => Unit)
    (fun _ => false)
    (fun _ => false)
    (fun _ => fun _ => false)
    (fun _ n => fun x => eqI x n)
    (fun _ => fun _ => false)
    (fun _ => false)
    (fun _ => false)
    (fun _ => false)
    (fun _ => false)
    (fun _ _ => fun _ => false)
    (fun _ _ => fun _ => false)
    (fun _ _ _ => fun _ => false)
    (fun _ _ _ _ => fun _ => false)
    (fun _ _ => fun _ => false)
    (fun _ _ _ => fun _ => false)
    (fun _ => fun _ => false)
    (fun _ => fun _ => false)
    (fun _ _ _ _ _ => fun _ => false)
    (fun _ _ _ => fun _ => false)
    () (fun _ _ _ _ => ()) v
@[simp] theorem eq_eqP_int_junk : eqP_int (.junk) = (fun _ => false) := rfl
@[simp] theorem eq_eqP_int_undef : eqP_int (.undef) = (fun _ => false) := rfl
@[simp] theorem eq_eqP_int_bool (b : Bool) : eqP_int (.bool b) = (fun _ => false) := rfl
@[simp] theorem eq_eqP_int_int (k : IntKind) (n : Int) : eqP_int (.int k n) = (fun x => eqI x n) := rfl
@[simp] theorem eq_eqP_int_str (s : List UInt8) : eqP_int (.str s) = (fun _ => false) := rfl
@[simp] theorem eq_eqP_int_nilp : eqP_int (.nilp) = (fun _ => false) := rfl
@[simp] theorem eq_eqP_int_nilm : eqP_int (.nilm) = (fun _ => false) := rfl
@[simp] theorem eq_eqP_int_nilf : eqP_int (.nilf) = (fun _ => false) := rfl
@[simp] theorem eq_eqP_int_nili : eqP_int (.nili) = (fun _ => false) := rfl
@[simp] theorem eq_eqP_int_agg (cs : List AV) : eqP_int (.agg cs) = (fun _ => false) := rfl
@[simp] theorem eq_eqP_int_tup (vs : List AV) : eqP_int (.tup vs) = (fun _ => false) := rfl
@[simp] theorem eq_eqP_int_slice (es : List AV) (tk : Tok) : eqP_int (.slice es tk) = (fun _ => false) := rfl
@[simp] theorem eq_eqP_int_hsl (o : Nat) (off : Nat) (len : Nat) (sz : Nat) : eqP_int (.hsl o off len sz) = (fun _ => false) := rfl
@[simp] theorem eq_eqP_int_ptr (o : Nat) (off : Nat) : eqP_int (.ptr o off) = (fun _ => false) := rfl
@[simp] theorem eq_eqP_int_eptr (cs : List AV) (off : Nat) : eqP_int (.eptr cs off) = (fun _ => false) := rfl
@[simp] theorem eq_eqP_int_map (o : Nat) : eqP_int (.map o) = (fun _ => false) := rfl
@[simp] theorem eq_eqP_int_itr (o : Nat) : eqP_int (.itr o) = (fun _ => false) := rfl
@[simp] theorem eq_eqP_int_fn (f : Fn) (first : List AV) (caps : List AV) : eqP_int (.fn f first caps) = (fun _ => false) := rfl
@[simp] theorem eq_eqP_int_iface (t : TypeId) (v : AV) : eqP_int (.iface t v) = (fun _ => false) := rfl


def eqP_str (v : AV) : List UInt8 → Bool :=
  AV.rec (motive_1 := fun _ => List UInt8 → Bool) (motive_2 := fun _ => Unit)
    (fun _ => false)
    (fun _ => false)
    (fun _ => fun _ => false)
    (fun _ _ => fun _ => false)
    (fun s => fun x => eqS x s)
    (fun _ => false)
    (fun _ => false)
    (fun _ => false)
    (fun _ => false)
    (fun _ _ => fun _ => false)
    (fun _ _ => fun _ => false)
    (fun _ _ _ => fun _ => false)
    (fun _ _ _ _ => fun _ => false)
    (fun _ _ => fun _ => false)
    (fun _ _ _ => fun _ => false)
    (fun _ => fun _ => false)
    (fun _ => fun _ => false)
    (fun _ _ _ _ _ => fun _ => false)
    (fun _ _ _ => fun _ => false)
    () (fun _ _ _ _ => ()) v
@[simp] theorem eq_eqP_str_junk : eqP_str (.junk) = (fun _ => false) := rfl
@[simp] theorem eq_eqP_str_undef : eqP_str (.undef) = (fun _ => false) := rfl
@[simp] theorem eq_eqP_str_bool (b : Bool) : eqP_str (.bool b) = (fun _ => false) := rfl
@[simp] theorem eq_eqP_str_int (k : IntKind) (n : Int) : eqP_str (.int k n) = (fun _ => false) := rfl
@[simp] theorem eq_eqP_str_str (s : List UInt8) : eqP_str (.str s) = (fun x => eqS x s) := rfl
@[simp] theorem eq_eqP_str_nilp : eqP_str (.nilp) = (fun _ => false) := rfl
@[simp] theorem eq_eqP_str_nilm : eqP_str (.nilm) = (fun _ => false) := rfl
@[simp] theorem eq_eqP_str_nilf : eqP_str (.nilf) = (fun _ => false) := rfl
@[simp] theorem eq_eqP_str_nili : eqP_str (.nili) = (fun _ => false) := rfl
@[simp] theorem eq_eqP_str_agg (cs : List AV) : eqP_str (.agg cs) = (fun _ => false) := rfl
@[simp] theorem eq_eqP_str_tup (vs : List AV) : eqP_str (.tup vs) = (fun _ => false) := rfl
@[simp] theorem eq_eqP_str_slice (es : List AV) (tk : Tok) : eqP_str (.slice es tk) = (fun _ => false) := rfl
@[simp] theorem eq_eqP_str_hsl (o : Nat) (off : Nat) (len : Nat) (sz : Nat) : eqP_str (.hsl o off len sz) = (fun _ => false) := rfl
@[simp] theorem eq_eqP_str_ptr (o : Nat) (off : Nat) : eqP_str (.ptr o off) = (fun _ => false) := rfl
@[simp] theorem eq_eqP_str_eptr (cs : List AV) (off : Nat) : eqP_str (.eptr cs off) = (fun _ => false) := rfl
@[simp] theorem eq_eqP_str_map (o : Nat) : eqP_str (.map o) = (fun _ => false) := rfl
@[simp] theorem eq_eqP_str_itr (o : Nat) : eqP_str (.itr o) = (fun _ => false) := rfl
@[simp] theorem eq_eqP_str_fn (f : Fn) (first : List AV) (caps : List AV) : eqP_str (.fn f first caps) = (fun _ => false) := rfl
@[simp] theorem eq_eqP_str_iface (t : TypeId) (v : AV) : eqP_str (.iface t v) = (fun _ => false) := rfl


/-- Equality of plain values of one type. -/
def eqP (v : AV) : AV → Bool :=
  AV.rec (motive_1 := fun _ => AV → Bool) (motive_2 := fun _ => Unit)
    (fun _ => false)
    (fun _ => false)
    (fun b => fun y => eqP_bool y b)
    (fun _ n => fun y => eqP_int y n)
    (fun s => fun y => eqP_str y s)
    (fun _ => false)
    (fun _ => false)
    (fun _ => false)
    (fun _ => false)
    (fun _ _ => fun _ => false)
    (fun _ _ => fun _ => false)
    (fun _ _ _ => fun _ => false)
    (fun _ _ _ _ => fun _ => false)
    (fun _ _ => fun _ => false)
    (fun _ _ _ => fun _ => false)
    (fun _ => fun _ => false)
    (fun _ => fun _ => false)
    (fun _ _ _ _ _ => fun _ => false)
    (fun _ _ _ => fun _ => false)
    () (fun _ _ _ _ => ()) v
@[simp] theorem eq_eqP_junk : eqP (.junk) = (fun _ => false) := rfl
@[simp] theorem eq_eqP_undef : eqP (.undef) = (fun _ => false) := rfl
@[simp] theorem eq_eqP_bool (b : Bool) : eqP (.bool b) = (fun y => eqP_bool y b) := rfl
@[simp] theorem eq_eqP_int (k : IntKind) (n : Int) : eqP (.int k n) = (fun y => eqP_int y n) := rfl
@[simp] theorem eq_eqP_str (s : List UInt8) : eqP (.str s) = (fun y => eqP_str y s) := rfl
@[simp] theorem eq_eqP_nilp : eqP (.nilp) = (fun _ => false) := rfl
@[simp] theorem eq_eqP_nilm : eqP (.nilm) = (fun _ => false) := rfl
@[simp] theorem eq_eqP_nilf : eqP (.nilf) = (fun _ => false) := rfl
@[simp] theorem eq_eqP_nili : eqP (.nili) = (fun _ => false) := rfl
@[simp] theorem eq_eqP_agg (cs : List AV) : eqP (.agg cs) = (fun _ => false) := rfl
@[simp] theorem eq_eqP_tup (vs : List AV) : eqP (.tup vs) = (fun _ => false) := rfl
@[simp] theorem eq_eqP_slice (es : List AV) (tk : Tok) : eqP (.slice es tk) = (fun _ => false) := rfl
@[simp] theorem eq_eqP_hsl (o : Nat) (off : Nat) (len : Nat) (sz : Nat) : eqP (.hsl o off len sz) = (fun _ => false) := rfl
@[simp] theorem eq_eqP_ptr (o : Nat) (off : Nat) : eqP (.ptr o off) = (fun _ => false) := rfl
@[simp] theorem eq_eqP_eptr (cs : List AV) (off : Nat) : eqP (.eptr cs off) = (fun _ => false) := rfl
@[simp] theorem eq_eqP_map (o : Nat) : eqP (.map o) = (fun _ => false) := rfl
@[simp] theorem eq_eqP_itr (o : Nat) : eqP (.itr o) = (fun _ => false) := rfl
@[simp] theorem eq_eqP_fn (f : Fn) (first : List AV) (caps : List AV) : eqP (.fn f first caps) = (fun _ => false) := rfl
@[simp] theorem eq_eqP_iface (t : TypeId) (v : AV) : eqP (.iface t v) = (fun _ => false) := rfl


def eqPs (a : List AV) : List AV → Bool :=
  List.rec (motive := fun _ => List AV → Bool) (fun b => b.isEmpty) (fun x _ ih b => match b with | [] => false | y :: r => bif eqP x y then ih r else false) a
def eqK_agg (v : AV) : List AV → Bool :=
  AV.rec (motive_1 := fun _ => List AV → Bool) (motive_2 := fun _ => Unit)
    (fun _ => false)
    (fun _ => false)
    (fun _ => fun _ => false)
    (fun _ _ => fun _ => false)
    (fun _ => fun _ => false)
    (fun _ => false)
    (fun _ => false)
    (fun _ => false)
    (fun _ => false)
    (fun cs _ => fun x => eqPs x cs)
    (fun _ _ => fun _ => false)
    (fun _ _ _ => fun _ => false)
    (fun _ _ _ _ => fun _ => false)
    (fun _ _ => fun _ => false)
    (fun _ _ _ => fun _ => false)
    (fun _ => fun _ => false)
    (fun _ => fun _ => false)
    (fun _ _ _ _ _ => fun _ => false)
    (fun _ _ _ => fun _ => false)
    () (fun _ _ _ _ => ()) v
@[simp] theorem eq_eqK_agg_junk : eqK_agg (.junk) = (fun _ => false) := rfl
@[simp] theorem eq_eqK_agg_undef : eqK_agg (.undef) = (fun _ => false) := rfl
@[simp] theorem eq_eqK_agg_bool (b : Bool) : eqK_agg (.bool b) = (fun _ => false) := rfl
@[simp] theorem eq_eqK_agg_int (k : IntKind) (n : Int) : eqK_agg (.int k n) = (fun _ => false) := rfl
@[simp] theorem eq_eqK_agg_str (s : List UInt8) : eqK_agg (.str s) = (fun _ => false) := rfl
@[simp] theorem eq_eqK_agg_nilp : eqK_agg (.nilp) = (fun _ => false) := rfl
@[simp] theorem eq_eqK_agg_nilm : eqK_agg (.nilm) = (fun _ => false) := rfl
@[simp] theorem eq_eqK_agg_nilf : eqK_agg (.nilf) = (fun _ => false) := rfl
@[simp] theorem eq_eqK_agg_nili : eqK_agg (.nili) = (fun _ => false) := rfl
@[simp] theorem eq_eqK_agg_agg (cs : List AV) : eqK_agg (.agg cs) = (fun x => eqPs x cs) := rfl
@[simp] theorem eq_eqK_agg_tup (vs : List AV) : eqK_agg (.tup vs) = (fun _ => false) := rfl
@[simp] theorem eq_eqK_agg_slice (es : List AV) (tk : Tok) : eqK_agg (.slice es tk) = (fun _ => false) := rfl
@[simp] theorem eq_eqK_agg_hsl (o : Nat) (off : Nat) (len : Nat) (sz : Nat) : eqK_agg (.hsl o off len sz) = (fun _ => false) := rfl
@[simp] theorem eq_eqK_agg_ptr (o : Nat) (off : Nat) : eqK_agg (.ptr o off) = (fun _ => false) := rfl
@[simp] theorem eq_eqK_agg_eptr (cs : List AV) (off : Nat) : eqK_agg (.eptr cs off) = (fun _ => false) := rfl
@[simp] theorem eq_eqK_agg_map (o : Nat) : eqK_agg (.map o) = (fun _ => false) := rfl
@[simp] theorem eq_eqK_agg_itr (o : Nat) : eqK_agg (.itr o) = (fun _ => false) := rfl
@[simp] theorem eq_eqK_agg_fn (f : Fn) (first : List AV) (caps : List AV) : eqK_agg (.fn f first caps) = (fun _ => false) := rfl
@[simp] theorem eq_eqK_agg_iface (t : TypeId) (v : AV) : eqK_agg (.iface t v) = (fun _ => false) := rfl


/-- Equality of keys of one type. -/
def eqK (v : AV) : AV → Bool :=
  AV.rec (motive_1 := fun _ => AV → Bool) (motive_2 := fun _ => Unit)
    (fun _ => false)
    (fun _ => false)
    (fun b => fun y => eqP_bool y b)
    (fun _ n => fun y => eqP_int y n)
    (fun s => fun y => eqP_str y s)
    (fun _ => false)
    (fun _ => false)
    (fun _ => false)
    (fun _ => false)
    (fun cs _ => fun y => eqK_agg y cs)
    (fun _ _ => fun _ => false)
    (fun _ _ _ => fun _ => false)
    (fun _ _ _ _ => fun _ => false)
    (fun _ _ => fun _ => false)
    (fun _ _ _ => fun _ => false)
    (fun _ => fun _ => false)
    (fun _ => fun _ => false)
    (fun _ _ _ _ _ => fun _ => false)
    (fun _ _ _ => fun _ => false)
    () (fun _ _ _ _ => ()) v
@[simp] theorem eq_eqK_junk : eqK (.junk) = (fun _ => false) := rfl
@[simp] theorem eq_eqK_undef : eqK (.undef) = (fun _ => false) := rfl
@[simp] theorem eq_eqK_bool (b : Bool) : eqK (.bool b) = (fun y => eqP_bool y b) := rfl
@[simp] theorem eq_eqK_int (k : IntKind) (n : Int) : eqK (.int k n) = (fun y => eqP_int y n) := rfl
@[simp] theorem eq_eqK_str (s : List UInt8) : eqK (.str s) = (fun y => eqP_str y s) := rfl
@[simp] theorem eq_eqK_nilp : eqK (.nilp) = (fun _ => false) := rfl
@[simp] theorem eq_eqK_nilm : eqK (.nilm) = (fun _ => false) := rfl
@[simp] theorem eq_eqK_nilf : eqK (.nilf) = (fun _ => false) := rfl
@[simp] theorem eq_eqK_nili : eqK (.nili) = (fun _ => false) := rfl
@[simp] theorem eq_eqK_agg (cs : List AV) : eqK (.agg cs) = (fun y => eqK_agg y cs) := rfl
@[simp] theorem eq_eqK_tup (vs : List AV) : eqK (.tup vs) = (fun _ => false) := rfl
@[simp] theorem eq_eqK_slice (es : List AV) (tk : Tok) : eqK (.slice es tk) = (fun _ => false) := rfl
@[simp] theorem eq_eqK_hsl (o : Nat) (off : Nat) (len : Nat) (sz : Nat) : eqK (.hsl o off len sz) = (fun _ => false) := rfl
@[simp] theorem eq_eqK_ptr (o : Nat) (off : Nat) : eqK (.ptr o off) = (fun _ => false) := rfl
@[simp] theorem eq_eqK_eptr (cs : List AV) (off : Nat) : eqK (.eptr cs off) = (fun _ => false) := rfl
@[simp] theorem eq_eqK_map (o : Nat) : eqK (.map o) = (fun _ => false) := rfl
@[simp] theorem eq_eqK_itr (o : Nat) : eqK (.itr o) = (fun _ => false) := rfl
@[simp] theorem eq_eqK_fn (f : Fn) (first : List AV) (caps : List AV) : eqK (.fn f first caps) = (fun _ => false) := rfl
@[simp] theorem eq_eqK_iface (t : TypeId) (v : AV) : eqK (.iface t v) = (fun _ => false) := rfl


def kshape (k : IntKind) : Nat := kcode k + 1
def shapeP (v : AV) : Nat :=
  AV.rec (motive_1 := fun _ => Nat) (motive_2 := fun _ => Unit)
    (0)
    (0)
    (fun _ => 11)
    (fun k _ => kshape k)
    (fun _ => 10)
    (0)
    (0)
    (0)
    (0)
    (fun _ _ => 0)
    (fun _ _ => 0)
    (fun _ _ _ => 0)
    (fun _ _ _ _ => 0)
    (fun _ _ => 0)
    (fun _ _ _ => 0)
    (fun _ => 0)
    (fun _ => 0)
    (fun _ _ _ _ _ => 0)
    (fun _ _ _ => 0)
    () (fun _ _ _ _ => ()) v
@[simp] theorem eq_shapeP_junk : shapeP (.junk) = 0 := rfl
@[simp] theorem eq_shapeP_undef : shapeP (.undef) = 0 := rfl
@[simp] theorem eq_shapeP_bool (b : Bool) : shapeP (.bool b) = 11 := rfl
@[simp] theorem eq_shapeP_int (k : IntKind) (n : Int) : shapeP (.int k n) = kshape k := rfl
@[simp] theorem eq_shapeP_str (s : List UInt8) : shapeP (.str s) = 10 := rfl
@[simp] theorem eq_shapeP_nilp : shapeP (.nilp) = 0 := rfl
@[simp] theorem eq_shapeP_nilm : shapeP (.nilm) = 0 := rfl
@[simp] theorem eq_shapeP_nilf : shapeP (.nilf) = 0 := rfl
@[simp] theorem eq_shapeP_nili : shapeP (.nili) = 0 := rfl
@[simp] theorem eq_shapeP_agg (cs : List AV) : shapeP (.agg cs) = 0 := rfl
@[simp] theorem eq_shapeP_tup (vs : List AV) : shapeP (.tup vs) = 0 := rfl
@[simp] theorem eq_shapeP_slice (es : List AV) (tk : Tok) : shapeP (.slice es tk) = 0 := rfl
@[simp] theorem eq_shapeP_hsl (o : Nat) (off : Nat) (len : Nat) (sz : Nat) : shapeP (.hsl o off len sz) = 0 := rfl
@[simp] theorem eq_shapeP_ptr (o : Nat) (off : Nat) : shapeP (.ptr o off) = 0 := rfl
@[simp] theorem eq_shapeP_eptr (cs : List AV) (off : Nat) : shapeP (.eptr cs off) = 0 := rfl
@[simp] theorem eq_shapeP_map (o : Nat) : shapeP (.map o) = 0 := rfl
@[simp] theorem eq_shapeP_itr (o : Nat) : shapeP (.itr o) = 0 := rfl
@[simp] theorem eq_shapeP_fn (f : Fn) (first : List AV) (caps : List AV) : shapeP (.fn f first caps) = 0 := rfl
@[simp] theorem eq_shapeP_iface (t : TypeId) (v : AV) : shapeP (.iface t v) = 0 := rfl


def shapesP (l : List AV) : List Nat := List.rec (motive := fun _ => List Nat) [] (fun x _ ih => shapeP x :: ih) l
/-- Of which kinds a key's cells are. -/
def shapeOf (v : AV) : List Nat :=
  AV.rec (motive_1 := fun _ => List Nat) (motive_2 := fun _ => Unit)
    ([])
    ([])
    (fun _ => [11])
    (fun k _ => [kshape k])
    (fun _ => [10])
    ([])
    ([])
    ([])
    ([])
    (fun cs _ => 0 :: shapesP cs)
    (fun _ _ => [])
    (fun _ _ _ => [])
    (fun _ _ _ _ => [])
    (fun _ _ => [])
    (fun _ _ _ => [])
    (fun _ => [])
    (fun _ => [])
    (fun _ _ _ _ _ => [])
    (fun _ _ _ => [])
    () (fun _ _ _ _ => ()) v
@[simp] theorem eq_shapeOf_junk : shapeOf (.junk) = [] := rfl
@[simp] theorem eq_shapeOf_undef : shapeOf (.undef) = [] := rfl
@[simp] theorem eq_shapeOf_bool (b : Bool) : shapeOf (.bool b) = [11] := rfl
@[simp] theorem eq_shapeOf_int (k : IntKind) (n : Int) : shapeOf (.int k n) = [kshape k] := rfl
@[simp] theorem eq_shapeOf_str (s : List UInt8) : shapeOf (.str s) = [10] := rfl
@[simp] theorem eq_shapeOf_nilp : shapeOf (.nilp) = [] := rfl
@[simp] theorem eq_shapeOf_nilm : shapeOf (.nilm) = [] := rfl
@[simp] theorem eq_shapeOf_nilf : shapeOf (.nilf) = [] := rfl
@[simp] theorem eq_shapeOf_nili : shapeOf (.nili) = [] := rfl
@[simp] theorem eq_shapeOf_agg (cs : List AV) : shapeOf (.agg cs) = 0 :: shapesP cs := rfl
@[simp] theorem eq_shapeOf_tup (vs : List AV) : shapeOf (.tup vs) = [] := rfl
@[simp] theorem eq_shapeOf_slice (es : List AV) (tk : Tok) : shapeOf (.slice es tk) = [] := rfl
@[simp] theorem eq_shapeOf_hsl (o : Nat) (off : Nat) (len : Nat) (sz : Nat) : shapeOf (.hsl o off len sz) = [] := rfl
@[simp] theorem eq_shapeOf_ptr (o : Nat) (off : Nat) : shapeOf (.ptr o off) = [] := rfl
@[simp] theorem eq_shapeOf_eptr (cs : List AV) (off : Nat) : shapeOf (.eptr cs off) = [] := rfl
@[simp] theorem eq_shapeOf_map (o : Nat) : shapeOf (.map o) = [] := rfl
@[simp] theorem eq_shapeOf_itr (o : Nat) : shapeOf (.itr o) = [] := rfl
@[simp] theorem eq_shapeOf_fn (f : Fn) (first : List AV) (caps : List AV) : shapeOf (.fn f first caps) = [] := rfl
@[simp] theorem eq_shapeOf_iface (t : TypeId) (v : AV) : shapeOf (.iface t v) = [] := rfl


def eqNs (a : List Nat) : List Nat → Bool :=
  List.rec (motive := fun _ => List Nat → Bool) (fun b => b.isEmpty) (fun x _ ih b => match b with | [] => false | y :: r => bif Nat.beq x y then ih r else false) a
def noZero (l : List Nat) : Bool := List.rec (motive := fun _ => Bool) true (fun x _ ih => bif Nat.beq x 0 then false else ih) l
/-- Is a key of these kinds? -/
def keyOk (ks : List Nat) (v : AV) : Bool := eqNs (shapeOf v) ks

def mfind (l : List (AV × AV)) (x : AV) : Option AV :=
  List.rec (motive := fun _ => Option AV) none (fun p _ ih => bif eqK p.1 x then some p.2 else ih) l
def mput (l : List (AV × AV)) (x v : AV) : List (AV × AV) :=
  List.rec (motive := fun _ => List (AV × AV)) [(x, v)] (fun p r ih => bif eqK p.1 x then (p.1, v) :: r else p :: ih) l
def mdel (l : List (AV × AV)) (x : AV) : List (AV × AV) :=
  List.rec (motive := fun _ => List (AV × AV)) [] (fun p r ih => bif eqK p.1 x then r else p :: ih) l

def mapGet (o : Nat) (σ : St) (ks : List Nat) : Option (List (AV × AV)) :=
  match σ.mapOf o with
  | some (k, l) => bif eqNs k ks then some l else none
  | none => none
def mapVals (v : AV) : St → List Nat → Option (List (AV × AV)) :=
  AV.rec (motive_1 := fun _ => St → List Nat → Option (List (AV × AV))) (motive_2 := fun _ => Unit)
    (fun _ _ => none)
    (fun _ _ => none)
    (fun _ => fun _ _ => none)
    (fun _ _ => fun _ _ => none)
    (fun _ => fun _ _ => none)
    (fun _ _ => none)
    (fun _ _ => some [])
    (fun _ _ => none)
    (fun _ _ => none)
    (fun _ _ => fun _ _ => none)
    (fun _ _ => fun _ _ => none)
    (fun _ _ _ => fun _ _ => none)
    (fun _ _ _ _ => fun _ _ => none)
    (fun _ _ => fun _ _ => none)
    (fun _ _ _ => fun _ _ => none)
    (fun o => mapGet o)
    (fun _ => fun _ _ => none)
    (fun _ _ _ _ _ => fun _ _ => none)
    (fun _ _ _ => fun _ _ => none)
    () (fun _ _ _ _ => ()) v
@[simp] theorem eq_mapVals_junk : mapVals (.junk) = (fun _ _ => none) := rfl
@[simp] theorem eq_mapVals_undef : mapVals (.undef) = (fun _ _ => none) := rfl
@[simp] theorem eq_mapVals_bool (b : Bool) : mapVals (.bool b) = (fun _ _ => none) := rfl
@[simp] theorem eq_mapVals_int (k : IntKind) (n : Int) : mapVals (.int k n) = (fun _ _ => none) := rfl
@[simp] theorem eq_mapVals_str (s : List UInt8) : mapVals (.str s) = (fun _ _ => none) := rfl
@[simp] theorem eq_mapVals_nilp : mapVals (.nilp) = (fun _ _ => none) := rfl
@[simp] theorem eq_mapVals_nilm : mapVals (.nilm) = (fun _ _ => some []) := rfl
@[simp] theorem eq_mapVals_nilf : mapVals (.nilf) = (fun _ _ => none) := rfl
@[simp] theorem eq_mapVals_nili : mapVals (.nili) = (fun _ _ => none) := rfl
@[simp] theorem eq_mapVals_agg (cs : List AV) : mapVals (.agg cs) = (fun _ _ => none) := rfl
@[simp] theorem eq_mapVals_tup (vs : List AV) : mapVals (.tup vs) = (fun _ _ => none) := rfl
@[simp] theorem eq_mapVals_slice (es : List AV) (tk : Tok) : mapVals (.slice es tk) = (fun _ _ => none) := rfl
@[simp] theorem eq_mapVals_hsl (o : Nat) (off : Nat) (len : Nat) (sz : Nat) : mapVals (.hsl o off len sz) = (fun _ _ => none) := rfl
@[simp] theorem eq_mapVals_ptr (o : Nat) (off : Nat) : mapVals (.ptr o off) = (fun _ _ => none) := rfl
@[simp] theorem eq_mapVals_eptr (cs : List AV) (off : Nat) : mapVals (.eptr cs off) = (fun _ _ => none) := rfl
@[simp] theorem eq_mapVals_map (o : Nat) : mapVals (.map o) = mapGet o := rfl
@[simp] theorem eq_mapVals_itr (o : Nat) : mapVals (.itr o) = (fun _ _ => none) := rfl
@[simp] theorem eq_mapVals_fn (f : Fn) (first : List AV) (caps : List AV) : mapVals (.fn f first caps) = (fun _ _ => none) := rfl
@[simp] theorem eq_mapVals_iface (t : TypeId) (v : AV) : mapVals (.iface t v) = (fun _ _ => none) := rfl



def AV.u8 (v : AV) : Option UInt8 :=
  AV.rec (motive_1 := fun _ => Option UInt8) (motive_2 := fun _ => Unit)
    (none)
    (none)
    (fun _ => none)
    (fun k n => match k with | .u8 => some (UInt8.ofNat n.toNat) | _ => none)
    (fun _ => none)
    (none)
    (none)
    (none)
    (none)
    (fun _ _ => none)
    (fun _ _ => none)
    (fun _ _ _ => none)
    (fun _ _ _ _ => none)
    (fun _ _ => none)
    (fun _ _ _ => none)
    (fun _ => none)
    (fun _ => none)
    (fun _ _ _ _ _ => none)
    (fun _ _ _ => none)
    () (fun _ _ _ _ => ()) v
@[simp] theorem eq_AV_u8_junk : AV.u8 (.junk) = none := rfl
@[simp] theorem eq_AV_u8_undef : AV.u8 (.undef) = none := rfl
@[simp] theorem eq_AV_u8_bool (b : Bool) : AV.u8 (.bool b) = none := rfl
@[simp] theorem eq_AV_u8_int (k : IntKind) (n : Int) : AV.u8 (.int k n) = match k with | .u8 => some (UInt8.ofNat n.toNat) | _ => none := rfl
@[simp] theorem eq_AV_u8_str (s : List UInt8) : AV.u8 (.str s) = none := rfl
@[simp] theorem eq_AV_u8_nilp : AV.u8 (.nilp) = none := rfl
@[simp] theorem eq_AV_u8_nilm : AV.u8 (.nilm) = none := rfl
@[simp] theorem eq_AV_u8_nilf : AV.u8 (.nilf) = none := rfl
@[simp] theorem eq_AV_u8_nili : AV.u8 (.nili) = none := rfl
@[simp] theorem eq_AV_u8_agg (cs : List AV) : AV.u8 (.agg cs) = none := rfl
@[simp] theorem eq_AV_u8_tup (vs : List AV) : AV.u8 (.tup vs) = none := rfl
@[simp] theorem eq_AV_u8_slice (es : List AV) (tk : Tok) : AV.u8 (.slice es tk) = none := rfl
@[simp] theorem eq_AV_u8_hsl (o : Nat) (off : Nat) (len : Nat) (sz : Nat) : AV.u8 (.hsl o off len sz) = none := rfl
@[simp] theorem eq_AV_u8_ptr (o : Nat) (off : Nat) : AV.u8 (.ptr o off) = none := rfl
@[simp] theorem eq_AV_u8_eptr (cs : List AV) (off : Nat) : AV.u8 (.eptr cs off) = none := rfl
@[simp] theorem eq_AV_u8_map (o : Nat) : AV.u8 (.map o) = none := rfl
@[simp] theorem eq_AV_u8_itr (o : Nat) : AV.u8 (.itr o) = none := rfl
@[simp] theorem eq_AV_u8_fn (f : Fn) (first : List AV) (caps : List AV) : AV.u8 (.fn f first caps) = none := rfl
@[simp] theorem eq_AV_u8_iface (t : TypeId) (v : AV) : AV.u8 (.iface t v) = none := rfl


def bytesOf (l : List AV) : Option (List UInt8) :=
  List.rec (motive := fun _ => Option (List UInt8)) (some []) (fun x _ ih => match x.u8 with | some b => (match ih with | some r => some (b :: r) | none => none) | none => none) l

def intOr (x : Option AV) (d : Nat) : Option Nat :=
  match x with
  | some v => match v.int? with
    | some n => natI n
    | none => none
  | none => some d

/-- The bounds of a cut, in a row of so many. -/
def cut (len : Nat) (lo hi : Option AV) : Option (Nat × Nat) :=
  match intOr hi len with
  | some h => match intOr lo 0 with
    | some l => bif Nat.ble h len && Nat.ble l h then some (l, h) else none
    | none => none
  | none => none

/-- Cells, as elements of so many. -/
def chunks (sz : Nat) (n : Nat) : List AV → List AV :=
  Nat.rec (motive := fun _ => List AV → List AV) (fun _ => []) (fun _ ih l => (bif Nat.beq sz 1 then (bif isCell (l.headD .junk) then l.headD .junk else .agg [l.headD .junk]) else .agg (l.take sz)) :: ih (l.drop sz)) n

def hslElems (o off len z : Nat) (σ : St) (sz : Nat) : Option (List AV) :=
  match σ.cells o with
  | some l => bif Nat.beq z sz then match slc l off (len * sz) with
    | some cs => some (chunks sz len cs)
    | none => none
    else none
  | none => none
/-- A row's elements. -/
def elemsOf (v : AV) : St → Nat → Option (List AV) :=
  AV.rec (motive_1 := fun _ => St → Nat → Option (List AV)) (motive_2 := fun _ => Unit)
    (fun _ _ => none)
    (fun _ _ => none)
    (fun _ => fun _ _ => none)
    (fun _ _ => fun _ _ => none)
    (fun _ => fun _ _ => none)
    (fun _ _ => none)
    (fun _ _ => none)
    (fun _ _ => none)
    (fun _ _ => none)
    (fun _ _ => fun _ _ => none)
    (fun _ _ => fun _ _ => none)
    (fun es _ _ => fun _ _ => some es)
    (fun o off len sz => hslElems o off len sz)
    (fun _ _ => fun _ _ => none)
    (fun _ _ _ => fun _ _ => none)
    (fun _ => fun _ _ => none)
    (fun _ => fun _ _ => none)
    (fun _ _ _ _ _ => fun _ _ => none)
    (fun _ _ _ => fun _ _ => none)
    () (fun _ _ _ _ => ()) v
@[simp] theorem eq_elemsOf_junk : elemsOf (.junk) = (fun _ _ => none) := rfl
@[simp] theorem eq_elemsOf_undef : elemsOf (.undef) = (fun _ _ => none) := rfl
@[simp] theorem eq_elemsOf_bool (b : Bool) : elemsOf (.bool b) = (fun _ _ => none) := rfl
@[simp] theorem eq_elemsOf_int (k : IntKind) (n : Int) : elemsOf (.int k n) = (fun _ _ => none) := rfl
@[simp] theorem eq_elemsOf_str (s : List UInt8) : elemsOf (.str s) = (fun _ _ => none) := rfl
@[simp] theorem eq_elemsOf_nilp : elemsOf (.nilp) = (fun _ _ => none) := rfl
@[simp] theorem eq_elemsOf_nilm : elemsOf (.nilm) = (fun _ _ => none) := rfl
@[simp] theorem eq_elemsOf_nilf : elemsOf (.nilf) = (fun _ _ => none) := rfl
@[simp] theorem eq_elemsOf_nili : elemsOf (.nili) = (fun _ _ => none) := rfl
@[simp] theorem eq_elemsOf_agg (cs : List AV) : elemsOf (.agg cs) = (fun _ _ => none) := rfl
@[simp] theorem eq_elemsOf_tup (vs : List AV) : elemsOf (.tup vs) = (fun _ _ => none) := rfl
@[simp] theorem eq_elemsOf_slice (es : List AV) (tk : Tok) : elemsOf (.slice es tk) = (fun _ _ => some es) := rfl
@[simp] theorem eq_elemsOf_hsl (o : Nat) (off : Nat) (len : Nat) (sz : Nat) : elemsOf (.hsl o off len sz) = hslElems o off len sz := rfl
@[simp] theorem eq_elemsOf_ptr (o : Nat) (off : Nat) : elemsOf (.ptr o off) = (fun _ _ => none) := rfl
@[simp] theorem eq_elemsOf_eptr (cs : List AV) (off : Nat) : elemsOf (.eptr cs off) = (fun _ _ => none) := rfl
@[simp] theorem eq_elemsOf_map (o : Nat) : elemsOf (.map o) = (fun _ _ => none) := rfl
@[simp] theorem eq_elemsOf_itr (o : Nat) : elemsOf (.itr o) = (fun _ _ => none) := rfl
@[simp] theorem eq_elemsOf_fn (f : Fn) (first : List AV) (caps : List AV) : elemsOf (.fn f first caps) = (fun _ _ => none) := rfl
@[simp] theorem eq_elemsOf_iface (t : TypeId) (v : AV) : elemsOf (.iface t v) = (fun _ _ => none) := rfl



def cutTok (tk : Tok) (l n : Nat) (whole : Bool) : Tok :=
  bif whole then match tk with
    | .full => bif Nat.beq l 0 then .full else .none
    | .live i g => bif Nat.beq l 0 || Nat.blt l n then .live i g else .none
    | .none => .none
  else .none
def headOk (sz : Nat) (es : List AV) : Bool :=
  match es with
  | [] => true
  | e :: _ => Nat.beq e.cells.length sz
def cutSlice (es : List AV) (tk : Tok) (sz : Nat) (lo hi : Option AV) : Option AV :=
  match cut es.length lo hi with
  | some (l, h) => bif headOk sz es then some (.slice ((es.take h).drop l) (cutTok tk l es.length (Nat.beq h es.length))) else none
  | none => none
def cutHsl (o off len z sz : Nat) (lo hi : Option AV) : Option AV :=
  match cut len lo hi with
  | some (l, h) => bif Nat.beq z sz then some (bif Nat.beq l 0 || Nat.blt l len then .hsl o (off + l * sz) (h - l) sz else .slice [] .none) else none
  | none => none
def cutRow (v : AV) : Nat → Option AV → Option AV → Option AV :=
  AV.rec (motive_1 := fun _ => Nat → Option AV → Option AV → Option AV) (motive_2 := fun _ => Unit)
    (fun _ _ _ => none)
    (fun _ _ _ => none)
    (fun _ => fun _ _ _ => none)
    (fun _ _ => fun _ _ _ => none)
    (fun _ => fun _ _ _ => none)
    (fun _ _ _ => none)
    (fun _ _ _ => none)
    (fun _ _ _ => none)
    (fun _ _ _ => none)
    (fun _ _ => fun _ _ _ => none)
    (fun _ _ => fun _ _ _ => none)
    (fun es tk _ => cutSlice es tk)
    (fun o off len sz => cutHsl o off len sz)
    (fun _ _ => fun _ _ _ => none)
    (fun _ _ _ => fun _ _ _ => none)
    (fun _ => fun _ _ _ => none)
    (fun _ => fun _ _ _ => none)
    (fun _ _ _ _ _ => fun _ _ _ => none)
    (fun _ _ _ => fun _ _ _ => none)
    () (fun _ _ _ _ => ()) v
@[simp] theorem eq_cutRow_junk : cutRow (.junk) = (fun _ _ _ => none) := rfl
@[simp] theorem eq_cutRow_undef : cutRow (.undef) = (fun _ _ _ => none) := rfl
@[simp] theorem eq_cutRow_bool (b : Bool) : cutRow (.bool b) = (fun _ _ _ => none) := rfl
@[simp] theorem eq_cutRow_int (k : IntKind) (n : Int) : cutRow (.int k n) = (fun _ _ _ => none) := rfl
@[simp] theorem eq_cutRow_str (s : List UInt8) : cutRow (.str s) = (fun _ _ _ => none) := rfl
@[simp] theorem eq_cutRow_nilp : cutRow (.nilp) = (fun _ _ _ => none) := rfl
@[simp] theorem eq_cutRow_nilm : cutRow (.nilm) = (fun _ _ _ => none) := rfl
@[simp] theorem eq_cutRow_nilf : cutRow (.nilf) = (fun _ _ _ => none) := rfl
@[simp] theorem eq_cutRow_nili : cutRow (.nili) = (fun _ _ _ => none) := rfl
@[simp] theorem eq_cutRow_agg (cs : List AV) : cutRow (.agg cs) = (fun _ _ _ => none) := rfl
@[simp] theorem eq_cutRow_tup (vs : List AV) : cutRow (.tup vs) = (fun _ _ _ => none) := rfl
@[simp] theorem eq_cutRow_slice (es : List AV) (tk : Tok) : cutRow (.slice es tk) = cutSlice es tk := rfl
@[simp] theorem eq_cutRow_hsl (o : Nat) (off : Nat) (len : Nat) (sz : Nat) : cutRow (.hsl o off len sz) = cutHsl o off len sz := rfl
@[simp] theorem eq_cutRow_ptr (o : Nat) (off : Nat) : cutRow (.ptr o off) = (fun _ _ _ => none) := rfl
@[simp] theorem eq_cutRow_eptr (cs : List AV) (off : Nat) : cutRow (.eptr cs off) = (fun _ _ _ => none) := rfl
@[simp] theorem eq_cutRow_map (o : Nat) : cutRow (.map o) = (fun _ _ _ => none) := rfl
@[simp] theorem eq_cutRow_itr (o : Nat) : cutRow (.itr o) = (fun _ _ _ => none) := rfl
@[simp] theorem eq_cutRow_fn (f : Fn) (first : List AV) (caps : List AV) : cutRow (.fn f first caps) = (fun _ _ _ => none) := rfl
@[simp] theorem eq_cutRow_iface (t : TypeId) (v : AV) : cutRow (.iface t v) = (fun _ _ _ => none) := rfl



def fieldOf (v : AV) : Nat → Option AV :=
  AV.rec (motive_1 := fun _ => Nat → Option AV) (motive_2 := fun _ => Unit)
    (fun _ => none)
    (fun _ => none)
    (fun _ => fun _ => none)
    (fun _ _ => fun _ => none)
    (fun _ => fun _ => none)
    (fun _ => none)
    (fun _ => none)
    (fun _ => none)
    (fun _ => none)
    (fun _ _ => fun _ => none)
    (fun _ _ => fun _ => none)
    (fun _ _ _ => fun _ => none)
    (fun _ _ _ _ => fun _ => none)
    (fun o off => fun d => some (.ptr o (off + d)))
    (fun cs off _ => fun d => some (.eptr cs (off + d)))
    (fun _ => fun _ => none)
    (fun _ => fun _ => none)
    (fun _ _ _ _ _ => fun _ => none)
    (fun _ _ _ => fun _ => none)
    () (fun _ _ _ _ => ()) v
@[simp] theorem eq_fieldOf_junk : fieldOf (.junk) = (fun _ => none) := rfl
@[simp] theorem eq_fieldOf_undef : fieldOf (.undef) = (fun _ => none) := rfl
@[simp] theorem eq_fieldOf_bool (b : Bool) : fieldOf (.bool b) = (fun _ => none) := rfl
@[simp] theorem eq_fieldOf_int (k : IntKind) (n : Int) : fieldOf (.int k n) = (fun _ => none) := rfl
@[simp] theorem eq_fieldOf_str (s : List UInt8) : fieldOf (.str s) = (fun _ => none) := rfl
@[simp] theorem eq_fieldOf_nilp : fieldOf (.nilp) = (fun _ => none) := rfl
@[simp] theorem eq_fieldOf_nilm : fieldOf (.nilm) = (fun _ => none) := rfl
@[simp] theorem eq_fieldOf_nilf : fieldOf (.nilf) = (fun _ => none) := rfl
@[simp] theorem eq_fieldOf_nili : fieldOf (.nili) = (fun _ => none) := rfl
@[simp] theorem eq_fieldOf_agg (cs : List AV) : fieldOf (.agg cs) = (fun _ => none) := rfl
@[simp] theorem eq_fieldOf_tup (vs : List AV) : fieldOf (.tup vs) = (fun _ => none) := rfl
@[simp] theorem eq_fieldOf_slice (es : List AV) (tk : Tok) : fieldOf (.slice es tk) = (fun _ => none) := rfl
@[simp] theorem eq_fieldOf_hsl (o : Nat) (off : Nat) (len : Nat) (sz : Nat) : fieldOf (.hsl o off len sz) = (fun _ => none) := rfl
@[simp] theorem eq_fieldOf_ptr (o : Nat) (off : Nat) : fieldOf (.ptr o off) = (fun d => some (.ptr o (off + d))) := rfl
@[simp] theorem eq_fieldOf_eptr (cs : List AV) (off : Nat) : fieldOf (.eptr cs off) = (fun d => some (.eptr cs (off + d))) := rfl
@[simp] theorem eq_fieldOf_map (o : Nat) : fieldOf (.map o) = (fun _ => none) := rfl
@[simp] theorem eq_fieldOf_itr (o : Nat) : fieldOf (.itr o) = (fun _ => none) := rfl
@[simp] theorem eq_fieldOf_fn (f : Fn) (first : List AV) (caps : List AV) : fieldOf (.fn f first caps) = (fun _ => none) := rfl
@[simp] theorem eq_fieldOf_iface (t : TypeId) (v : AV) : fieldOf (.iface t v) = (fun _ => none) := rfl


def notNil (v : AV) : Option AV :=
  AV.rec (motive_1 := fun _ => Option AV) (motive_2 := fun _ => Unit)
    (none)
    (none)
    (fun _ => none)
    (fun _ _ => none)
    (fun _ => none)
    (none)
    (none)
    (none)
    (none)
    (fun _ _ => none)
    (fun _ _ => none)
    (fun _ _ _ => none)
    (fun _ _ _ _ => none)
    (fun o off => some (.ptr o off))
    (fun cs off _ => some (.eptr cs off))
    (fun _ => none)
    (fun _ => none)
    (fun _ _ _ _ _ => none)
    (fun _ _ _ => none)
    () (fun _ _ _ _ => ()) v
@[simp] theorem eq_notNil_junk : notNil (.junk) = none := rfl
@[simp] theorem eq_notNil_undef : notNil (.undef) = none := rfl
@[simp] theorem eq_notNil_bool (b : Bool) : notNil (.bool b) = none := rfl
@[simp] theorem eq_notNil_int (k : IntKind) (n : Int) : notNil (.int k n) = none := rfl
@[simp] theorem eq_notNil_str (s : List UInt8) : notNil (.str s) = none := rfl
@[simp] theorem eq_notNil_nilp : notNil (.nilp) = none := rfl
@[simp] theorem eq_notNil_nilm : notNil (.nilm) = none := rfl
@[simp] theorem eq_notNil_nilf : notNil (.nilf) = none := rfl
@[simp] theorem eq_notNil_nili : notNil (.nili) = none := rfl
@[simp] theorem eq_notNil_agg (cs : List AV) : notNil (.agg cs) = none := rfl
@[simp] theorem eq_notNil_tup (vs : List AV) : notNil (.tup vs) = none := rfl
@[simp] theorem eq_notNil_slice (es : List AV) (tk : Tok) : notNil (.slice es tk) = none := rfl
@[simp] theorem eq_notNil_hsl (o : Nat) (off : Nat) (len : Nat) (sz : Nat) : notNil (.hsl o off len sz) = none := rfl
@[simp] theorem eq_notNil_ptr (o : Nat) (off : Nat) : notNil (.ptr o off) = some (.ptr o off) := rfl
@[simp] theorem eq_notNil_eptr (cs : List AV) (off : Nat) : notNil (.eptr cs off) = some (.eptr cs off) := rfl
@[simp] theorem eq_notNil_map (o : Nat) : notNil (.map o) = none := rfl
@[simp] theorem eq_notNil_itr (o : Nat) : notNil (.itr o) = none := rfl
@[simp] theorem eq_notNil_fn (f : Fn) (first : List AV) (caps : List AV) : notNil (.fn f first caps) = none := rfl
@[simp] theorem eq_notNil_iface (t : TypeId) (v : AV) : notNil (.iface t v) = none := rfl


def inRange (len : Nat) (i : Int) : Option Nat :=
  match i with
  | .ofNat a => bif Nat.blt a len then some a else none
  | .negSucc _ => none
def elemOfArr (v : AV) : Nat → Nat → Option AV :=
  AV.rec (motive_1 := fun _ => Nat → Nat → Option AV) (motive_2 := fun _ => Unit)
    (fun _ _ => none)
    (fun _ _ => none)
    (fun _ => fun _ _ => none)
    (fun _ _ => fun _ _ => none)
    (fun _ => fun _ _ => none)
    (fun _ _ => none)
    (fun _ _ => none)
    (fun _ _ => none)
    (fun _ _ => none)
    (fun _ _ => fun _ _ => none)
    (fun _ _ => fun _ _ => none)
    (fun _ _ _ => fun _ _ => none)
    (fun _ _ _ _ => fun _ _ => none)
    (fun o off => fun sz i => some (.ptr o (off + i * sz)))
    (fun cs off _ => fun sz i => some (.eptr cs (off + i * sz)))
    (fun _ => fun _ _ => none)
    (fun _ => fun _ _ => none)
    (fun _ _ _ _ _ => fun _ _ => none)
    (fun _ _ _ => fun _ _ => none)
    () (fun _ _ _ _ => ()) v
@[simp] theorem eq_elemOfArr_junk : elemOfArr (.junk) = (fun _ _ => none) := rfl
@[simp] theorem eq_elemOfArr_undef : elemOfArr (.undef) = (fun _ _ => none) := rfl
@[simp] theorem eq_elemOfArr_bool (b : Bool) : elemOfArr (.bool b) = (fun _ _ => none) := rfl
@[simp] theorem eq_elemOfArr_int (k : IntKind) (n : Int) : elemOfArr (.int k n) = (fun _ _ => none) := rfl
@[simp] theorem eq_elemOfArr_str (s : List UInt8) : elemOfArr (.str s) = (fun _ _ => none) := rfl
@[simp] theorem eq_elemOfArr_nilp : elemOfArr (.nilp) = (fun _ _ => none) := rfl
@[simp] theorem eq_elemOfArr_nilm : elemOfArr (.nilm) = (fun _ _ => none) := rfl
@[simp] theorem eq_elemOfArr_nilf : elemOfArr (.nilf) = (fun _ _ => none) := rfl
@[simp] theorem eq_elemOfArr_nili : elemOfArr (.nili) = (fun _ _ => none) := rfl
@[simp] theorem eq_elemOfArr_agg (cs : List AV) : elemOfArr (.agg cs) = (fun _ _ => none) := rfl
@[simp] theorem eq_elemOfArr_tup (vs : List AV) : elemOfArr (.tup vs) = (fun _ _ => none) := rfl
@[simp] theorem eq_elemOfArr_slice (es : List AV) (tk : Tok) : elemOfArr (.slice es tk) = (fun _ _ => none) := rfl
@[simp] theorem eq_elemOfArr_hsl (o : Nat) (off : Nat) (len : Nat) (sz : Nat) : elemOfArr (.hsl o off len sz) = (fun _ _ => none) := rfl
@[simp] theorem eq_elemOfArr_ptr (o : Nat) (off : Nat) : elemOfArr (.ptr o off) = (fun sz i => some (.ptr o (off + i * sz))) := rfl
@[simp] theorem eq_elemOfArr_eptr (cs : List AV) (off : Nat) : elemOfArr (.eptr cs off) = (fun sz i => some (.eptr cs (off + i * sz))) := rfl
@[simp] theorem eq_elemOfArr_map (o : Nat) : elemOfArr (.map o) = (fun _ _ => none) := rfl
@[simp] theorem eq_elemOfArr_itr (o : Nat) : elemOfArr (.itr o) = (fun _ _ => none) := rfl
@[simp] theorem eq_elemOfArr_fn (f : Fn) (first : List AV) (caps : List AV) : elemOfArr (.fn f first caps) = (fun _ _ => none) := rfl
@[simp] theorem eq_elemOfArr_iface (t : TypeId) (v : AV) : elemOfArr (.iface t v) = (fun _ _ => none) := rfl


def elemSlice (es : List AV) (sz : Nat) (i : Int) : Option AV :=
  match natI i with
  | some i => match nth es i with
    | some e => bif Nat.beq e.cells.length sz then some (.eptr e.cells 0) else none
    | none => none
  | none => none
def elemHsl (o off len z sz : Nat) (i : Int) : Option AV :=
  match inRange len i with
  | some i => bif Nat.beq z sz then some (.ptr o (off + i * sz)) else none
  | none => none
def elemOfRow (v : AV) : Nat → Int → Option AV :=
  AV.rec (motive_1 := fun _ => Nat → Int → Option AV) (motive_2 := fun _ => Unit)
    (fun _ _ => none)
    (fun _ _ => none)
    (fun _ => fun _ _ => none)
    (fun _ _ => fun _ _ => none)
    (fun _ => fun _ _ => none)
    (fun _ _ => none)
    (fun _ _ => none)
    (fun _ _ => none)
    (fun _ _ => none)
    (fun _ _ => fun _ _ => none)
    (fun _ _ => fun _ _ => none)
    (fun es _ _ => elemSlice es)
    (fun o off len sz => elemHsl o off len sz)
    (fun _ _ => fun _ _ => none)
    (fun _ _ _ => fun _ _ => none)
    (fun _ => fun _ _ => none)
    (fun _ => fun _ _ => none)
    (fun _ _ _ _ _ => fun _ _ => none)
    (fun _ _ _ => fun _ _ => none)
    () (fun _ _ _ _ => ()) v
@[simp] theorem eq_elemOfRow_junk : elemOfRow (.junk) = (fun _ _ => none) := rfl
@[simp] theorem eq_elemOfRow_undef : elemOfRow (.undef) = (fun _ _ => none) := rfl
@[simp] theorem eq_elemOfRow_bool (b : Bool) : elemOfRow (.bool b) = (fun _ _ => none) := rfl
@[simp] theorem eq_elemOfRow_int (k : IntKind) (n : Int) : elemOfRow (.int k n) = (fun _ _ => none) := rfl
@[simp] theorem eq_elemOfRow_str (s : List UInt8) : elemOfRow (.str s) = (fun _ _ => none) := rfl
@[simp] theorem eq_elemOfRow_nilp : elemOfRow (.nilp) = (fun _ _ => none) := rfl
@[simp] theorem eq_elemOfRow_nilm : elemOfRow (.nilm) = (fun _ _ => none) := rfl
@[simp] theorem eq_elemOfRow_nilf : elemOfRow (.nilf) = (fun _ _ => none) := rfl
@[simp] theorem eq_elemOfRow_nili : elemOfRow (.nili) = (fun _ _ => none) := rfl
@[simp] theorem eq_elemOfRow_agg (cs : List AV) : elemOfRow (.agg cs) = (fun _ _ => none) := rfl
@[simp] theorem eq_elemOfRow_tup (vs : List AV) : elemOfRow (.tup vs) = (fun _ _ => none) := rfl
@[simp] theorem eq_elemOfRow_slice (es : List AV) (tk : Tok) : elemOfRow (.slice es tk) = elemSlice es := rfl
@[simp] theorem eq_elemOfRow_hsl (o : Nat) (off : Nat) (len : Nat) (sz : Nat) : elemOfRow (.hsl o off len sz) = elemHsl o off len sz := rfl
@[simp] theorem eq_elemOfRow_ptr (o : Nat) (off : Nat) : elemOfRow (.ptr o off) = (fun _ _ => none) := rfl
@[simp] theorem eq_elemOfRow_eptr (cs : List AV) (off : Nat) : elemOfRow (.eptr cs off) = (fun _ _ => none) := rfl
@[simp] theorem eq_elemOfRow_map (o : Nat) : elemOfRow (.map o) = (fun _ _ => none) := rfl
@[simp] theorem eq_elemOfRow_itr (o : Nat) : elemOfRow (.itr o) = (fun _ _ => none) := rfl
@[simp] theorem eq_elemOfRow_fn (f : Fn) (first : List AV) (caps : List AV) : elemOfRow (.fn f first caps) = (fun _ _ => none) := rfl
@[simp] theorem eq_elemOfRow_iface (t : TypeId) (v : AV) : elemOfRow (.iface t v) = (fun _ _ => none) := rfl


def lenOf (v : AV) : Option Nat :=
  AV.rec (motive_1 := fun _ => Option Nat) (motive_2 := fun _ => Unit)
    (none)
    (none)
    (fun _ => none)
    (fun _ _ => none)
    (fun _ => none)
    (none)
    (none)
    (none)
    (none)
    (fun _ _ => none)
    (fun _ _ => none)
    (fun es _ _ => some es.length)
    (fun _ _ len _ => some len)
    (fun _ _ => none)
    (fun _ _ _ => none)
    (fun _ => none)
    (fun _ => none)
    (fun _ _ _ _ _ => none)
    (fun _ _ _ => none)
    () (fun _ _ _ _ => ()) v
@[simp] theorem eq_lenOf_junk : lenOf (.junk) = none := rfl
@[simp] theorem eq_lenOf_undef : lenOf (.undef) = none := rfl
@[simp] theorem eq_lenOf_bool (b : Bool) : lenOf (.bool b) = none := rfl
@[simp] theorem eq_lenOf_int (k : IntKind) (n : Int) : lenOf (.int k n) = none := rfl
@[simp] theorem eq_lenOf_str (s : List UInt8) : lenOf (.str s) = none := rfl
@[simp] theorem eq_lenOf_nilp : lenOf (.nilp) = none := rfl
@[simp] theorem eq_lenOf_nilm : lenOf (.nilm) = none := rfl
@[simp] theorem eq_lenOf_nilf : lenOf (.nilf) = none := rfl
@[simp] theorem eq_lenOf_nili : lenOf (.nili) = none := rfl
@[simp] theorem eq_lenOf_agg (cs : List AV) : lenOf (.agg cs) = none := rfl
@[simp] theorem eq_lenOf_tup (vs : List AV) : lenOf (.tup vs) = none := rfl
@[simp] theorem eq_lenOf_slice (es : List AV) (tk : Tok) : lenOf (.slice es tk) = some es.length := rfl
@[simp] theorem eq_lenOf_hsl (o : Nat) (off : Nat) (len : Nat) (sz : Nat) : lenOf (.hsl o off len sz) = some len := rfl
@[simp] theorem eq_lenOf_ptr (o : Nat) (off : Nat) : lenOf (.ptr o off) = none := rfl
@[simp] theorem eq_lenOf_eptr (cs : List AV) (off : Nat) : lenOf (.eptr cs off) = none := rfl
@[simp] theorem eq_lenOf_map (o : Nat) : lenOf (.map o) = none := rfl
@[simp] theorem eq_lenOf_itr (o : Nat) : lenOf (.itr o) = none := rfl
@[simp] theorem eq_lenOf_fn (f : Fn) (first : List AV) (caps : List AV) : lenOf (.fn f first caps) = none := rfl
@[simp] theorem eq_lenOf_iface (t : TypeId) (v : AV) : lenOf (.iface t v) = none := rfl



def most : Nat := 1099511627776

/-- A slice that more is appended to: the token behind, the state. -/
def grow (es xs : List AV) (tk : Tok) (sz : Nat) (σ : St) : Option (AV × St) :=
  match tk with
  | .full => some (.slice (es ++ xs) (.live σ.next 0), σ.add (.tok 0 sz))
  | .live i g => match σ.tokOf i with
    | some (h, z) => bif Nat.beq h g && Nat.beq z sz then some (.slice (es ++ xs) (.live i (g + 1)), σ.set i (.tok (g + 1) sz)) else none
    | none => none
  | .none => none
def fits (n bytes : Nat) : Bool := Nat.ble n 4294967296 && Nat.ble bytes 256
def elemOk (sz : Nat) (e : AV) : Bool := Nat.beq e.cells.length sz && e.cells.all isCell
def appSlice (es : List AV) (tk : Tok) (sz bytes : Nat) (hs : Bool) (xs : List AV) (σ : St) : Option (AV × St) :=
  bif fits (es.length + xs.length) bytes && xs.all (elemOk sz) && headOk sz es then
    bif xs.isEmpty then some (.slice es tk, σ) else
    bif hs then match tk with
      | .full => some (.hsl σ.next 0 (es.length + xs.length) sz, σ.add (.cells ((es ++ xs).flatMap AV.cells)))
      | _ => none
    else grow es (xs.map stripCell) tk sz σ
  else none
def appHsl (o off len z : Nat) (sz bytes : Nat) (_ : Bool) (xs : List AV) (σ : St) : Option (AV × St) :=
  bif fits (len + xs.length) bytes && xs.all (elemOk sz) && Nat.beq z sz then
    match σ.cells o with
    | some l => match slc l off (len * sz) with
      | some cs => some (.hsl σ.next 0 (len + xs.length) sz, (σ.del o).add (.cells (cs ++ xs.flatMap AV.cells)))
      | none => none
    | none => none
  else none
def appTo (v : AV) : Nat → Nat → Bool → List AV → St → Option (AV × St) :=
  AV.rec (motive_1 := fun _ => Nat → Nat → Bool → List AV → St → Option (AV × St)) (motive_2 := fun _ => Unit)
    (fun _ _ _ _ _ => none)
    (fun _ _ _ _ _ => none)
    (fun _ => fun _ _ _ _ _ => none)
    (fun _ _ => fun _ _ _ _ _ => none)
    (fun _ => fun _ _ _ _ _ => none)
    (fun _ _ _ _ _ => none)
    (fun _ _ _ _ _ => none)
    (fun _ _ _ _ _ => none)
    (fun _ _ _ _ _ => none)
    (fun _ _ => fun _ _ _ _ _ => none)
    (fun _ _ => fun _ _ _ _ _ => none)
    (fun es tk _ => appSlice es tk)
    (fun o off len sz => appHsl o off len sz)
    (fun _ _ => fun _ _ _ _ _ => none)
    (fun _ _ _ => fun _ _ _ _ _ => none)
    (fun _ => fun _ _ _ _ _ => none)
    (fun _ => fun _ _ _ _ _ => none)
    (fun _ _ _ _ _ => fun _ _ _ _ _ => none)
    (fun _ _ _ => fun _ _ _ _ _ => none)
    () (fun _ _ _ _ => ()) v
@[simp] theorem eq_appTo_junk : appTo (.junk) = (fun _ _ _ _ _ => none) := rfl
@[simp] theorem eq_appTo_undef : appTo (.undef) = (fun _ _ _ _ _ => none) := rfl
@[simp] theorem eq_appTo_bool (b : Bool) : appTo (.bool b) = (fun _ _ _ _ _ => none) := rfl
@[simp] theorem eq_appTo_int (k : IntKind) (n : Int) : appTo (.int k n) = (fun _ _ _ _ _ => none) := rfl
@[simp] theorem eq_appTo_str (s : List UInt8) : appTo (.str s) = (fun _ _ _ _ _ => none) := rfl
@[simp] theorem eq_appTo_nilp : appTo (.nilp) = (fun _ _ _ _ _ => none) := rfl
@[simp] theorem eq_appTo_nilm : appTo (.nilm) = (fun _ _ _ _ _ => none) := rfl
@[simp] theorem eq_appTo_nilf : appTo (.nilf) = (fun _ _ _ _ _ => none) := rfl
@[simp] theorem eq_appTo_nili : appTo (.nili) = (fun _ _ _ _ _ => none) := rfl
@[simp] theorem eq_appTo_agg (cs : List AV) : appTo (.agg cs) = (fun _ _ _ _ _ => none) := rfl
@[simp] theorem eq_appTo_tup (vs : List AV) : appTo (.tup vs) = (fun _ _ _ _ _ => none) := rfl
@[simp] theorem eq_appTo_slice (es : List AV) (tk : Tok) : appTo (.slice es tk) = appSlice es tk := rfl
@[simp] theorem eq_appTo_hsl (o : Nat) (off : Nat) (len : Nat) (sz : Nat) : appTo (.hsl o off len sz) = appHsl o off len sz := rfl
@[simp] theorem eq_appTo_ptr (o : Nat) (off : Nat) : appTo (.ptr o off) = (fun _ _ _ _ _ => none) := rfl
@[simp] theorem eq_appTo_eptr (cs : List AV) (off : Nat) : appTo (.eptr cs off) = (fun _ _ _ _ _ => none) := rfl
@[simp] theorem eq_appTo_map (o : Nat) : appTo (.map o) = (fun _ _ _ _ _ => none) := rfl
@[simp] theorem eq_appTo_itr (o : Nat) : appTo (.itr o) = (fun _ _ _ _ _ => none) := rfl
@[simp] theorem eq_appTo_fn (f : Fn) (first : List AV) (caps : List AV) : appTo (.fn f first caps) = (fun _ _ _ _ _ => none) := rfl
@[simp] theorem eq_appTo_iface (t : TypeId) (v : AV) : appTo (.iface t v) = (fun _ _ _ _ _ => none) := rfl


def appTo1 (v : AV) : Nat → Nat → List AV → St → Option (AV × St) :=
  AV.rec (motive_1 := fun _ => Nat → Nat → List AV → St → Option (AV × St)) (motive_2 := fun _ => Unit)
    (fun _ _ _ _ => none)
    (fun _ _ _ _ => none)
    (fun _ => fun _ _ _ _ => none)
    (fun _ _ => fun _ _ _ _ => none)
    (fun _ => fun _ _ _ _ => none)
    (fun _ _ _ _ => none)
    (fun _ _ _ _ => none)
    (fun _ _ _ _ => none)
    (fun _ _ _ _ => none)
    (fun _ _ => fun _ _ _ _ => none)
    (fun _ _ => fun _ _ _ _ => none)
    (fun es tk _ => fun sz bytes xs σ => appSlice es tk sz bytes false xs σ)
    (fun _ _ _ _ => fun _ _ _ _ => none)
    (fun _ _ => fun _ _ _ _ => none)
    (fun _ _ _ => fun _ _ _ _ => none)
    (fun _ => fun _ _ _ _ => none)
    (fun _ => fun _ _ _ _ => none)
    (fun _ _ _ _ _ => fun _ _ _ _ => none)
    (fun _ _ _ => fun _ _ _ _ => none)
    () (fun _ _ _ _ => ()) v
@[simp] theorem eq_appTo1_junk : appTo1 (.junk) = (fun _ _ _ _ => none) := rfl
@[simp] theorem eq_appTo1_undef : appTo1 (.undef) = (fun _ _ _ _ => none) := rfl
@[simp] theorem eq_appTo1_bool (b : Bool) : appTo1 (.bool b) = (fun _ _ _ _ => none) := rfl
@[simp] theorem eq_appTo1_int (k : IntKind) (n : Int) : appTo1 (.int k n) = (fun _ _ _ _ => none) := rfl
@[simp] theorem eq_appTo1_str (s : List UInt8) : appTo1 (.str s) = (fun _ _ _ _ => none) := rfl
@[simp] theorem eq_appTo1_nilp : appTo1 (.nilp) = (fun _ _ _ _ => none) := rfl
@[simp] theorem eq_appTo1_nilm : appTo1 (.nilm) = (fun _ _ _ _ => none) := rfl
@[simp] theorem eq_appTo1_nilf : appTo1 (.nilf) = (fun _ _ _ _ => none) := rfl
@[simp] theorem eq_appTo1_nili : appTo1 (.nili) = (fun _ _ _ _ => none) := rfl
@[simp] theorem eq_appTo1_agg (cs : List AV) : appTo1 (.agg cs) = (fun _ _ _ _ => none) := rfl
@[simp] theorem eq_appTo1_tup (vs : List AV) : appTo1 (.tup vs) = (fun _ _ _ _ => none) := rfl
@[simp] theorem eq_appTo1_slice (es : List AV) (tk : Tok) : appTo1 (.slice es tk) = (fun sz bytes xs σ => appSlice es tk sz bytes false xs σ) := rfl
@[simp] theorem eq_appTo1_hsl (o : Nat) (off : Nat) (len : Nat) (sz : Nat) : appTo1 (.hsl o off len sz) = (fun _ _ _ _ => none) := rfl
@[simp] theorem eq_appTo1_ptr (o : Nat) (off : Nat) : appTo1 (.ptr o off) = (fun _ _ _ _ => none) := rfl
@[simp] theorem eq_appTo1_eptr (cs : List AV) (off : Nat) : appTo1 (.eptr cs off) = (fun _ _ _ _ => none) := rfl
@[simp] theorem eq_appTo1_map (o : Nat) : appTo1 (.map o) = (fun _ _ _ _ => none) := rfl
@[simp] theorem eq_appTo1_itr (o : Nat) : appTo1 (.itr o) = (fun _ _ _ _ => none) := rfl
@[simp] theorem eq_appTo1_fn (f : Fn) (first : List AV) (caps : List AV) : appTo1 (.fn f first caps) = (fun _ _ _ _ => none) := rfl
@[simp] theorem eq_appTo1_iface (t : TypeId) (v : AV) : appTo1 (.iface t v) = (fun _ _ _ _ => none) := rfl



/-! ### Operations that are no calls: the value, and the state -/
def ret1 (v : Option AV) (σ : St) : Option (AV × St) :=
  match v with
  | some v => some (v, σ)
  | none => none
def op_move (x : Opd) (tm : Env) (σ : St) : Option (AV × St) := some (x.eval tm, σ)
def op_pick (c a b : Opd) (tm : Env) (σ : St) : Option (AV × St) :=
  match (c.eval tm).bool? with
  | some c => some (bif c then a.eval tm else b.eval tm, σ)
  | none => none
def op_box (x : Opd) (tm : Env) (σ : St) : Option (AV × St) := bif known (x.eval tm) then some (.ptr σ.next 0, σ.add (.cells (x.eval tm).cells)) else none
def op_alloc (z : AV) (_ : Env) (σ : St) : Option (AV × St) := some (.ptr σ.next 0, σ.add (.cells z.cells))
def op_build (z : List AV) (ps : List (Nat × Nat × Opd)) (tm : Env) (σ : St) : Option (AV × St) :=
  match fillParts tm ps z with
  | some cs => some (.agg cs, σ)
  | none => none
def op_buildSlice (sz len : Nat) (z : AV) (ps : List (Nat × Opd)) (hs : Bool) (tm : Env) (σ : St) : Option (AV × St) :=
  match setElems tm sz ps (rep len z) with
  | some es => bif hs then some (.hsl σ.next 0 len sz, σ.add (.cells (es.flatMap AV.cells))) else some (.slice es .full, σ)
  | none => none
def op_load (n : Option Nat) (a : Opd) (tm : Env) (σ : St) : Option (AV × St) := ret1 (loadAt σ n (a.eval tm)) σ
def op_store (n : Nat) (a x : Opd) (tm : Env) (σ : St) : Option (AV × St) :=
  match storeCells (a.eval tm) σ n (x.eval tm).cells with
  | some σ => some (.undef, σ)
  | none => none
def op_nilCheck (x : Opd) (tm : Env) (σ : St) : Option (AV × St) := ret1 (notNil (x.eval tm)) σ
def op_bin (o : BinOp) (x y : Opd) (tm : Env) (σ : St) : Option (AV × St) := ret1 (binL (x.eval tm) (y.eval tm) o) σ
def op_eqAgg (neg : Bool) (ks : List Nat) (x y : Opd) (tm : Env) (σ : St) : Option (AV × St) :=
  match (x.eval tm).agg? with
  | some a => match (y.eval tm).agg? with
    | some b => bif eqNs (shapesP a) ks && eqNs (shapesP b) ks then some (.bool (eqPs a b != neg), σ) else none
    | none => none
  | none => none
def op_eqBool (neg : Bool) (x y : Opd) (tm : Env) (σ : St) : Option (AV × St) :=
  match (x.eval tm).bool? with
  | some a => match (y.eval tm).bool? with
    | some b => some (.bool ((a == b) != neg), σ)
    | none => none
  | none => none
def op_eqNil (neg : Bool) (kd : Nat) (x y : Opd) (tm : Env) (σ : St) : Option (AV × St) :=
  match nilEq kd (nilCode (x.eval tm)) (nilCode (y.eval tm)) with
  | some b => some (.bool (b != neg), σ)
  | none => none
def op_un (o : UnOp) (x : Opd) (tm : Env) (σ : St) : Option (AV × St) := ret1 (unV (x.eval tm) o) σ
def op_convInt (k : IntKind) (x : Opd) (tm : Env) (σ : St) : Option (AV × St) :=
  match (x.eval tm).int? with
  | some n => some (.int k (wrapK k n), σ)
  | none => none
def op_convId (x : Opd) (tm : Env) (σ : St) : Option (AV × St) :=
  match (x.eval tm).str? with
  | some s => some (.str s, σ)
  | none => none
def op_convChar (x : Opd) (tm : Env) (σ : St) : Option (AV × St) :=
  match (x.eval tm).int? with
  | some n => match natI n with
    | some n => bif Nat.blt n 128 then some (.str [UInt8.ofNat n], σ) else none
    | none => none
  | none => none
def op_convBytes (x : Opd) (tm : Env) (σ : St) : Option (AV × St) :=
  match elemsOf (x.eval tm) σ 1 with
  | some es => match bytesOf es with
    | some s => some (.str s, σ)
    | none => none
  | none => none
def op_makeFunc (f : Fn) (first caps : List Opd) (tm : Env) (σ : St) : Option (AV × St) := some (.fn f (evals tm first) (evals tm caps), σ)
def op_makeMap (ks : List Nat) (_ : Env) (σ : St) : Option (AV × St) := some (.map σ.next, σ.add (.map ks []))
def op_makeSlice (sz bytes : Nat) (z : AV) (len cap : Opd) (tm : Env) (σ : St) : Option (AV × St) :=
  match (len.eval tm).int? with
  | some l => match (cap.eval tm).int? with
    | some c => match natI l with
      | some l => bif eqI c l && Nat.ble (l * bytes) most && Nat.ble (l * sz) most then some (.hsl σ.next 0 l sz, σ.add (.cells (repCells l z.cells))) else none
      | none => none
    | none => none
  | none => none
def evalO (tm : Env) (x : Option Opd) : Option AV :=
  match x with
  | some x => some (x.eval tm)
  | none => none
def op_sliceStr (x : Opd) (lo hi : Option Opd) (tm : Env) (σ : St) : Option (AV × St) :=
  match (x.eval tm).str? with
  | some s => match cut s.length (evalO tm lo) (evalO tm hi) with
    | some (l, h) => some (.str ((s.take h).drop l), σ)
    | none => none
  | none => none
def op_sliceSl (sz : Nat) (x : Opd) (lo hi : Option Opd) (tm : Env) (σ : St) : Option (AV × St) := ret1 (cutRow (x.eval tm) sz (evalO tm lo) (evalO tm hi)) σ
def op_fieldAddr (off : Nat) (x : Opd) (tm : Env) (σ : St) : Option (AV × St) := ret1 (fieldOf (x.eval tm) off) σ
def op_field (off : Nat) (n : Option Nat) (x : Opd) (tm : Env) (σ : St) : Option (AV × St) :=
  match (x.eval tm).agg? with
  | some cs => match slc cs off (n.getD 1) with
    | some l => ret1 (ofCells n l) σ
    | none => none
  | none => none
def op_indexArr (len sz : Nat) (x i : Opd) (tm : Env) (σ : St) : Option (AV × St) :=
  match (i.eval tm).int? with
  | some i => match inRange len i with
    | some i => ret1 (elemOfArr (x.eval tm) sz i) σ
    | none => none
  | none => none
def op_indexSl (sz : Nat) (x i : Opd) (tm : Env) (σ : St) : Option (AV × St) :=
  match (i.eval tm).int? with
  | some i => ret1 (elemOfRow (x.eval tm) sz i) σ
  | none => none
def op_charAt (x i : Opd) (tm : Env) (σ : St) : Option (AV × St) :=
  match (x.eval tm).str? with
  | some s => match (i.eval tm).int? with
    | some i => match natI i with
      | some i => match nth s i with
        | some b => some (.int .u8 b.toNat, σ)
        | none => none
      | none => none
    | none => none
  | none => none
def op_lookup (ks : List Nat) (z : AV) (x i : Opd) (ok : Bool) (tm : Env) (σ : St) : Option (AV × St) :=
  match mapVals (x.eval tm) σ ks with
  | some es => bif keyOk ks (i.eval tm) then match mfind es (i.eval tm) with
      | some v => some (bif ok then .tup [v, .bool true] else v, σ)
      | none => some (bif ok then .tup [z, .bool false] else z, σ)
    else none
  | none => none
def op_mapUpdate (ks : List Nat) (m k x : Opd) (tm : Env) (σ : St) : Option (AV × St) :=
  match (m.eval tm).map? with
  | some o => match mapGet o σ ks with
    | some es => bif keyOk ks (k.eval tm) && known (x.eval tm) then some (.undef, σ.set o (.map ks (mput es (k.eval tm) (stripCell (x.eval tm))))) else none
    | none => none
  | none => none
def op_delete (ks : List Nat) (m k : Opd) (tm : Env) (σ : St) : Option (AV × St) :=
  match (m.eval tm).map? with
  | some o => match mapGet o σ ks with
    | some es => bif keyOk ks (k.eval tm) then some (.undef, σ.set o (.map ks (mdel es (k.eval tm)))) else none
    | none => none
  | none => none
def op_extract (x : Opd) (i : Nat) (tm : Env) (σ : St) : Option (AV × St) :=
  match (x.eval tm).tup? with
  | some vs => ret1 (nth vs i) σ
  | none => none
def op_lenStr (x : Opd) (tm : Env) (σ : St) : Option (AV × St) :=
  match (x.eval tm).str? with
  | some s => some (.int .i64 s.length, σ)
  | none => none
def op_lenSl (x : Opd) (tm : Env) (σ : St) : Option (AV × St) :=
  match lenOf (x.eval tm) with
  | some n => some (.int .i64 n, σ)
  | none => none
def op_lenMap (ks : List Nat) (x : Opd) (tm : Env) (σ : St) : Option (AV × St) :=
  match mapVals (x.eval tm) σ ks with
  | some es => some (.int .i64 es.length, σ)
  | none => none
def op_min (x y : Opd) (tm : Env) (σ : St) : Option (AV × St) :=
  match (x.eval tm).int? with
  | some a => match (y.eval tm).int? with
    | some b => match binL (x.eval tm) (y.eval tm) .sub with
      | some _ => some (bif ltI b a then y.eval tm else x.eval tm, σ)
      | none => none
    | none => none
  | none => none
def op_append (sz bytes : Nat) (hs : Bool) (s x : Opd) (tm : Env) (σ : St) : Option (AV × St) :=
  match elemsOf (x.eval tm) σ sz with
  | some xs => appTo (s.eval tm) sz bytes hs xs σ
  | none => none
def op_append1 (sz bytes : Nat) (s x : Opd) (tm : Env) (σ : St) : Option (AV × St) := appTo1 (s.eval tm) sz bytes [x.eval tm] σ
def op_rangeStr (x : Opd) (tm : Env) (σ : St) : Option (AV × St) :=
  match (x.eval tm).str? with
  | some s => some (.itr σ.next, σ.add (.iter s 0))
  | none => none
def op_nextStr (x : Opd) (tm : Env) (σ : St) : Option (AV × St) :=
  match (x.eval tm).itr? with
  | some o => match σ.get o with
    | some (.iter s pos) => match nth s pos with
      | none => some (.tup [.bool false], σ)
      | some b => bif Nat.blt b.toNat 128 then some (.tup [.bool true, .int .i64 pos, .int .i32 b.toNat], σ.set o (.iter s (pos + 1))) else none
    | _ => none
  | none => none
/-- A map's literal, its keys constants that differ. -/
def litMap (tm : Env) (ps : List (AV × Opd)) : List (AV × AV) :=
  List.rec (motive := fun _ => List (AV × AV)) [] (fun p _ ih => (p.1, stripCell (p.2.eval tm)) :: ih) ps
def litOk (tm : Env) (ps : List (AV × Opd)) : Bool := List.rec (motive := fun _ => Bool) true (fun p _ ih => bif known (p.2.eval tm) then ih else false) ps
def op_mapLit (ks : List Nat) (ps : List (AV × Opd)) (tm : Env) (σ : St) : Option (AV × St) := bif litOk tm ps then some (.map σ.next, σ.add (.map ks (litMap tm ps))) else none

def op (p : AOp) : Env → St → Option (AV × St) :=
  AOp.rec (motive := fun _ => Env → St → Option (AV × St))
    (fun _ _ => none)
    (fun x => op_move x)
    (fun c a b => op_pick c a b)
    (fun x => op_box x)
    (fun zero => op_alloc zero)
    (fun zero parts => op_build zero parts)
    (fun sz len zero parts hs => op_buildSlice sz len zero parts hs)
    (fun n a => op_load n a)
    (fun n a x => op_store n a x)
    (fun x => op_nilCheck x)
    (fun o x y => op_bin o x y)
    (fun neg ks x y => op_eqAgg neg ks x y)
    (fun neg x y => op_eqBool neg x y)
    (fun neg kd x y => op_eqNil neg kd x y)
    (fun o x => op_un o x)
    (fun k x => op_convInt k x)
    (fun x => op_convId x)
    (fun x => op_convChar x)
    (fun x => op_convBytes x)
    (fun fn first caps => op_makeFunc fn first caps)
    (fun ks => op_makeMap ks)
    (fun sz bytes zero len cap => op_makeSlice sz bytes zero len cap)
    (fun x lo hi => op_sliceStr x lo hi)
    (fun sz x lo hi => op_sliceSl sz x lo hi)
    (fun off x => op_fieldAddr off x)
    (fun off n x => op_field off n x)
    (fun len sz x i => op_indexArr len sz x i)
    (fun sz x i => op_indexSl sz x i)
    (fun x i => op_charAt x i)
    (fun ks zero x i ok => op_lookup ks zero x i ok)
    (fun ks m k x => op_mapUpdate ks m k x)
    (fun ks m k => op_delete ks m k)
    (fun x i => op_extract x i)
    (fun _ _ => fun _ _ => none)
    (fun x => op_lenStr x)
    (fun x => op_lenSl x)
    (fun ks x => op_lenMap ks x)
    (fun x y => op_min x y)
    (fun sz bytes hs s x => op_append sz bytes hs s x)
    (fun sz bytes s x => op_append1 sz bytes s x)
    (fun x => op_rangeStr x)
    (fun x => op_nextStr x)
    (fun _ _ => fun _ _ => none)
    (fun ks parts => op_mapLit ks parts) p
@[simp] theorem eq_op_bad : op (.bad) = (fun _ _ => none) := rfl
@[simp] theorem eq_op_move (x : Opd) : op (.move x) = op_move x := rfl
@[simp] theorem eq_op_pick (c : Opd) (a : Opd) (b : Opd) : op (.pick c a b) = op_pick c a b := rfl
@[simp] theorem eq_op_box (x : Opd) : op (.box x) = op_box x := rfl
@[simp] theorem eq_op_alloc (zero : AV) : op (.alloc zero) = op_alloc zero := rfl
@[simp] theorem eq_op_build (zero : List AV) (parts : List (Nat × Nat × Opd)) : op (.build zero parts) = op_build zero parts := rfl
@[simp] theorem eq_op_buildSlice (sz : Nat) (len : Nat) (zero : AV) (parts : List (Nat × Opd)) (hs : Bool) : op (.buildSlice sz len zero parts hs) = op_buildSlice sz len zero parts hs := rfl
@[simp] theorem eq_op_load (n : Option Nat) (a : Opd) : op (.load n a) = op_load n a := rfl
@[simp] theorem eq_op_store (n : Nat) (a : Opd) (x : Opd) : op (.store n a x) = op_store n a x := rfl
@[simp] theorem eq_op_nilCheck (x : Opd) : op (.nilCheck x) = op_nilCheck x := rfl
@[simp] theorem eq_op_bin (o : BinOp) (x : Opd) (y : Opd) : op (.bin o x y) = op_bin o x y := rfl
@[simp] theorem eq_op_eqAgg (neg : Bool) (ks : List Nat) (x : Opd) (y : Opd) : op (.eqAgg neg ks x y) = op_eqAgg neg ks x y := rfl
@[simp] theorem eq_op_eqBool (neg : Bool) (x : Opd) (y : Opd) : op (.eqBool neg x y) = op_eqBool neg x y := rfl
@[simp] theorem eq_op_eqNil (neg : Bool) (kd : Nat) (x : Opd) (y : Opd) : op (.eqNil neg kd x y) = op_eqNil neg kd x y := rfl
@[simp] theorem eq_op_un (o : UnOp) (x : Opd) : op (.un o x) = op_un o x := rfl
@[simp] theorem eq_op_convInt (k : IntKind) (x : Opd) : op (.convInt k x) = op_convInt k x := rfl
@[simp] theorem eq_op_convId (x : Opd) : op (.convId x) = op_convId x := rfl
@[simp] theorem eq_op_convChar (x : Opd) : op (.convChar x) = op_convChar x := rfl
@[simp] theorem eq_op_convBytes (x : Opd) : op (.convBytes x) = op_convBytes x := rfl
@[simp] theorem eq_op_makeFunc (fn : Fn) (first : List Opd) (caps : List Opd) : op (.makeFunc fn first caps) = op_makeFunc fn first caps := rfl
@[simp] theorem eq_op_makeMap (ks : List Nat) : op (.makeMap ks) = op_makeMap ks := rfl
@[simp] theorem eq_op_makeSlice (sz : Nat) (bytes : Nat) (zero : AV) (len : Opd) (cap : Opd) : op (.makeSlice sz bytes zero len cap) = op_makeSlice sz bytes zero len cap := rfl
@[simp] theorem eq_op_sliceStr (x : Opd) (lo : Option Opd) (hi : Option Opd) : op (.sliceStr x lo hi) = op_sliceStr x lo hi := rfl
@[simp] theorem eq_op_sliceSl (sz : Nat) (x : Opd) (lo : Option Opd) (hi : Option Opd) : op (.sliceSl sz x lo hi) = op_sliceSl sz x lo hi := rfl
@[simp] theorem eq_op_fieldAddr (off : Nat) (x : Opd) : op (.fieldAddr off x) = op_fieldAddr off x := rfl
@[simp] theorem eq_op_field (off : Nat) (n : Option Nat) (x : Opd) : op (.field off n x) = op_field off n x := rfl
@[simp] theorem eq_op_indexArr (len : Nat) (sz : Nat) (x : Opd) (i : Opd) : op (.indexArr len sz x i) = op_indexArr len sz x i := rfl
@[simp] theorem eq_op_indexSl (sz : Nat) (x : Opd) (i : Opd) : op (.indexSl sz x i) = op_indexSl sz x i := rfl
@[simp] theorem eq_op_charAt (x : Opd) (i : Opd) : op (.charAt x i) = op_charAt x i := rfl
@[simp] theorem eq_op_lookup (ks : List Nat) (zero : AV) (x : Opd) (i : Opd) (ok : Bool) : op (.lookup ks zero x i ok) = op_lookup ks zero x i ok := rfl
@[simp] theorem eq_op_mapUpdate (ks : List Nat) (m : Opd) (k : Opd) (x : Opd) : op (.mapUpdate ks m k x) = op_mapUpdate ks m k x := rfl
@[simp] theorem eq_op_delete (ks : List Nat) (m : Opd) (k : Opd) : op (.delete ks m k) = op_delete ks m k := rfl
@[simp] theorem eq_op_extract (x : Opd) (i : Nat) : op (.extract x i) = op_extract x i := rfl
@[simp] theorem eq_op_call (f : Opd) (args : List Opd) : op (.call f args) = (fun _ _ => none) := rfl
@[simp] theorem eq_op_lenStr (x : Opd) : op (.lenStr x) = op_lenStr x := rfl
@[simp] theorem eq_op_lenSl (x : Opd) : op (.lenSl x) = op_lenSl x := rfl
@[simp] theorem eq_op_lenMap (ks : List Nat) (x : Opd) : op (.lenMap ks x) = op_lenMap ks x := rfl
@[simp] theorem eq_op_min (x : Opd) (y : Opd) : op (.min x y) = op_min x y := rfl
@[simp] theorem eq_op_append (sz : Nat) (bytes : Nat) (hs : Bool) (s : Opd) (x : Opd) : op (.append sz bytes hs s x) = op_append sz bytes hs s x := rfl
@[simp] theorem eq_op_append1 (sz : Nat) (bytes : Nat) (s : Opd) (x : Opd) : op (.append1 sz bytes s x) = op_append1 sz bytes s x := rfl
@[simp] theorem eq_op_rangeStr (x : Opd) : op (.rangeStr x) = op_rangeStr x := rfl
@[simp] theorem eq_op_nextStr (x : Opd) : op (.nextStr x) = op_nextStr x := rfl
@[simp] theorem eq_op_defer (f : Opd) (args : List Opd) : op (.defer f args) = (fun _ _ => none) := rfl
@[simp] theorem eq_op_mapLit (ks : List Nat) (parts : List (AV × Opd)) : op (.mapLit ks parts) = op_mapLit ks parts := rfl

/-! ### Calls and code -/
inductive Ex where
  | normal
  | exit (id : Nat)
  | ret
  deriving DecidableEq, Repr, Inhabited

/-- What is called. -/
inductive Cal where
  | fn (n : Nat)
  | yield (l : Nat)
  | dfn (n : Nat)
  deriving Inhabited

abbrev CallF := Cal → List AV → St → Option (AV × St)

def calleeFn (f : Fn) (first caps : List AV) (args : List AV) : Option (Cal × List AV) :=
  match f with
  | .func n => some (.fn n, first ++ args ++ caps)
  | .yield l => match first with
    | [] => some (.yield l, args)
    | _ :: _ => none
  | _ => none
def callee (v : AV) : List AV → Option (Cal × List AV) :=
  AV.rec (motive_1 := fun _ => List AV → Option (Cal × List AV)) (motive_2 := fun _ => Unit)
    (fun _ => none)
    (fun _ => none)
    (fun _ => fun _ => none)
    (fun _ _ => fun _ => none)
    (fun _ => fun _ => none)
    (fun _ => none)
    (fun _ => none)
    (fun _ => none)
    (fun _ => none)
    (fun _ _ => fun _ => none)
    (fun _ _ => fun _ => none)
    (fun _ _ _ => fun _ => none)
    (fun _ _ _ _ => fun _ => none)
    (fun _ _ => fun _ => none)
    (fun _ _ _ => fun _ => none)
    (fun _ => fun _ => none)
    (fun _ => fun _ => none)
    (fun f first caps _ _ => calleeFn f first caps)
    (fun _ _ _ => fun _ => none)
    () (fun _ _ _ _ => ()) v
@[simp] theorem eq_callee_junk : callee (.junk) = (fun _ => none) := rfl
@[simp] theorem eq_callee_undef : callee (.undef) = (fun _ => none) := rfl
@[simp] theorem eq_callee_bool (b : Bool) : callee (.bool b) = (fun _ => none) := rfl
@[simp] theorem eq_callee_int (k : IntKind) (n : Int) : callee (.int k n) = (fun _ => none) := rfl
@[simp] theorem eq_callee_str (s : List UInt8) : callee (.str s) = (fun _ => none) := rfl
@[simp] theorem eq_callee_nilp : callee (.nilp) = (fun _ => none) := rfl
@[simp] theorem eq_callee_nilm : callee (.nilm) = (fun _ => none) := rfl
@[simp] theorem eq_callee_nilf : callee (.nilf) = (fun _ => none) := rfl
@[simp] theorem eq_callee_nili : callee (.nili) = (fun _ => none) := rfl
@[simp] theorem eq_callee_agg (cs : List AV) : callee (.agg cs) = (fun _ => none) := rfl
@[simp] theorem eq_callee_tup (vs : List AV) : callee (.tup vs) = (fun _ => none) := rfl
@[simp] theorem eq_callee_slice (es : List AV) (tk : Tok) : callee (.slice es tk) = (fun _ => none) := rfl
@[simp] theorem eq_callee_hsl (o : Nat) (off : Nat) (len : Nat) (sz : Nat) : callee (.hsl o off len sz) = (fun _ => none) := rfl
@[simp] theorem eq_callee_ptr (o : Nat) (off : Nat) : callee (.ptr o off) = (fun _ => none) := rfl
@[simp] theorem eq_callee_eptr (cs : List AV) (off : Nat) : callee (.eptr cs off) = (fun _ => none) := rfl
@[simp] theorem eq_callee_map (o : Nat) : callee (.map o) = (fun _ => none) := rfl
@[simp] theorem eq_callee_itr (o : Nat) : callee (.itr o) = (fun _ => none) := rfl
@[simp] theorem eq_callee_fn (f : Fn) (first : List AV) (caps : List AV) : callee (.fn f first caps) = calleeFn f first caps := rfl
@[simp] theorem eq_callee_iface (t : TypeId) (v : AV) : callee (.iface t v) = (fun _ => none) := rfl


def AV.fn? (v : AV) : Option (Fn × List AV × List AV) :=
  AV.rec (motive_1 := fun _ => Option (Fn × List AV × List AV)) (motive_2 := fun _ => Unit)
    (none)
    (none)
    (fun _ => none)
    (fun _ _ => none)
    (fun _ => none)
    (none)
    (none)
    (none)
    (none)
    (fun _ _ => none)
    (fun _ _ => none)
    (fun _ _ _ => none)
    (fun _ _ _ _ => none)
    (fun _ _ => none)
    (fun _ _ _ => none)
    (fun _ => none)
    (fun _ => none)
    (fun f first caps _ _ => some (f, first, caps))
    (fun _ _ _ => none)
    () (fun _ _ _ _ => ()) v
@[simp] theorem eq_AV_fn_junk : AV.fn? (.junk) = none := rfl
@[simp] theorem eq_AV_fn_undef : AV.fn? (.undef) = none := rfl
@[simp] theorem eq_AV_fn_bool (b : Bool) : AV.fn? (.bool b) = none := rfl
@[simp] theorem eq_AV_fn_int (k : IntKind) (n : Int) : AV.fn? (.int k n) = none := rfl
@[simp] theorem eq_AV_fn_str (s : List UInt8) : AV.fn? (.str s) = none := rfl
@[simp] theorem eq_AV_fn_nilp : AV.fn? (.nilp) = none := rfl
@[simp] theorem eq_AV_fn_nilm : AV.fn? (.nilm) = none := rfl
@[simp] theorem eq_AV_fn_nilf : AV.fn? (.nilf) = none := rfl
@[simp] theorem eq_AV_fn_nili : AV.fn? (.nili) = none := rfl
@[simp] theorem eq_AV_fn_agg (cs : List AV) : AV.fn? (.agg cs) = none := rfl
@[simp] theorem eq_AV_fn_tup (vs : List AV) : AV.fn? (.tup vs) = none := rfl
@[simp] theorem eq_AV_fn_slice (es : List AV) (tk : Tok) : AV.fn? (.slice es tk) = none := rfl
@[simp] theorem eq_AV_fn_hsl (o : Nat) (off : Nat) (len : Nat) (sz : Nat) : AV.fn? (.hsl o off len sz) = none := rfl
@[simp] theorem eq_AV_fn_ptr (o : Nat) (off : Nat) : AV.fn? (.ptr o off) = none := rfl
@[simp] theorem eq_AV_fn_eptr (cs : List AV) (off : Nat) : AV.fn? (.eptr cs off) = none := rfl
@[simp] theorem eq_AV_fn_map (o : Nat) : AV.fn? (.map o) = none := rfl
@[simp] theorem eq_AV_fn_itr (o : Nat) : AV.fn? (.itr o) = none := rfl
@[simp] theorem eq_AV_fn_fn (f : Fn) (first : List AV) (caps : List AV) : AV.fn? (.fn f first caps) = some (f, first, caps) := rfl
@[simp] theorem eq_AV_fn_iface (t : TypeId) (v : AV) : AV.fn? (.iface t v) = none := rfl



abbrev ActF := Option Nat → CallF → Env → List ADef → St → Option (Env × List ADef × St)

def actCall (f : Opd) (args : List Opd) : ActF := fun d cl env ds σ =>
  match callee (f.eval env) (evals env args) with
  | some (c, as) => match cl c as σ with
    | some (v, σ) => some (put env d v, ds, σ)
    | none => none
  | none => none

def defOk (f : Fn) : Bool :=
  match f with
  | .yield _ => false
  | _ => true
def actDefer (f : Opd) (args : List Opd) : ActF := fun d _ env ds σ =>
  match (f.eval env).fn? with
  | some (g, first, caps) => bif defOk g then some (put env d .undef, .call g (first ++ evals env args) caps :: ds, σ) else none
  | none => none

def actOp (o : Env → St → Option (AV × St)) : ActF := fun d _ env ds σ =>
  match o env σ with
  | some (v, σ) => some (put env d v, ds, σ)
  | none => none

/-- What an operation that is carried out leaves: the temporaries, what is deferred, the state. -/
def act (p : AOp) : ActF :=
  AOp.rec (motive := fun _ => ActF)
    (fun _ _ _ _ _ => none)
    (fun x => actOp (op_move x))
    (fun c a b => actOp (op_pick c a b))
    (fun x => actOp (op_box x))
    (fun zero => actOp (op_alloc zero))
    (fun zero parts => actOp (op_build zero parts))
    (fun sz len zero parts hs => actOp (op_buildSlice sz len zero parts hs))
    (fun n a => actOp (op_load n a))
    (fun n a x => actOp (op_store n a x))
    (fun x => actOp (op_nilCheck x))
    (fun o x y => actOp (op_bin o x y))
    (fun neg ks x y => actOp (op_eqAgg neg ks x y))
    (fun neg x y => actOp (op_eqBool neg x y))
    (fun neg kd x y => actOp (op_eqNil neg kd x y))
    (fun o x => actOp (op_un o x))
    (fun k x => actOp (op_convInt k x))
    (fun x => actOp (op_convId x))
    (fun x => actOp (op_convChar x))
    (fun x => actOp (op_convBytes x))
    (fun fn first caps => actOp (op_makeFunc fn first caps))
    (fun ks => actOp (op_makeMap ks))
    (fun sz bytes zero len cap => actOp (op_makeSlice sz bytes zero len cap))
    (fun x lo hi => actOp (op_sliceStr x lo hi))
    (fun sz x lo hi => actOp (op_sliceSl sz x lo hi))
    (fun off x => actOp (op_fieldAddr off x))
    (fun off n x => actOp (op_field off n x))
    (fun len sz x i => actOp (op_indexArr len sz x i))
    (fun sz x i => actOp (op_indexSl sz x i))
    (fun x i => actOp (op_charAt x i))
    (fun ks zero x i ok => actOp (op_lookup ks zero x i ok))
    (fun ks m k x => actOp (op_mapUpdate ks m k x))
    (fun ks m k => actOp (op_delete ks m k))
    (fun x i => actOp (op_extract x i))
    (fun f args => actCall f args)
    (fun x => actOp (op_lenStr x))
    (fun x => actOp (op_lenSl x))
    (fun ks x => actOp (op_lenMap ks x))
    (fun x y => actOp (op_min x y))
    (fun sz bytes hs s x => actOp (op_append sz bytes hs s x))
    (fun sz bytes s x => actOp (op_append1 sz bytes s x))
    (fun x => actOp (op_rangeStr x))
    (fun x => actOp (op_nextStr x))
    (fun f args => actDefer f args)
    (fun ks parts => actOp (op_mapLit ks parts)) p
@[simp] theorem eq_act_bad : act (.bad) = (fun _ _ _ _ _ => none) := rfl
@[simp] theorem eq_act_move (x : Opd) : act (.move x) = actOp (op_move x) := rfl
@[simp] theorem eq_act_pick (c : Opd) (a : Opd) (b : Opd) : act (.pick c a b) = actOp (op_pick c a b) := rfl
@[simp] theorem eq_act_box (x : Opd) : act (.box x) = actOp (op_box x) := rfl
@[simp] theorem eq_act_alloc (zero : AV) : act (.alloc zero) = actOp (op_alloc zero) := rfl
@[simp] theorem eq_act_build (zero : List AV) (parts : List (Nat × Nat × Opd)) : act (.build zero parts) = actOp (op_build zero parts) := rfl
@[simp] theorem eq_act_buildSlice (sz : Nat) (len : Nat) (zero : AV) (parts : List (Nat × Opd)) (hs : Bool) : act (.buildSlice sz len zero parts hs) = actOp (op_buildSlice sz len zero parts hs) := rfl
@[simp] theorem eq_act_load (n : Option Nat) (a : Opd) : act (.load n a) = actOp (op_load n a) := rfl
@[simp] theorem eq_act_store (n : Nat) (a : Opd) (x : Opd) : act (.store n a x) = actOp (op_store n a x) := rfl
@[simp] theorem eq_act_nilCheck (x : Opd) : act (.nilCheck x) = actOp (op_nilCheck x) := rfl
@[simp] theorem eq_act_bin (o : BinOp) (x : Opd) (y : Opd) : act (.bin o x y) = actOp (op_bin o x y) := rfl
@[simp] theorem eq_act_eqAgg (neg : Bool) (ks : List Nat) (x : Opd) (y : Opd) : act (.eqAgg neg ks x y) = actOp (op_eqAgg neg ks x y) := rfl
@[simp] theorem eq_act_eqBool (neg : Bool) (x : Opd) (y : Opd) : act (.eqBool neg x y) = actOp (op_eqBool neg x y) := rfl
@[simp] theorem eq_act_eqNil (neg : Bool) (kd : Nat) (x : Opd) (y : Opd) : act (.eqNil neg kd x y) = actOp (op_eqNil neg kd x y) := rfl
@[simp] theorem eq_act_un (o : UnOp) (x : Opd) : act (.un o x) = actOp (op_un o x) := rfl
@[simp] theorem eq_act_convInt (k : IntKind) (x : Opd) : act (.convInt k x) = actOp (op_convInt k x) := rfl
@[simp] theorem eq_act_convId (x : Opd) : act (.convId x) = actOp (op_convId x) := rfl
@[simp] theorem eq_act_convChar (x : Opd) : act (.convChar x) = actOp (op_convChar x) := rfl
@[simp] theorem eq_act_convBytes (x : Opd) : act (.convBytes x) = actOp (op_convBytes x) := rfl
@[simp] theorem eq_act_makeFunc (fn : Fn) (first : List Opd) (caps : List Opd) : act (.makeFunc fn first caps) = actOp (op_makeFunc fn first caps) := rfl
@[simp] theorem eq_act_makeMap (ks : List Nat) : act (.makeMap ks) = actOp (op_makeMap ks) := rfl
@[simp] theorem eq_act_makeSlice (sz : Nat) (bytes : Nat) (zero : AV) (len : Opd) (cap : Opd) : act (.makeSlice sz bytes zero len cap) = actOp (op_makeSlice sz bytes zero len cap) := rfl
@[simp] theorem eq_act_sliceStr (x : Opd) (lo : Option Opd) (hi : Option Opd) : act (.sliceStr x lo hi) = actOp (op_sliceStr x lo hi) := rfl
@[simp] theorem eq_act_sliceSl (sz : Nat) (x : Opd) (lo : Option Opd) (hi : Option Opd) : act (.sliceSl sz x lo hi) = actOp (op_sliceSl sz x lo hi) := rfl
@[simp] theorem eq_act_fieldAddr (off : Nat) (x : Opd) : act (.fieldAddr off x) = actOp (op_fieldAddr off x) := rfl
@[simp] theorem eq_act_field (off : Nat) (n : Option Nat) (x : Opd) : act (.field off n x) = actOp (op_field off n x) := rfl
@[simp] theorem eq_act_indexArr (len : Nat) (sz : Nat) (x : Opd) (i : Opd) : act (.indexArr len sz x i) = actOp (op_indexArr len sz x i) := rfl
@[simp] theorem eq_act_indexSl (sz : Nat) (x : Opd) (i : Opd) : act (.indexSl sz x i) = actOp (op_indexSl sz x i) := rfl
@[simp] theorem eq_act_charAt (x : Opd) (i : Opd) : act (.charAt x i) = actOp (op_charAt x i) := rfl
@[simp] theorem eq_act_lookup (ks : List Nat) (zero : AV) (x : Opd) (i : Opd) (ok : Bool) : act (.lookup ks zero x i ok) = actOp (op_lookup ks zero x i ok) := rfl
@[simp] theorem eq_act_mapUpdate (ks : List Nat) (m : Opd) (k : Opd) (x : Opd) : act (.mapUpdate ks m k x) = actOp (op_mapUpdate ks m k x) := rfl
@[simp] theorem eq_act_delete (ks : List Nat) (m : Opd) (k : Opd) : act (.delete ks m k) = actOp (op_delete ks m k) := rfl
@[simp] theorem eq_act_extract (x : Opd) (i : Nat) : act (.extract x i) = actOp (op_extract x i) := rfl
@[simp] theorem eq_act_call (f : Opd) (args : List Opd) : act (.call f args) = actCall f args := rfl
@[simp] theorem eq_act_lenStr (x : Opd) : act (.lenStr x) = actOp (op_lenStr x) := rfl
@[simp] theorem eq_act_lenSl (x : Opd) : act (.lenSl x) = actOp (op_lenSl x) := rfl
@[simp] theorem eq_act_lenMap (ks : List Nat) (x : Opd) : act (.lenMap ks x) = actOp (op_lenMap ks x) := rfl
@[simp] theorem eq_act_min (x : Opd) (y : Opd) : act (.min x y) = actOp (op_min x y) := rfl
@[simp] theorem eq_act_append (sz : Nat) (bytes : Nat) (hs : Bool) (s : Opd) (x : Opd) : act (.append sz bytes hs s x) = actOp (op_append sz bytes hs s x) := rfl
@[simp] theorem eq_act_append1 (sz : Nat) (bytes : Nat) (s : Opd) (x : Opd) : act (.append1 sz bytes s x) = actOp (op_append1 sz bytes s x) := rfl
@[simp] theorem eq_act_rangeStr (x : Opd) : act (.rangeStr x) = actOp (op_rangeStr x) := rfl
@[simp] theorem eq_act_nextStr (x : Opd) : act (.nextStr x) = actOp (op_nextStr x) := rfl
@[simp] theorem eq_act_defer (f : Opd) (args : List Opd) : act (.defer f args) = actDefer f args := rfl
@[simp] theorem eq_act_mapLit (ks : List Nat) (parts : List (AV × Opd)) : act (.mapLit ks parts) = actOp (op_mapLit ks parts) := rfl

abbrev OperF := CallF → Env → List ADef → St → Option (Env × List ADef × St)

def operG (d : Option Nat) (p : AOp) (t : Nat) (b : Bool) : OperF := fun cl env ds σ =>
  match (aget env t).wants b with
  | some w => bif w then act p d cl env ds σ else some (put env d .undef, ds, σ)
  | none => none

def oper (o : AOper) : OperF :=
  match o.guard with
  | none => act o.op o.dst
  | some (t, b) => operG o.dst o.op t b

def opersCons (o : AOper) (ih : OperF) : OperF := fun cl env ds σ =>
  match oper o cl env ds σ with
  | some (env, ds, σ) => ih cl env ds σ
  | none => none

def opers (l : List AOper) : OperF :=
  List.rec (motive := fun _ => OperF) (fun _ env ds σ => some (env, ds, σ)) (fun o _ ih => opersCons o ih) l

/-- The state ahead of each operation; what it was, if it was carried out; what it gave. -/
structure Log where
  at_ : St
  read : Option (AOp × Env)
  val : AV

def wanted (env : Env) (g : Option (Nat × Bool)) : Option Bool :=
  match g with
  | none => some true
  | some (t, b) => (aget env t).wants b

def logOf (o : AOper) (b : Bool) (env env' : Env) (σ : St) : Log :=
  ⟨σ, bif b then some (o.op, env) else none, (match o.dst with | some d => aget env' d | none => .undef)⟩

abbrev OperL := CallF → Env → List ADef → St → Option (Env × List ADef × St × List Log)

def opersLogCons (o : AOper) (ih : OperL) : OperL := fun cl env ds σ =>
  match wanted env o.guard with
  | some b => match oper o cl env ds σ with
    | some (env', ds', σ') => match ih cl env' ds' σ' with
      | some (env'', ds'', σ'', l) => some (env'', ds'', σ'', logOf o b env env' σ :: l)
      | none => none
    | none => none
  | none => none

def opersLog (l : List AOper) : OperL :=
  List.rec (motive := fun _ => OperL) (fun _ env ds σ => some (env, ds, σ, [⟨σ, none, .undef⟩])) (fun o _ ih => opersLogCons o ih) l

/-- Does a read give the same in a state? -/
def stays (e : Log) (σ : St) : Bool :=
  match e.read with
  | none => true
  | some (p, tm) => match op p tm σ with
    | some (v, _) => AV.beq v e.val
    | none => false

def staysAt (l : List Log) (e : Log) (p : Nat) : Bool :=
  match nth l p with
  | some a => stays e a.at_
  | none => false

def checkRow (l : List Log) (e : Log) (ps : List Nat) : Bool :=
  List.rec (motive := fun _ => Bool) true (fun p _ ih => staysAt l e p && staysAt l e (p + 1) && ih) ps

def checkLog (l : List Log) (chk : List (Nat × List Nat)) : Bool :=
  List.rec (motive := fun _ => Bool) true (fun c _ ih => (match nth l c.1 with | some e => checkRow l e c.2 | none => false) && ih) chk

abbrev CodeF := CallF → Nat → Fr → St → Option (Ex × Fr × St)

/-- Goes on where the one before has ended normally. -/
def andThen (r : Option (Ex × Fr × St)) (k : Fr → St → Option (Ex × Fr × St)) : Option (Ex × Fr × St) :=
  match r with
  | some (x, fr, σ) => match x with
    | .normal => k fr σ
    | x => some (x, fr, σ)
  | none => none

def loopN (c : Fr → St → Option (Ex × Fr × St)) (n : Nat) : Fr → St → Option (Ex × Fr × St) :=
  Nat.rec (motive := fun _ => Fr → St → Option (Ex × Fr × St)) (fun _ _ => none)
    (fun _ ih fr σ => andThen (c fr σ) ih) n

def Jump.ex : Option Jump → Ex
  | none => .normal
  | some .ret => .ret
  | some (.exit i) => .exit i

def codeRange (f : Opd) (ps : List Nat) (as body : ACode) : CodeF := fun cl _ fr σ =>
  match callee (f.eval fr.env) [.fn (.yield (σ.next + 1)) [] []] with
  | some (.fn c, args) => match cl (.fn c) args ((σ.add .defs).add (.loop .ready none fr.env ps as body)) with
    | some (_, σ₂) => match σ₂.get (σ.next + 1) with
      | some (.loop st j _ _ _ _) => if st = .busy then none else some (Jump.ex j, ⟨fr.env, .mark σ.next :: fr.defs⟩, σ₂.del (σ.next + 1))
      | _ => none
    | none => none
  | _ => none

def codeSkip : CodeF := fun _ _ fr σ => some (.normal, fr, σ)
def codeRegion (ops : List AOper) (outs : List Nat) : CodeF := fun cl _ fr σ =>
  match opers ops cl fr.env fr.defs σ with
  | some (env, ds, σ) => some (.normal, ⟨keep fr.env env outs, ds⟩, σ)
  | none => none
def codeDraw (ops : List AOper) (chk : List (Nat × List Nat)) (outs : List Nat) : CodeF := fun cl _ fr σ =>
  match opersLog ops cl fr.env fr.defs σ with
  | some (env, ds, σ, l) => bif checkLog l chk then some (.normal, ⟨keep fr.env env outs, ds⟩, σ) else none
  | none => none
def codeSeq (a b : CodeF) : CodeF := fun cl n fr σ => andThen (a cl n fr σ) (b cl n)
def codeCond (c : Opd) (a b : CodeF) : CodeF := fun cl n fr σ =>
  match (c.eval fr.env).bool? with
  | some t => bif t then a cl n fr σ else b cl n fr σ
  | none => none
def codeBlock (id : Nat) (c : CodeF) : CodeF := fun cl n fr σ =>
  match c cl n fr σ with
  | some (x, fr, σ) => match x with
    | .exit i => some (bif Nat.beq i id then .normal else .exit i, fr, σ)
    | x => some (x, fr, σ)
  | none => none
def codeLoop (c : CodeF) : CodeF := fun cl n fr σ => loopN (c cl n) n fr σ
def codeExit (id : Nat) : CodeF := fun _ _ fr σ => some (.exit id, fr, σ)
def codeRet : CodeF := fun _ _ fr σ => some (.ret, fr, σ)

def code (c : ACode) : CodeF :=
  ACode.rec (motive := fun _ => CodeF)
    codeSkip (fun ops outs => codeRegion ops outs) (fun ops chk outs => codeDraw ops chk outs) (fun _ _ a b => codeSeq a b) (fun c _ _ a b => codeCond c a b)
    (fun id _ c => codeBlock id c) (fun _ c => codeLoop c) (fun f ps as body _ _ => codeRange f ps as body) (fun id => codeExit id) codeRet c
@[simp] theorem code_skip : code .skip = codeSkip := rfl
@[simp] theorem code_region (ops : List AOper) (outs : List Nat) : code (.region ops outs) = codeRegion ops outs := rfl
@[simp] theorem code_draw (ops : List AOper) (chk : List (Nat × List Nat)) (outs : List Nat) : code (.draw ops chk outs) = codeDraw ops chk outs := rfl
@[simp] theorem code_seq (a b : ACode) : code (.seq a b) = codeSeq (code a) (code b) := rfl
@[simp] theorem code_cond (c : Opd) (a b : ACode) : code (.cond c a b) = codeCond c (code a) (code b) := rfl
@[simp] theorem code_block (id : Nat) (c : ACode) : code (.block id c) = codeBlock id (code c) := rfl
@[simp] theorem code_loop (c : ACode) : code (.loop c) = codeLoop (code c) := rfl
@[simp] theorem code_rangeFunc (f : Opd) (ps : List Nat) (as body : ACode) : code (.rangeFunc f ps as body) = codeRange f ps as body := rfl
@[simp] theorem code_exit (id : Nat) : code (.exit id) = codeExit id := rfl
@[simp] theorem code_ret : code .ret = codeRet := rfl

def putAll : Env → List Nat → List AV → Env
  | tm, t :: ts, v :: vs => putAll (upd tm t v) ts vs
  | tm, _, _ => tm

def Ex.jump : Ex → Option Jump
  | .normal => none
  | .ret => some .ret
  | .exit i => some (.exit i)

/-- One round of a range over a function. -/
def round (cl : CallF) (n : Nat) (l : Nat) (args : List AV) (σ : St) : Option (AV × St) :=
  match σ.get l with
  | some (.loop _ _ tm ps as body) =>
    if args.length ≠ ps.length then none else
    match code as cl n ⟨putAll tm ps args, []⟩ σ with
    | some (.normal, fr, σ) => match σ.get l with
      | some (.loop .ready j tm ps as body') =>
        match code body cl n fr (σ.set l (.loop .busy j tm ps as body')) with
        | some (x, fr, σ) => if !fr.defs.isEmpty then none else match σ.get l with
          | some (.loop _ _ tm ps as body') => some (.bool (Ex.jump x).isNone, σ.set l (.loop (if (Ex.jump x).isNone then .ready else .done) (Ex.jump x) tm ps as body'))
          | _ => none
        | none => none
      | _ => none
    | _ => none
  | _ => none

def runDefs (cl : CallF) : List ADef → St → Option St
  | [], σ => some σ
  | .mark o :: r, σ => match σ.get o with
    | some .defs => runDefs cl r (σ.del o)
    | _ => none
  | .call f args caps :: r, σ => match calleeFn f [] caps args with
    | some (.fn n, as) => match cl (.dfn n) as σ with
      | some (_, σ) => runDefs cl r σ
      | none => none
    | _ => none

def readResults (tm : Env) (σ : St) : List (Nat × Option (Option Nat)) → Option (List AV)
  | [] => some []
  | (t, none) :: r => match readResults tm σ r with
    | some l => some (aget tm t :: l)
    | none => none
  | (t, some n) :: r => match loadAt σ n (aget tm t) with
    | some v => match readResults tm σ r with
      | some l => some (v :: l)
      | none => none
    | none => none

def one : List AV → AV
  | [] => .undef
  | [v] => v
  | l => .tup l

/-- (*sync.Once).Do: the first cell says whether it was done, the second one is its lock's. -/
def onceDone (o off : Nat) (σ : St) : Option (AV × St) :=
  match σ.cells o with
  | some l => match nth l (off + 1), splice l off [.int .u32 1] with
    | some (.int .i32 n), some l1 => match eqI n 1, splice l1 (off + 1) [.int .i32 0] with
      | true, some l2 => some (.undef, σ.set o (.cells l2))
      | _, _ => none
    | _, _ => none
  | none => none
def onceFirst (cl : CallF) (o off : Nat) (l : List AV) (f : AV) (σ : St) : Option (AV × St) :=
  match nth l (off + 1), splice l (off + 1) [.int .i32 1] with
  | some (.int .i32 n), some l1 => bif eqI n 0 then match callee f [] with
    | some (.fn c, as) => match cl (.fn c) as (σ.set o (.cells l1)) with
      | some (_, σ1) => onceDone o off σ1
      | none => none
    | _ => none
    else none
  | _, _ => none
def primOnce (cl : CallF) (args : List AV) (σ : St) : Option (AV × St) :=
  match args with
  | [.ptr o off, f] => match σ.cells o with
    | some l => match nth l off with
      | some (.int .u32 n) => bif eqI n 0 then onceFirst cl o off l f σ else some (.undef, σ)
      | _ => none
    | none => none
  | _ => none

/-- A table by number: a tree of halves. -/
inductive Tree (α : Type) where
  | leaf
  | node (n : Nat) (v : α) (l r : Tree α)
def Tree.get {α : Type} (t : Tree α) (i : Nat) : Option α :=
  Tree.rec (motive := fun _ => Option α) none (fun n v _ _ l r => bif Nat.beq i n then some v else bif Nat.blt i n then l else r) t

structure Tab where
  func : Tree AFunc
  prim : Nat → Option (CallF → List AV → St → Option (AV × St))

def numbered (l : List AV) : Nat → Env :=
  List.rec (motive := fun _ => Nat → Env) (fun _ => []) (fun v _ ih i => (i, v) :: ih (i + 1)) l

/-- A function's run, its calls given. -/
def enter (cl : CallF) (n : Nat) (fd : AFunc) (args : List AV) (σ : St) : Option (AV × St) :=
  bif Nat.ble args.length fd.nargs then match code fd.body cl n ⟨numbered (bif fd.stripArgs then args.map stripVal else args) 0, []⟩ σ with
  | some (x, fr, σ') => match x with
    | .exit _ => none
    | _ => match runDefs cl fr.defs σ' with
      | some σ'' => match readResults fr.env σ'' fd.results with
        | some vs => some (bif fd.stripRet then stripVal (one vs) else one vs, σ''.gc fd.gc σ.next)
        | none => none
      | none => none
  | none => none
  else none

def callFn (T : Tab) (n : Nat) (cl : CallF) (f : Nat) (args : List AV) (σ : St) : Option (AV × St) :=
  match T.prim f with
  | some p => p cl args σ
  | none => match T.func.get f with
    | some fd => enter cl n fd args σ
    | none => none

/-- The same, called as it was deferred: it must not defer. -/
def enterD (cl : CallF) (n : Nat) (fd : AFunc) (args : List AV) (σ : St) : Option (AV × St) :=
  bif Nat.ble args.length fd.nargs then match code fd.body cl n ⟨numbered (bif fd.stripArgs then args.map stripVal else args) 0, []⟩ σ with
  | some (x, fr, σ') => match x with
    | .exit _ => none
    | _ => match fr.defs with
      | [] => match readResults fr.env σ' fd.results with
        | some _ => some (.junk, σ'.gc fd.gc σ.next)
        | none => none
      | _ :: _ => none
  | none => none
  else none
def callFnD (T : Tab) (n : Nat) (cl : CallF) (f : Nat) (args : List AV) (σ : St) : Option (AV × St) :=
  match T.prim f with
  | some _ => none
  | none => match T.func.get f with
    | some fd => enterD cl n fd args σ
    | none => none

def callStep (T : Tab) (n : Nat) (ih : CallF) : CallF := fun c args σ =>
  match c with
  | .yield l => round ih n l args σ
  | .fn f => callFn T n ih f args σ
  | .dfn f => callFnD T n ih f args σ

def call (T : Tab) (n : Nat) : CallF :=
  Nat.rec (motive := fun _ => CallF) (fun _ _ _ => none) (fun n ih => callStep T n ih) n

end
end Go.AM
