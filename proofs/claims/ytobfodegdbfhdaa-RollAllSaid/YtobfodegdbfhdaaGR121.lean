import Derived.RangeFuncLeaves
import Derived.RangeFuncIn
import Derived.LoopNIn
import Derived.OrdersIn
import Derived.Laws.Append
import Derived.Below
import Derived.Laws.Entries
import Derived.Laws.Cells
import Derived.Laws.Sem
import Derived.Room.Entries
import Derived.Laws.IdiomCopy
import Derived.Laws.Tables
import Derived.Great.BuildSlice
import Derived.Laws.BytesString
import Derived.Lib.ConvBytes
import Derived.Laws.StructEq
import Derived.RangeFuncRecord
import Derived.RangeFuncCalls
import Derived.TacticsIn
import Derived.RangeFuncNested
section
/-! An abstract reading of the model's code: values without real addresses and capacities, a heap of rows; one order of evaluation. -/
namespace Go.Ab

inductive AV where
  | undef
  | bool (b : Bool)
  | int (k : IntKind) (n : Int)
  | str (s : ByteArray)
  | ptr (a : Option (Nat × Nat))
  | slice (a : Option (Nat × Nat)) (len : Nat) (cap : Option Nat) (sz : Nat)
  | func (f : FuncId) (first caps : List AV)
  | yield (l : Nat)
  | nilFunc
  | nilIface
  | iface (t : TypeId) (v : AV)
  | agg (l : List AV)
  | tuple (l : List AV)

inductive Md where
  | rw | ro | dead | pl
  deriving DecidableEq

/-- The code, without what the reading does not look at. -/
structure AO where
  dst : Option Tmp
  op : Op
  ty : TypeId
  guard : Option (Option Tmp)
  want : Bool

inductive AC where
  | skip
  | region (ops : List AO)
  | draw (ops : Array Oper) (ord : List Nat) (anc : List (List Nat))
  | seq (a b : AC)
  | cond (c : Operand) (t e : AC)
  | block (id : Nat) (b : AC)
  | scope (b : AC)
  | loop (keep : List Bool) (b : AC)
  | range (g : Operand) (ps : Array Tmp) (assign body : AC)
  | exit (id : Nat)
  | ret
  | bad

/-- A block. -/
inductive AB where
  | cells (l : List AV) (md : Md)
  | loop (st : LoopState) (pending : Option Code) (env : List AV) (ps : Array Tmp) (assign body : AC) (d : Nat)
  | deferred (taken : Bool)

abbrev AH := List AB

def AB.own : AB → Bool
  | .cells _ .rw => true
  | .cells _ _ => false
  | _ => true
def AB.isDead : AB → Bool
  | .cells _ .dead => true
  | _ => false

/-- Scalars of the model, read. -/
def ofS : Value → AV
  | .bool b => .bool b
  | .int k n => .int k n
  | .string s => .str s
  | .pointer none => .ptr none
  | .slice none 0 0 => .slice none 0 (some 0) 0
  | .nilFunc => .nilFunc
  | .nilIface => .nilIface
  | _ => .undef
def ofV : Value → AV
  | .agg cs => .agg (cs.toList.map ofS)
  | v => ofS v

inductive TD where
  | bool | int (k : IntKind) | string | ptr (e : Nat) | slice (e : Nat) | array (n e : Nat) | struct (fs : List (Nat × Nat)) | func | iface | other
structure TI where
  sz : Nat
  by_ : Nat
  zero : List AV
  td : TD

structure AFn where
  ntmps : Nat
  results : List ResultVar
  body : AC

/-- The tables: types, functions, functions that are told by a contract. -/
structure AP where
  ty : Nat → Option TI
  fn : Nat → Option AFn
  prim : Nat → Option (List AV → Nat → AH → Option (AV × AH))
  /-- Of which functions what was made on the way is forgotten behind them, where nothing points at it. -/
  gc : Nat → Bool := fun _ => false
  /-- Are rows that are told cell by cell (an argument list) kept as such that nobody writes? -/
  pl : Bool := false
  /-- Functions that the model itself carries out at once. -/
  ext : Nat → Option (List AV → AH → Option (AV × AH)) := fun _ => none

def AV.cells : AV → Option (List AV)
  | .undef => none
  | .agg l => some l
  | .tuple _ => none
  | v => some [v]

def TD.isAgg : TD → Bool
  | .struct _ | .array _ _ => true
  | _ => false

def get (env : List AV) (t : Nat) : AV := (env[t]?).getD .undef

def opd (env : List AV) : Operand → AV
  | .tmp t => get env t
  | .const v => ofV v
  | .global _ => .undef
  | .func f => .func f [] []

/-! ### memory -/

/-- The cells of a living block. -/
def rowOf (H : AH) (b : Nat) : Option (List AV) :=
  match H[b]? with
  | some (.cells l .rw) => some l
  | some (.cells l .ro) => some l
  | some (.cells l .pl) => some l
  | _ => none
/-- The cells of a block that may be written. -/
def rowRw (H : AH) (lo b : Nat) : Option (List AV) :=
  if b < lo then none else
  match H[b]? with
  | some (.cells l .rw) => some l
  | _ => none

def splice (l : List AV) (o : Nat) (xs : List AV) : List AV := l.take o ++ xs ++ l.drop (o + xs.length)

def part (ag : Bool) (sz : Nat) (l : List AV) (o : Nat) : Option AV :=
  if ag then (if o + sz ≤ l.length then some (.agg ((l.drop o).take sz)) else none) else l[o]?

/-- A value of one cell. -/
def AV.one : AV → Bool
  | .undef | .agg _ | .tuple _ => false
  | _ => true

def isSlice : AV → Bool
  | .slice .. => true
  | _ => false

def aload (ap : AP) (H : AH) (t : TypeId) : AV → Option AV
  | .ptr (some (b, o)) => (ap.ty t).bind fun ti => (rowOf H b).bind fun l => part ti.td.isAgg ti.sz l o
  | _ => none
def astore (ap : AP) (lo : Nat) (H : AH) (t : TypeId) (p v : AV) : Option AH :=
  match p with
  | .ptr (some (b, o)) => (ap.ty t).bind fun ti => v.cells.bind fun cs => (rowRw H lo b).bind fun l =>
    if cs.length = ti.sz ∧ o + cs.length ≤ l.length ∧ cs.all AV.one = true then some (H.set b (.cells (splice l o cs) .rw)) else none
  | _ => none

def afill (place : Nat → Option (Nat × Nat)) : List AV → List (Nat × AV) → Option (List AV)
  | cells, [] => some cells
  | cells, (i, v) :: rest => (place i).bind fun p => v.cells.bind fun cs =>
    if cs.length = p.2 ∧ p.1 + cs.length ≤ cells.length then afill place (splice cells p.1 cs) rest else none

/-- The cells of a slice's first n elements. -/
def firstC (H : AH) (sz n : Nat) : AV → Option (List AV)
  | .slice (some (b, o)) _ _ _ => (rowOf H b).bind fun l => if o + n * sz ≤ l.length then some ((l.drop o).take (n * sz)) else none
  | .slice none _ _ _ => some []
  | .str s => some ((s.data.toList.take n).map fun x => .int .u8 x.toNat)
  | _ => none
def lenOf : AV → Option Nat
  | .slice _ n _ _ => some n
  | .str s => some s.size
  | _ => none

def szOk (sz : Nat) : AV → Bool
  | .slice (some _) _ _ s => s == sz
  | .slice none _ _ _ => true
  | .str _ => sz == 1
  | _ => false

/-- The greatest row that append may make. -/
def room : Nat := 140737488355328

def aappend (lo : Nat) (H : AH) (sz by_ : Nat) (s x : AV) : Option (AV × AH) :=
  if szOk sz s && szOk sz x && (0 < sz && 0 < by_) then
    (lenOf x).bind fun n => (firstC H sz n x).bind fun xs => if xs.all AV.one = false then none else
    match s with
    | .slice none len _ _ =>
      if len ≠ 0 then none else
      if n = 0 then some (.slice none 0 (some 0) sz, H)
      else if n * by_ ≤ room then some (.slice (some (H.length, 0)) n none sz, H ++ [.cells xs .rw]) else none
    | .slice (some (b, o)) len cap _ =>
      if n = 0 then some (s, H) else
      (rowOf H b).bind fun l =>
      if o + len * sz ≤ l.length then
        match cap with
        | some c =>
          if len + n ≤ c then
            (rowRw H lo b).bind fun l => if o + (len + n) * sz ≤ l.length then some (.slice (some (b, o)) (len + n) (some c) sz, H.set b (.cells (splice l (o + len * sz) xs) .rw)) else none
          else if (len + n) * by_ ≤ room then some (.slice (some (H.length, 0)) (len + n) none sz, H ++ [.cells ((l.drop o).take (len * sz) ++ xs) .rw]) else none
        | none =>
          if (len + n) * by_ ≤ room then
            (rowRw H lo b).bind fun l =>
              if o + (len + n) * sz ≤ l.length then some (.slice (some (b, o)) (len + n) none sz, H.set b (.cells (splice l (o + len * sz) xs) .rw))
              else some (.slice (some (H.length, 0)) (len + n) none sz, H.set b (.cells [] .dead) ++ [.cells ((l.drop o).take (len * sz) ++ xs) .rw])
          else none
      else none
    | _ => none
  else none

/-- append's second half: what is added is known. -/
def aappendC (lo : Nat) (H : AH) (sz by_ : Nat) (s : AV) (n : Nat) (xs : List AV) : Option (AV × AH) :=
    match s with
    | .slice none len _ _ =>
      if len ≠ 0 then none else
      if n = 0 then some (.slice none 0 (some 0) sz, H)
      else if n * by_ ≤ room then some (.slice (some (H.length, 0)) n none sz, H ++ [.cells xs .rw]) else none
    | .slice (some (b, o)) len cap _ =>
      if n = 0 then some (s, H) else
      (rowOf H b).bind fun l =>
      if o + len * sz ≤ l.length then
        match cap with
        | some c =>
          if len + n ≤ c then
            (rowRw H lo b).bind fun l => if o + (len + n) * sz ≤ l.length then some (.slice (some (b, o)) (len + n) (some c) sz, H.set b (.cells (splice l (o + len * sz) xs) .rw)) else none
          else if (len + n) * by_ ≤ room then some (.slice (some (H.length, 0)) (len + n) none sz, H ++ [.cells ((l.drop o).take (len * sz) ++ xs) .rw]) else none
        | none =>
          if (len + n) * by_ ≤ room then
            (rowRw H lo b).bind fun l =>
              if o + (len + n) * sz ≤ l.length then some (.slice (some (b, o)) (len + n) none sz, H.set b (.cells (splice l (o + len * sz) xs) .rw))
              else some (.slice (some (H.length, 0)) (len + n) none sz, H.set b (.cells [] .dead) ++ [.cells ((l.drop o).take (len * sz) ++ xs) .rw])
          else none
      else none
    | _ => none

theorem aappend_eq (lo : Nat) (H : AH) (sz by_ : Nat) (s x : AV) : aappend lo H sz by_ s x = if szOk sz s && szOk sz x && (0 < sz && 0 < by_) then
    (lenOf x).bind fun n => (firstC H sz n x).bind fun xs => if xs.all AV.one = false then none else aappendC lo H sz by_ s n xs else none := rfl
/-- append(s, make([]T, n)...): so many noughts. -/
def aappendZ (lo : Nat) (H : AH) (te : TI) (s : AV) : AV → Option (AV × AH)
  | .int .i64 m => if (szOk te.sz s && (0 < te.sz && 0 < te.by_)) && (decide (0 ≤ m) && decide (m.toNat * te.by_ ≤ room)) && te.zero.all AV.one then aappendC lo H te.sz te.by_ s m.toNat (List.replicate m.toNat te.zero).flatten else none
  | _ => none

def acopy (lo : Nat) (H : AH) (sz : Nat) (d s : AV) : Option (AV × AH) :=
  if szOk sz d && szOk sz s && 0 < sz then
    (lenOf s).bind fun m => (lenOf d).bind fun k => let n := min m k
    (firstC H sz n s).bind fun xs => if xs.all AV.one = false then none else
    match d with
    | .slice none _ _ _ => some (.int .i64 n, H)
    | .slice (some (b, o)) _ _ _ =>
      if xs = [] then some (.int .i64 n, H) else
      (rowRw H lo b).bind fun l => if o + xs.length ≤ l.length then some (.int .i64 n, H.set b (.cells (splice l o xs) .rw)) else none
    | _ => none
  else none

/-- A bound of a slice. -/
def abound (y : Nat) : AV → Option Nat
  | .int _ i => if 0 ≤ i ∧ i ≤ y then some i.toNat else none
  | _ => none

def aslice (H : AH) (sz : Nat) (x : AV) (low high max : Option AV) : Option AV :=
  match x with
  | .str s =>
    match max with
    | some _ => none
    | none =>
      (match high with | some v => abound s.size v | none => some s.size).bind fun h =>
      (match low with | some v => abound h v | none => some 0).bind fun l => some (.str (s.extract l h))
  | .slice none len _ _ =>
    if len ≠ 0 then none else
    (match max with | some v => abound 0 v | none => some 0).bind fun _ =>
    (match high with | some v => abound 0 v | none => some 0).bind fun _ =>
    (match low with | some v => abound 0 v | none => some 0).bind fun _ =>
    if max.isSome && high.isNone then none else some (.slice none 0 (some 0) sz)
  | .slice (some (b, o)) len cap s =>
    if s ≠ sz then none else
    match max, high with
    | none, none =>
      (match low with | some v => abound len v | none => some 0).bind fun l =>
      some (.slice (some (b, o + l * sz)) (len - l) (cap.map (· - l)) sz)
    | none, some hv =>
      (match cap with
       | some c => abound c hv
       | none => (abound len hv).orElse fun _ => (rowOf H b).bind fun r => (abound r.length hv).bind fun h => if o + h * sz ≤ r.length then some h else none).bind fun h =>
      (match low with | some v => abound h v | none => some 0).bind fun l =>
      some (.slice (some (b, o + l * sz)) (h - l) (cap.map (· - l)) sz)
    | some mv, some hv =>
      (match cap with
       | some c => abound c mv
       | none => abound len mv).bind fun m =>
      (abound m hv).bind fun h =>
      (match low with | some v => abound h v | none => some 0).bind fun l =>
      some (.slice (some (b, o + l * sz)) (h - l) (some (m - l)) sz)
    | some _, none => none
  | _ => none

/-! ### numbers -/
def arith (op : BinOp) (k : IntKind) (x y : Int) : Option AV :=
  match op with
  | .add => some (.int k (k.wrap (x + y)))
  | .sub => some (.int k (k.wrap (x - y)))
  | .mul => some (.int k (k.wrap (x * y)))
  | .quo => if y = 0 then none else some (.int k (k.wrap (x.tdiv y)))
  | .rem => if y = 0 then none else some (.int k (x.tmod y))
  | .and => some (.int k (k.wrap (BitVec.ofInt k.bits x &&& BitVec.ofInt k.bits y).toNat))
  | .or => some (.int k (k.wrap (BitVec.ofInt k.bits x ||| BitVec.ofInt k.bits y).toNat))
  | .xor => some (.int k (k.wrap (BitVec.ofInt k.bits x ^^^ BitVec.ofInt k.bits y).toNat))
  | .eql => some (.bool (x == y))
  | .neq => some (.bool (x != y))
  | .lss => some (.bool (decide (x < y)))
  | .leq => some (.bool (decide (x ≤ y)))
  | .gtr => some (.bool (decide (x > y)))
  | .geq => some (.bool (decide (x ≥ y)))
  | _ => none
def shift (op : BinOp) (k : IntKind) (x y : Int) : Option AV :=
  if y < 0 then none else
  match op with
  | .shl => some (.int k (k.wrap (x * 2 ^ (min y.toNat k.bits))))
  | .shr => some (.int k (x.fdiv (2 ^ (min y.toNat k.bits))))
  | _ => none
def strOp (op : BinOp) (x y : ByteArray) : Option AV :=
  match op with
  | .add => if ((x.size + y.size : Nat) : Int) > 9223372036854775807 then none else some (.str (x ++ y))
  | .eql => some (.bool (x.toList == y.toList))
  | .neq => some (.bool (!(x.toList == y.toList)))
  | _ => none
/-- Equality of scalars of a type. -/
def eqC (ap : AP) (t : TypeId) (x y : AV) : Option Bool :=
  match ap.ty t with
  | some ti => match ti.td, x, y with
    | .bool, .bool a, .bool b => some (a == b)
    | .int _, .int k a, .int k' b => if k = k' then some (a == b) else none
    | .string, .str a, .str b => some (a.toList == b.toList)
    | _, _, _ => none
  | none => none
/-- A struct whose fields are scalars, one cell each, from n on. -/
def eqF (ap : AP) : Nat → List (Nat × Nat) → List AV → List AV → Option Bool
  | _, [], [], [] => some true
  | n, (o, t) :: r, a :: l, b :: m => if o = n then (eqC ap t a b).bind fun q => (eqF ap (n + 1) r l m).bind fun s => some (q && s) else none
  | _, _, _, _ => none

def eqV (ap : AP) (t : TypeId) (x y : AV) : Option Bool :=
  match ap.ty t with
  | some ti => match ti.td, x, y with
    | .bool, .bool a, .bool b => some (a == b)
    | .struct fs, .agg l, .agg m => eqF ap 0 fs l m
    | .ptr _, .ptr none, .ptr b => some b.isNone
    | .ptr _, .ptr (some _), .ptr none => some false
    | .slice _, .slice none _ _ _, .slice b _ _ _ => some b.isNone
    | .slice _, .slice (some _) _ _ _, .slice none _ _ _ => some false
    | .func, .nilFunc, .nilFunc => some true
    | .func, .nilFunc, .func _ _ _ => some false
    | .func, .func _ _ _, .nilFunc => some false
    | .iface, .nilIface, .iface _ _ => some false
    | .iface, .iface _ _, .nilIface => some false
    | _, _, _ => none
  | none => none

def abin (ap : AP) (op : BinOp) (t : TypeId) (x y : AV) : Option AV :=
  match x, y with
  | .int k a, .int k' b =>
    if op = .shl ∨ op = .shr then shift op k a b else if k = k' then arith op k a b else none
  | .str a, .str b => strOp op a b
  | x, y => match op with
    | .eql => (eqV ap t x y).map .bool
    | .neq => (eqV ap t x y).map fun b => .bool (!b)
    | _ => none

def aun (op : UnOp) (x : AV) : Option AV :=
  match op, x with
  | .neg, .int k n => arith .sub k 0 n
  | .xor, .int k n => arith .xor k (if k.signed then -1 else k.max) n
  | .not, .bool b => some (.bool (!b))
  | _, _ => none

def numsAV : List AV → Option (List Int)
  | [] => some []
  | .int .u8 n :: r => (numsAV r).map (n :: ·)
  | _ => none
/-- A string of numbers. -/
def strN (ns : List Int) : ByteArray := ⟨(ns.map fun n => UInt8.ofNat n.toNat).toArray⟩

def isU8 (ap : AP) (e : TypeId) : Bool :=
  match ap.ty e with
  | some ti => match ti.td with
    | .int .u8 => true
    | _ => false
  | none => false
def aconvert (ap : AP) (lo : Nat) (H : AH) (src dst : TypeId) (x : AV) : Option (AV × AH) :=
  (ap.ty src).bind fun ts => (ap.ty dst).bind fun td =>
  match ts.td, td.td, x with
  | .int _, .int k, .int _ n => some (.int k (k.wrap n), H)
  | .string, .string, .str s => some (.str s, H)
  | .string, .slice e, .str s =>
    if isU8 ap e then some (.slice (some (H.length, 0)) s.size none 1, H ++ [.cells (s.data.toList.map fun b => AV.int .u8 b.toNat) .rw]) else none
  | .slice e, .string, .slice a len _ s =>
    if isU8 ap e then
      match a with
      | none => some (.str .empty, H)
      | some _ => if s = 1 then (firstC H 1 len x).bind fun l => (numsAV l).map fun ns => (AV.str (strN ns), H) else none
    else none
  | .slice _, .slice e, .slice (some (b, o)) len cap s =>
    if (src == dst && isU8 ap e) && 0 < len then (rowRw H lo b).map fun _ => (AV.slice (some (b, o)) len cap s, H) else none
  | _, _, _ => none

def amm1 (op : Bool) (k : IntKind) : Int → List AV → Option AV
  | x, [] => some (.int k x)
  | x, .int _ y :: r => amm1 op k (if op then (if y > x then y else x) else (if y < x then y else x)) r
  | _, _ => none
def amm (op : Bool) : List AV → Option AV
  | .int k x :: r => amm1 op k x r
  | _ => none

def apT (ap : AP) (t : Option TypeId) : Bool :=
  match t.bind ap.ty with
  | some ti => match ti.td with
    | .slice _ | .string => true
    | _ => false
  | none => false

def apI (ap : AP) (t : Option TypeId) : Bool :=
  match t.bind ap.ty with
  | some ti => match ti.td with
    | .int .i64 => true
    | _ => false
  | none => false

def abuiltin (ap : AP) (lo : Nat) (H : AH) (b : Builtin) (ts : Array TypeId) (xs : List AV) : Option (AV × AH) :=
  match b, xs with
  | .len, [x] => (ts[0]?).bind fun t => (ap.ty t).bind fun ti =>
    match ti.td, x with
    | .string, .str s => some (.int .i64 s.size, H)
    | .slice _, .slice _ n _ _ => some (.int .i64 n, H)
    | .array n _, _ => some (.int .i64 n, H)
    | _, _ => none
  | .cap, [x] => (ts[0]?).bind fun t => (ap.ty t).bind fun ti =>
    match ti.td, x with
    | .slice _, .slice (some _) _ (some c) _ => some (.int .i64 c, H)
    | .slice _, .slice none _ _ _ => some (.int .i64 0, H)
    | _, _ => none
  | .append, [s, x] => (ts[0]?).bind fun t => (ap.ty t).bind fun ti =>
    match ti.td with
    | .slice e => (ap.ty e).bind fun te => if apT ap ts[1]? then aappend lo H te.sz te.by_ s x else if apI ap ts[1]? then aappendZ lo H te s x else none
    | _ => none
  | .copy, [d, s] => (ts[0]?).bind fun t => (ap.ty t).bind fun ti =>
    match ti.td with
    | .slice e => (ap.ty e).bind fun te => acopy lo H te.sz d s
    | _ => none
  | .max, xs => (amm true xs).map (·, H)
  | .min, xs => (amm false xs).map (·, H)
  | .clear, [x] => (ts[0]?).bind fun t => (ap.ty t).bind fun ti =>
    match ti.td, x with
    | .slice _, .slice none _ _ _ => some (.tuple [], H)
    | .slice e, .slice (some (b, o)) n _ s => (ap.ty e).bind fun te => if s ≠ te.sz then none else
      if n = 0 then some (.tuple [], H) else
      (rowRw H lo b).bind fun l => if o + n * s ≤ l.length ∧ te.zero.all AV.one = true then some (.tuple [], H.set b (.cells (splice l o (List.replicate n te.zero).flatten) .rw)) else none
    | _, _ => none
  | _, _ => none

def optAll (env : List AV) : Option Operand → Option AV := Option.map (opd env)

/-- An operation that is no call of a function. -/
def aop (ap : AP) (lo : Nat) (env : List AV) (H : AH) : Op → Option (AV × AH)
  | .move x | .assign x => some (opd env x, H)
  | .pick c a b => match opd env c with | .bool t => some (if t then opd env a else opd env b, H) | _ => none
  | .alloc e => (ap.ty e).map fun ti => (AV.ptr (some (H.length, 0)), H ++ [AB.cells ti.zero .rw])
  | .box _ x => (opd env x).cells.map fun cs => (AV.ptr (some (H.length, 0)), H ++ [AB.cells cs .rw])
  | .build t parts => (ap.ty t).bind fun ti =>
    match ti.td with
    | .struct fs => if fs.all (fun f => (ap.ty f.2).isSome) = false then none else (afill (fun i => (fs[i]?).bind fun f => (ap.ty f.2).map fun tf => (f.1, tf.sz)) ti.zero (parts.toList.map fun p => (p.1, opd env p.2))).map fun cs => (AV.agg cs, H)
    | .array _ e => (ap.ty e).bind fun te => (afill (fun i => some (i * te.sz, te.sz)) ti.zero (parts.toList.map fun p => (p.1, opd env p.2))).map fun cs => (AV.agg cs, H)
    | _ => none
  | .buildSlice t len parts => (ap.ty t).bind fun ti =>
    match ti.td with
    | .slice e => (ap.ty e).bind fun te => if te.sz = 0 ∨ len * te.sz > 65536 then none else
      (afill (fun i => some (i * te.sz, te.sz)) (List.replicate len te.zero).flatten (parts.toList.map fun p => (p.1, opd env p.2))).map fun cs => (AV.slice (some (H.length, 0)) len (some len) te.sz, H ++ [AB.cells cs (if ap.pl then .pl else .rw)])
    | _ => none
  | .load t a => (aload ap H t (opd env a)).map (·, H)
  | .store t a x => (astore ap lo H t (opd env a) (opd env x)).map fun h => (AV.undef, h)
  | .nilCheck x => match opd env x with
    | .ptr (some a) => some (.ptr (some a), H)
    | .func f a b => some (.func f a b, H)
    | .yield l => some (.yield l, H)
    | .slice a n c s => some (.slice a n c s, H)
    | _ => none
  | .binOp op t x y _ => (abin ap op t (opd env x) (opd env y)).map (·, H)
  | .unOp op _ x => (aun op (opd env x)).map (·, H)
  | .convert s d x => aconvert ap lo H s d (opd env x)
  | .makeInterface t x => (ap.ty t).bind fun ti => match ti.td with | .iface | .other => none | _ => some (.iface t (opd env x), H)
  | .makeFunc (.func f) first caps => some (.func f (first.toList.map (opd env)) (caps.toList.map (opd env)), H)
  | .makeSlice t l c => (ap.ty t).bind fun ti =>
    match ti.td with
    | .slice e => (ap.ty e).bind fun te =>
      match opd env l, opd env c with
      | .int .i64 n, .int .i64 m => if 0 ≤ n ∧ n ≤ m ∧ m * te.by_ ≤ room ∧ m ≤ 9223372036854775807 ∧ 0 < te.sz then some (.slice (some (H.length, 0)) n.toNat (some m.toNat) te.sz, H ++ [.cells (List.replicate m.toNat te.zero).flatten .rw]) else none
      | _, _ => none
    | _ => none
  | .slice t x lo' hi mx => (ap.ty t).bind fun ti =>
    match ti.td with
    | .slice e => (ap.ty e).bind fun te => if te.sz = 0 then none else if isSlice (opd env x) then (aslice H te.sz (opd env x) (optAll env lo') (optAll env hi) (optAll env mx)).map (·, H) else none
    | .string => if isSlice (opd env x) then none else (aslice H 1 (opd env x) (optAll env lo') (optAll env hi) (optAll env mx)).map (·, H)
    | _ => none
  | .fieldAddr t x f => (ap.ty t).bind fun ti =>
    match ti.td, opd env x with
    | .struct fs, .ptr (some (b, o)) => (fs[f]?).bind fun fd => (ap.ty fd.2).bind fun tf => if tf.sz = 0 then none else some (.ptr (some (b, o + fd.1)), H)
    | _, _ => none
  | .field t x f => (ap.ty t).bind fun ti =>
    match ti.td, opd env x with
    | .struct fs, .agg l => (fs[f]?).bind fun fd => (ap.ty fd.2).bind fun tf => (part tf.td.isAgg tf.sz l fd.1).map (·, H)
    | _, _ => none
  | .indexAddr t x i => (ap.ty t).bind fun ti =>
    match ti.td, opd env x, opd env i with
    | .slice e, .slice (some (b, o)) len _ s, .int _ i => (ap.ty e).bind fun te => if s = te.sz ∧ 0 ≤ i ∧ i < len then some (.ptr (some (b, o + i.toNat * te.sz)), H) else none
    | .array n e, .ptr (some (b, o)), .int _ i => (ap.ty e).bind fun te => if 0 ≤ i ∧ i < n then some (.ptr (some (b, o + i.toNat * te.sz)), H) else none
    | _, _, _ => none
  | .index t x i => (ap.ty t).bind fun ti =>
    match ti.td, opd env x, opd env i with
    | .string, .str s, .int _ i => if 0 ≤ i then (s.data.toList[i.toNat]?).map fun c => (AV.int .u8 c.toNat, H) else none
    | .array n e, .agg l, .int _ i => (ap.ty e).bind fun te => if 0 ≤ i ∧ i < n then (part te.td.isAgg te.sz l (i.toNat * te.sz)).map (·, H) else none
    | _, _, _ => none
  | .extract x i => match opd env x with | .tuple l => (l[i]?).map (·, H) | _ => none
  | .call c => match c.callee with
    | .builtin b => abuiltin ap lo H b c.argTypes (c.args.toList.map (opd env))
    | _ => none
  | _ => none

/-! ### code -/
structure St where
  env : List AV
  H : AH
  marks : List Nat

inductive Ex where
  | normal | exit (id : Nat) | ret

def setD (env : List AV) : Option Tmp → AV → List AV
  | some d, v => env.set d v
  | none, _ => env

/-- How functions are called: the function, the arguments, what may be written from where on, the heap. -/
abbrev CallF := AV → List AV → Nat → AH → Option (AV × AH)

def callee (c : Call) : Option Operand :=
  match c.callee with
  | .value f => some f
  | _ => none
def extOf (ap : AP) : AV → Option (List AV → AH → Option (AV × AH))
  | .func n [] [] => ap.ext n
  | _ => none
def aoper (ap : AP) (cf : CallF) (lo : Nat) (env : List AV) (H : AH) (o : Op) : Option (AV × AH) :=
  match o with
  | .call c => match callee c with
    | some f => match extOf ap (opd env f) with
      | some g => g (c.args.toList.map (opd env)) H
      | none => cf (opd env f) (c.args.toList.map (opd env)) lo H
    | none => aop ap lo env H (.call c)
  | o => aop ap lo env H o

def wantedA (env : List AV) (g : Option (Option Tmp)) (want : Bool) : Option Bool :=
  match g with
  | none => some true
  | some none => none
  | some (some d) => match get env d with | .bool b => some (b == want) | .tuple [] => some false | _ => none

def evOps (ap : AP) (cf : CallF) (lo : Nat) : List AO → List AV → AH → Option (List AV × AH)
  | [], env, H => some (env, H)
  | o :: r, env, H => (wantedA env o.guard o.want).bind fun t =>
    if t then (aoper ap cf lo env H o.op).bind fun (v, H) => evOps ap cf lo r (setD env o.dst v) H
    else evOps ap cf lo r (setD env o.dst (.tuple [])) H

/-! ### a region whose order is drawn -/
mutual
def sameV : AV → AV → Bool
  | .undef, .undef => true
  | .bool a, .bool b => a == b
  | .int k a, .int k' b => decide (k = k') && decide (a = b)
  | .str a, .str b => a.data.toList == b.data.toList
  | .ptr a, .ptr b => decide (a = b)
  | .slice a l c s, .slice a' l' c' s' => decide (a = a') && (decide (l = l') && (decide (c = c') && decide (s = s')))
  | .func f a b, .func f' a' b' => decide (f = f') && (sameL a a' && sameL b b')
  | .yield l, .yield l' => decide (l = l')
  | .nilFunc, .nilFunc => true
  | .nilIface, .nilIface => true
  | .iface t v, .iface t' v' => decide (t = t') && sameV v v'
  | .agg a, .agg b => sameL a b
  | .tuple a, .tuple b => sameL a b
  | _, _ => false
def sameL : List AV → List AV → Bool
  | [], [] => true
  | a :: l, b :: m => sameV a b && sameL l m
  | _, _ => false
end

/-- What the operation waits for. -/
def edges (o : Oper) : List Nat := o.after.toList.filterMap fun e => if Region.binds .any e then some e.on else none
/-- Kinds of operations: of no memory; one that reads; one that makes a block; one that may turn memory. -/
inductive Cl where
  | q | h | a | e
  deriving DecidableEq
def cls (ap : AP) : Op → Cl
  | .move _ | .assign _ | .pick .. | .build .. | .nilCheck _ | .binOp .. | .unOp .. | .makeInterface .. | .makeFunc .. | .fieldAddr .. | .field .. | .indexAddr .. | .index .. | .extract .. => .q
  | .load .. | .slice .. => .h
  | .convert _ d _ => match (ap.ty d).map TI.td with
    | some (.slice _) => .e
    | _ => .h
  | .call c => match c.callee with
    | .builtin .len | .builtin .cap | .builtin .min | .builtin .max => .q
    | _ => .e
  | .alloc _ | .box .. | .buildSlice .. | .makeSlice .. => .a
  | _ => .e
def isCl (ap : AP) (ops : List Oper) (c : Cl) (i : Nat) : Bool :=
  match ops[i]? with
  | some o => decide (cls ap o.op = c)
  | none => false

def writer (ops : List Oper) (t : Nat) : Option Nat := ops.findIdx? fun o => o.dst == some t
/-- What an operation sees. -/
def envM (ops : List Oper) (env : List AV) (vals : Nat → AV) (o : Oper) : List AV :=
  env.mapIdx fun t v => if (o.looksAt ops.toArray).contains t then
    match writer ops t with
    | some j => if (edges o).contains j then vals j else v
    | none => v
    else .undef
def wantedM (ops : List Oper) (m : List AV) (o : Oper) : Option Bool :=
  wantedA m (o.guard.map fun g => (ops.toArray[g.1]?).bind (·.dst)) ((o.guard.map (·.2)).getD true)

def dead0 : AB := .cells [] .dead
def isDeadB (x : Option AB) : Bool :=
  match x with
  | some (.cells [] .dead) => true
  | _ => false
structure DS where
  vals : Nat → AV
  cur : AH
  prev : List AH
def setF (f : Nat → AV) (i : Nat) (v : AV) : Nat → AV := fun k => if k = i then v else f k

def drawStep (ap : AP) (cf : CallF) (lo : Nat) (ops : List Oper) (env : List AV) (base i : Nat) (s : DS) : Option DS :=
  (ops[i]?).bind fun o => (wantedM ops (envM ops env s.vals o) o).bind fun t =>
  if t then
    match cls ap o.op with
    | .q | .h => (aop ap lo (envM ops env s.vals o) s.cur o.op).map fun r => ⟨setF s.vals i r.1, s.cur, s.prev⟩
    | .a => (aop ap lo (envM ops env s.vals o) (List.replicate (base + i) dead0) o.op).bind fun r => (r.2[base + i]?).bind fun A =>
      if (s.prev ++ [s.cur]).all fun H => isDeadB H[base + i]? then some ⟨setF s.vals i r.1, s.cur.set (base + i) A, s.prev⟩ else none
    | .e => (aoper ap cf lo (envM ops env s.vals o) s.cur o.op).map fun r => ⟨setF s.vals i r.1, r.2, s.prev ++ [s.cur]⟩
  else if isCl ap ops .e i then some ⟨setF s.vals i (.tuple []), s.cur, s.prev ++ [s.cur]⟩
  else if isCl ap ops .a i then
    (if (s.prev ++ [s.cur]).all fun H => isDeadB H[base + i]? then some ⟨setF s.vals i (.tuple []), s.cur, s.prev⟩ else none)
  else some ⟨setF s.vals i (.tuple []), s.cur, s.prev⟩
def drawGo (ap : AP) (cf : CallF) (lo : Nat) (ops : List Oper) (env : List AV) (base : Nat) : List Nat → DS → Option DS
  | [], s => some s
  | i :: r, s => (drawStep ap cf lo ops env base i s).bind (drawGo ap cf lo ops env base r)

/-- The place among the operations that may turn memory: how many of them stand ahead. -/
def stOf (ap : AP) (ops : List Oper) : List Nat → Nat → Nat
  | [], _ => 0
  | j :: r, i => if j = i then 0 else (if isCl ap ops .e j then 1 else 0) + stOf ap ops r i
def nE (ap : AP) (ops : List Oper) : List Nat → Nat
  | [] => 0
  | j :: r => (if isCl ap ops .e j then 1 else 0) + nE ap ops r
/-- What it waits for, also through others. -/
def ancOf (anc : List (List Nat)) (i : Nat) : List Nat := (anc[i]?).getD []
/-- Between which of them it may stand. -/
def inWin (ap : AP) (ops : List Oper) (ord : List Nat) (anc : List (List Nat)) (i j : Nat) : Bool :=
  (ancOf anc i).all (fun e => !isCl ap ops .e e || decide (stOf ap ops ord e < j)) &&
    ord.all fun e => !(isCl ap ops .e e && (ancOf anc e).contains i) || decide (j ≤ stOf ap ops ord e)
/-- What of the order alone is asked. -/
def ordOk (ap : AP) (ops : List Oper) (ord : List Nat) (anc : List (List Nat)) : Bool :=
  decide ord.Nodup && decide (ord.length = ops.length) && (List.range ops.length).all (fun i => ord.contains i) && ord.all (fun i => decide (i < ops.length)) &&
  -- what an operation waits for stands ahead; each temporary has one writer; what is read is of what is waited for, or from ahead
  (List.range ops.length).all fun i => match ops[i]? with
    | none => false
    | some o =>
      (edges o).all (fun e => decide (e < ops.length) && decide (ord.idxOf e < ord.idxOf i)) &&
      (match o.dst with | some t => writer ops t == some i | none => true) &&
      (o.looksAt ops.toArray).all (fun t => match writer ops t with
        | none => true
        | some j => j == i || (edges o).contains j || (match ops[j]? with | some p => (edges p).contains i | none => false)) &&
      (ancOf anc i).all (fun j => (edges o).contains j || (edges o).any fun e => (ancOf anc e).contains j) &&
      -- those that may turn memory stand in one row; one that makes a block is waited for by the next of them
      ((!isCl ap ops .e i) || (List.range ops.length).all (fun j => !(isCl ap ops .e j && decide (stOf ap ops ord j + 1 = stOf ap ops ord i)) || (ancOf anc i).contains j)) &&
      ((!isCl ap ops .a i) || (List.range ops.length).all (fun j => !(isCl ap ops .e j && decide (stOf ap ops ord j = stOf ap ops ord i)) || (ancOf anc j).contains i))
def winOk (ap : AP) (lo : Nat) (ops : List Oper) (env : List AV) (ord : List Nat) (anc : List (List Nat)) (vals : Nat → AV) (Fs : List AH) : Bool :=
  ord.all fun i => match ops[i]? with
    | none => false
    | some o => if isCl ap ops .h i && (wantedM ops (envM ops env vals o) o == some true) then
        Fs.zipIdx.all fun x => !inWin ap ops ord anc i x.2 || (match aop ap lo (envM ops env vals o) x.1 o.op with | some r => sameV r.1 (vals i) | none => false)
      else true
def envF (ops : List Oper) (env : List AV) (vals : Nat → AV) (D : Nat → Bool) : List AV :=
  env.mapIdx fun t v => match writer ops t with
    | some j => if D j then vals j else v
    | none => v
def evDraw (ap : AP) (cf : CallF) (lo : Nat) (ops : Array Oper) (ord : List Nat) (anc : List (List Nat)) (env : List AV) (H : AH) : Option (List AV × AH) :=
  if ordOk ap ops.toList ord anc then
    (drawGo ap cf lo ops.toList env H.length ord ⟨fun _ => .undef, H ++ List.replicate ops.size dead0, []⟩).bind fun s =>
    if winOk ap lo ops.toList env ord anc s.vals (s.prev ++ [s.cur]) then some (envF ops.toList env s.vals (fun _ => true), s.cur) else none
  else none

/-- What is not read any more is forgotten. -/
def mask : List Bool → List AV → List AV
  | true :: m, v :: e => v :: mask m e
  | false :: m, _ :: e => .undef :: mask m e
  | _, e => e

def evLoop (f : St → Option (Ex × St)) : Nat → St → Option (Ex × St)
  | 0, _ => none
  | k + 1, s => (f s).bind fun (x, s) =>
    match x with
    | .normal => evLoop f k s
    | x => some (x, s)

def jumpEx : Code → Option Ex
  | .ret => some .ret
  | .exit id => some (.exit id)
  | _ => none

def isFunc : AV → Bool
  | .func .. => true
  | _ => false
/-- Entering a loop over a function: the block for deferred calls, the heap, the marks. -/
def enterA (rd : Option Nat) (s : St) : Option (Nat × AH × List Nat) :=
  match rd with
  | none => some (s.H.length, s.H ++ [AB.deferred false], s.H.length :: s.marks)
  | some l => match s.H[l]? with
    | some (AB.loop _ _ _ _ _ _ d) => some (d, s.H, s.marks)
    | _ => none
/-- Leaving it. -/
def leaveA (l : Nat) (marks : List Nat) (s : St) (H : AH) : Option (Ex × St) :=
  match H[l]? with
  | some (AB.loop st pe env ps asx bd d) =>
    if st = LoopState.busy then none else
    let s' : St := { env := s.env, H := H.set l (.loop .exhausted pe env ps asx bd d), marks := marks }
    match pe with
    | none => some (.normal, s')
    | some c => (jumpEx c).map fun x => (x, s')
  | _ => none

/-- The code is read in the round of a loop over a function, or in none. -/
def evCode (ap : AP) (cf : CallF) (lo : Nat) (rd : Option Nat) (k : Nat) : AC → St → Option (Ex × St)
  | .skip, s => some (.normal, s)
  | .region ops, s => (evOps ap cf lo ops s.env s.H).map fun r => (.normal, { s with env := r.1, H := r.2 })
  | .draw ops ord anc, s => (evDraw ap cf lo ops ord anc s.env s.H).map fun r => (.normal, { s with env := r.1, H := r.2 })
  | .seq a b, s => (evCode ap cf lo rd k a s).bind fun (x, s) =>
    match x with
    | .normal => evCode ap cf lo rd k b s
    | x => some (x, s)
  | .cond c t e, s => match opd s.env c with
    | .bool true => evCode ap cf lo rd k t s
    | .bool false => evCode ap cf lo rd k e s
    | _ => none
  | .scope b, s => evCode ap cf lo rd k b s
  | .block id b, s => (evCode ap cf lo rd k b s).bind fun (x, s) =>
    match x with
    | .exit i => if i = id then some (.normal, s) else some (.exit i, s)
    | x => some (x, s)
  | .loop keep b, s => evLoop (fun s => evCode ap cf lo rd k b { s with env := mask keep s.env }) k s
  | .range g ps asx bd, s =>
    if isFunc (opd s.env g) = false then none else (enterA rd s).bind fun e =>
      (cf (opd s.env g) [.yield e.2.1.length] lo (e.2.1 ++ [.loop .ready none s.env ps asx bd e.1])).bind fun r => leaveA e.2.1.length e.2.2 s r.2
  | .exit id, s => some (.exit id, s)
  | .ret, s => some (.ret, s)
  | .bad, _ => none

def eraseOps (l : List Oper) (dst : Nat → Option Tmp) : List AO :=
  l.map fun o => { dst := o.dst, op := o.op, ty := o.type, guard := o.guard.map fun g => dst g.1, want := (o.guard.map (·.2)).getD true }
def erase : Code → AC
  | .skip => .skip
  | .region _ ops d => if d then .draw ops [] [] else .region (eraseOps ops.toList fun g => (ops[g]?).bind (·.dst))
  | .seq a b => .seq (erase a) (erase b)
  | .cond c t e => .cond c (erase t) (erase e)
  | .block id b => .block id (erase b)
  | .scope b => .scope (erase b)
  | .loop b => .loop [] (erase b)
  | .rangeFunc g ps asx bd => .range g ps (erase asx) (erase bd)
  | .exit id => .exit id
  | .label _ => .skip
  | .ret => .ret
  | _ => .bad
/-- Without the marks on loops. -/
def AC.strip : AC → AC
  | .seq a b => .seq a.strip b.strip
  | .cond c t e => .cond c t.strip e.strip
  | .block id b => .block id b.strip
  | .scope b => .scope b.strip
  | .loop _ b => .loop [] b.strip
  | .draw ops _ _ => .draw ops [] []
  | .range g ps asx bd => .range g ps asx.strip bd.strip
  | c => c

def setL : List AV → List (Tmp × AV) → List AV
  | env, [] => env
  | env, (t, v) :: r => setL (env.set t v) r
def jumpOf : Ex → Option Code
  | .normal => none
  | .ret => some .ret
  | .exit id => some (.exit id)

/-- One round of a loop over a function: what its yield does. -/
def roundA (ap : AP) (cf : CallF) (lo k l : Nat) (args : List AV) (H : AH) : Option (AV × AH) :=
  match H[l]? with
  | some (.loop _ _ env ps asx bd _) =>
    if args.length ≠ ps.size then none else
    (evCode ap cf lo (some l) k asx ⟨setL env (ps.toList.zip args), H, []⟩).bind fun r =>
    match r.1, r.2.H[l]? with
    | .normal, some (.loop .ready pe env2 ps2 as2 bd2 d2) =>
      (evCode ap cf lo (some l) k bd ⟨r.2.env, r.2.H.set l (.loop .busy pe env2 ps2 as2 bd2 d2), r.2.marks⟩).bind fun q =>
      match q.2.H[l]? with
      | some (.loop _ _ env3 ps3 as3 bd3 d3) => some (.bool (jumpOf q.1).isNone, q.2.H.set l (.loop (if (jumpOf q.1).isNone then .ready else .done) (jumpOf q.1) env3 ps3 as3 bd3 d3))
      | _ => none
    | _, _ => none
  | _ => none

def takeA : List Nat → AH → Option AH
  | [], H => some H
  | d :: r, H => match H[d]? with
    | some (.deferred false) => takeA r (H.set d (.deferred true))
    | _ => none
def resA (ap : AP) (env : List AV) (H : AH) : List ResultVar → Option (List AV)
  | [] => some []
  | .tmp t :: r => (resA ap env H r).map (get env t :: ·)
  | .cell a t :: r => (aload ap H t (get env a)).bind fun v => (resA ap env H r).map (v :: ·)
def resV : List AV → AV
  | [v] => v
  | l => .tuple l

/-! what a value points at -/
mutual
def refsV : AV → List Nat
  | .ptr (some p) => [p.1]
  | .slice (some p) _ _ _ => [p.1]
  | .func _ l m => refsL l ++ refsL m
  | .yield l => [l]
  | .iface _ v => refsV v
  | .agg l => refsL l
  | .tuple l => refsL l
  | _ => []
def refsL : List AV → List Nat
  | [] => []
  | a :: l => refsV a ++ refsL l
end
/-- A block that points at nothing from n on. -/
def oldB (n : Nat) : AB → Prop
  | .cells l _ => ∀ r ∈ refsL l, r < n
  | .deferred _ => True
  | .loop .. => False
def gcOk (H H2 : AH) (v : AV) : Prop := H.length ≤ H2.length ∧ (∀ r ∈ refsV v, r < H.length) ∧ ∀ b, b < H.length → H2[b]? = H[b]? ∨ ∃ A, H2[b]? = some A ∧ oldB H.length A
open Classical in
/-- What was made behind H is forgotten, if nothing points at it. -/
noncomputable def gcF (H : AH) (r : AV × AH) : AV × AH := if gcOk H r.2 r.1 then (r.1, r.2.take H.length) else r
noncomputable def gcR (ap : AP) (f : Nat) (H : AH) (r : AV × AH) : AV × AH := if ap.gc f then gcF H r else r

noncomputable def fnA (ap : AP) (cf : CallF) (lo k f : Nat) (args : List AV) (H : AH) : Option (AV × AH) :=
  (ap.fn f).bind fun F => (evCode ap cf lo none k F.body ⟨args ++ List.replicate (F.ntmps - args.length) .undef, H, []⟩).bind fun r =>
  match r.1 with
  | .exit _ => none
  | _ => (takeA r.2.marks r.2.H).bind fun H' => (resA ap r.2.env H' F.results).map fun l => gcR ap f H (resV l, H')

/-- A call, so deep at most. -/
noncomputable def callA (ap : AP) : Nat → CallF
  | 0 => fun _ _ _ _ => none
  | k + 1 => fun f args lo H =>
    match f with
    | .func n first caps => match ap.prim n with
      | some g => g (first ++ args ++ caps) lo H
      | none => fnA ap (callA ap k) lo k n (first ++ args ++ caps) H
    | .yield l => roundA ap (callA ap k) lo k l args H
    | _ => none

end Go.Ab
end
section
/-! How the abstract reading stands to the model's memory. -/
set_option linter.unusedVariables false
set_option linter.unusedSimpArgs false
namespace Go.Ab

/-- Where a block lies: the model's block, from which cell on, how many cells that has. -/
structure PL where
  blk : Nat
  d : Nat
  R : Nat
abbrev Inj := Nat → Option PL

inductive VR (φ : Inj) : AV → Value → Prop
  | undef (v : Value) : VR φ .undef v
  | bool (b : Bool) : VR φ (.bool b) (.bool b)
  | int (k : IntKind) (n : Int) : VR φ (.int k n) (.int k n)
  | str (s : ByteArray) : VR φ (.str s) (.string s)
  | ptrN : VR φ (.ptr none) (.pointer none)
  | ptr (b o : Nat) (p : PL) (h : φ b = some p) : VR φ (.ptr (some (b, o))) (.pointer (some ⟨p.blk, p.d + o, none⟩))
  | sliceN (c : Option Nat) (sz : Nat) : VR φ (.slice none 0 c sz) (.slice none 0 0)
  | slice (b o len : Nat) (cap : Option Nat) (sz : Nat) (p : PL) (a' : Addr) (cap' : Nat) (h : φ b = some p) (ha : a' = ⟨p.blk, p.d + o, none⟩ ∨ cap' = 0) (hl : len ≤ cap')
      (hR : p.d + o + cap' * sz ≤ p.R) (hc : (∃ c, cap = some c ∧ cap' = c) ∨ (cap = none ∧ p.d + o + cap' * sz = p.R)) : VR φ (.slice (some (b, o)) len cap sz) (.slice (some a') len cap')
  | func (f : FuncId) (l m : List AV) (l' m' : Array Value) (h1 : l.length = l'.size) (h2 : ∀ (i : Nat) (a : AV) (v : Value), l[i]? = some a → l'[i]? = some v → VR φ a v)
      (h3 : m.length = m'.size) (h4 : ∀ (i : Nat) (a : AV) (v : Value), m[i]? = some a → m'[i]? = some v → VR φ a v) : VR φ (.func f l m) (.func (.func f) l' m')
  | yield (l : Nat) (p : PL) (h : φ l = some p) : VR φ (.yield l) (.func (.yield p.blk) #[] #[])
  | nilFunc : VR φ .nilFunc .nilFunc
  | nilIface : VR φ .nilIface .nilIface
  | iface (t : TypeId) (v : AV) (v' : Value) (h : VR φ v v') : VR φ (.iface t v) (.iface t v')
  | agg (l : List AV) (l' : Array Value) (h1 : l.length = l'.size) (h2 : ∀ (i : Nat) (a : AV) (v : Value), l[i]? = some a → l'[i]? = some v → VR φ a v) : VR φ (.agg l) (.agg l')
  | tuple (l : List AV) (l' : Array Value) (h1 : l.length = l'.size) (h2 : ∀ (i : Nat) (a : AV) (v : Value), l[i]? = some a → l'[i]? = some v → VR φ a v) : VR φ (.tuple l) (.tuple l')

def Inj.le (φ φ' : Inj) : Prop := ∀ b p, φ b = some p → φ' b = some p
theorem Inj.le_refl (φ : Inj) : φ.le φ := fun _ _ h => h
theorem Inj.le_trans {a b c : Inj} (h : a.le b) (g : b.le c) : a.le c := fun _ _ e => g _ _ (h _ _ e)

theorem VR.mono {φ φ' : Inj} (hl : φ.le φ') {a : AV} {v : Value} (h : VR φ a v) : VR φ' a v := by
  induction h with
  | undef v => exact .undef v
  | bool b => exact .bool b
  | int k n => exact .int k n
  | str s => exact .str s
  | ptrN => exact .ptrN
  | ptr b o p h => exact .ptr b o p (hl _ _ h)
  | sliceN c sz => exact .sliceN c sz
  | slice b o len cap sz p a' cap' h ha hlen hR hc => exact .slice b o len cap sz p a' cap' (hl _ _ h) ha hlen hR hc
  | func f l m l' m' h1 h2 h3 h4 i2 i4 => exact .func f l m l' m' h1 i2 h3 i4
  | yield l p h => exact .yield l p (hl _ _ h)
  | nilFunc => exact .nilFunc
  | nilIface => exact .nilIface
  | iface t v v' h ih => exact .iface t v v' ih
  | agg l l' h1 h2 ih => exact .agg l l' h1 ih
  | tuple l l' h1 h2 ih => exact .tuple l l' h1 ih

/-- Lists of values. -/
def ER (φ : Inj) (l : List AV) (c : Array Value) : Prop := l.length = c.size ∧ ∀ (i : Nat) (a : AV) (v : Value), l[i]? = some a → c[i]? = some v → VR φ a v
theorem ER.mono {φ φ' : Inj} (hl : φ.le φ') {l : List AV} {c : Array Value} (h : ER φ l c) : ER φ' l c := ⟨h.1, fun i a v h1 h2 => (h.2 i a v h1 h2).mono hl⟩
def LR (φ : Inj) (l : List AV) (c : Array Value) (d : Nat) : Prop := ∀ (i : Nat) (a : AV), l[i]? = some a → ∃ v, c[d + i]? = some v ∧ VR φ a v
theorem LR.mono {φ φ' : Inj} (hl : φ.le φ') {l : List AV} {c : Array Value} {d : Nat} (h : LR φ l c d) : LR φ' l c d := fun i a e => let ⟨v, h1, h2⟩ := h i a e; ⟨v, h1, h2.mono hl⟩
theorem ER.lr {φ : Inj} {l : List AV} {c : Array Value} (h : ER φ l c) : LR φ l c 0 := fun i a e => by
  have hi : i < c.size := by
    have := (List.getElem?_eq_some_iff.1 e).1
    have := h.1; omega
  exact ⟨c[i], by simp [hi], h.2 i a _ e (by simp [hi])⟩

inductive BR (φ : Inj) (p : PL) : AB → Obj → Prop
  | cells (l : List AV) (md : Md) (c : Array Value) (e : TypeId) (fr : Nat × Nat) (h1 : c.size = p.R) (h2 : p.d + l.length ≤ p.R) (h3 : LR φ l c p.d)
      (h4 : md = .rw → fr.1 = fr.2 ∨ p.R ≤ fr.1) (h5 : md = .pl → fr.1 = fr.2) : BR φ p (.cells l md) (.cells c e fr)
  | loop (st : LoopState) (pe : Option Code) (env : List AV) (ps : Array Tmp) (asx bd : AC) (d : Nat) (r : Loop) (p' : PL) (h1 : r.state = st) (h2 : r.pending = pe) (h3 : ER φ env r.tmps)
      (h4 : r.params = ps) (h5 : erase r.assign = asx.strip) (h6 : erase r.body = bd.strip) (h7 : φ d = some p') (h8 : r.defers = p'.blk) : BR φ p (.loop st pe env ps asx bd d) (.loop r)
  | deferred (t : Bool) : BR φ p (.deferred t) (.deferred (if t then none else some []))
theorem BR.mono {φ φ' : Inj} (hl : φ.le φ') {p : PL} {A : AB} {O : Obj} (h : BR φ p A O) : BR φ' p A O := by
  cases h with
  | cells l md c e fr h1 h2 h3 h4 h5 => exact .cells l md c e fr h1 h2 (h3.mono hl) h4 h5
  | loop st pe env ps asx bd d r p' h1 h2 h3 h4 h5 h6 h7 h8 => exact .loop st pe env ps asx bd d r p' h1 h2 (h3.mono hl) h4 h5 h6 (hl _ _ h7) h8
  | deferred t => exact .deferred t

def isDead0 : AB → Prop
  | .cells [] .dead => True
  | _ => False

structure Rel (φ : Inj) (H : AH) (hp : Array Obj) : Prop where
  blk : ∀ b p, φ b = some p → ∃ A O, H[b]? = some A ∧ hp[p.blk]? = some O ∧ BR φ p A O
  excl : ∀ b p A b' p' A', φ b = some p → H[b]? = some A → A.own = true → φ b' = some p' → H[b']? = some A' → b' ≠ b → p'.blk = p.blk → isDead0 A'

/-- A step. -/
structure Sim (φ : Inj) (H : AH) (hp : Array Obj) (φ' : Inj) (H' : AH) (hp' : Array Obj) : Prop where
  ext : φ.le φ'
  new : ∀ b p, φ' b = some p → φ b = some p ∨ H.length ≤ b
  rel : Rel φ' H' hp'
  len : H.length ≤ H'.length
  size : hp.size ≤ hp'.size
  frame : ∀ r, r < hp.size → (∀ b p A, φ b = some p → H[b]? = some A → A.own = true → p.blk ≠ r) → hp'[r]? = hp[r]?
  img : ∀ b p A, φ' b = some p → H'[b]? = some A → A.own = true → hp.size ≤ p.blk ∨ ∃ b0 p0 A0, φ b0 = some p0 ∧ H[b0]? = some A0 ∧ A0.own = true ∧ p0.blk = p.blk
  img2 : ∀ b p, φ' b = some p → φ b = some p ∨ hp.size ≤ p.blk ∨ ∃ b0 p0 A0, φ b0 = some p0 ∧ H[b0]? = some A0 ∧ A0.own = true ∧ p0.blk = p.blk

theorem Sim.refl {φ : Inj} {H : AH} {hp : Array Obj} (h : Rel φ H hp) : Sim φ H hp φ H hp :=
  ⟨Inj.le_refl φ, fun _ _ e => .inl e, h, Nat.le_refl _, Nat.le_refl _, fun _ _ _ => rfl, fun b p A h1 h2 h3 => .inr ⟨b, p, A, h1, h2, h3, rfl⟩, fun _ _ e => .inl e⟩

theorem Sim.trans {φ1 φ2 φ3 : Inj} {H1 H2 H3 : AH} {h1 h2 h3 : Array Obj} (a : Sim φ1 H1 h1 φ2 H2 h2) (b : Sim φ2 H2 h2 φ3 H3 h3) : Sim φ1 H1 h1 φ3 H3 h3 where
  ext := Inj.le_trans a.ext b.ext
  new := fun x p e => by
    rcases b.new x p e with h | h
    · exact a.new x p h
    · exact .inr (Nat.le_trans a.len h)
  rel := b.rel
  len := Nat.le_trans a.len b.len
  size := Nat.le_trans a.size b.size
  frame := fun r hr hn => by
    rw [b.frame r (Nat.lt_of_lt_of_le hr a.size) ?_, a.frame r hr hn]
    intro x p A e1 e2 e3 e4
    rcases a.img x p A e1 e2 e3 with h | ⟨b0, p0, A0, i1, i2, i3, i4⟩
    · omega
    · exact hn b0 p0 A0 i1 i2 i3 (i4.trans e4)
  img := fun x p A e1 e2 e3 => by
    rcases b.img x p A e1 e2 e3 with h | ⟨b0, p0, A0, i1, i2, i3, i4⟩
    · exact .inl (Nat.le_trans a.size h)
    · rcases a.img b0 p0 A0 i1 i2 i3 with h | ⟨b1, p1, A1, j1, j2, j3, j4⟩
      · exact .inl (i4 ▸ h)
      · exact .inr ⟨b1, p1, A1, j1, j2, j3, j4.trans i4⟩
  img2 := fun x p e => by
    rcases b.img2 x p e with h | h | ⟨b0, p0, A0, i1, i2, i3, i4⟩
    · exact a.img2 x p h
    · exact .inr (.inl (Nat.le_trans a.size h))
    · rcases a.img b0 p0 A0 i1 i2 i3 with h | ⟨b1, p1, A1, j1, j2, j3, j4⟩
      · exact .inr (.inl (i4 ▸ h))
      · exact .inr (.inr ⟨b1, p1, A1, j1, j2, j3, j4.trans i4⟩)

def upd (φ : Inj) (b : Nat) (p : PL) : Inj := fun x => if x = b then some p else φ x
theorem Rel.lt {φ : Inj} {H : AH} {hp : Array Obj} (h : Rel φ H hp) {b : Nat} {p : PL} (e : φ b = some p) : b < H.length := by
  obtain ⟨A, O, h1, _⟩ := h.blk b p e
  exact (List.getElem?_eq_some_iff.1 h1).1
theorem Rel.lt2 {φ : Inj} {H : AH} {hp : Array Obj} (h : Rel φ H hp) {b : Nat} {p : PL} (e : φ b = some p) : p.blk < hp.size := by
  obtain ⟨A, O, _, h1, _⟩ := h.blk b p e
  exact (Array.getElem?_eq_some_iff.1 h1).1
theorem Rel.upd_le {φ : Inj} {H : AH} {hp : Array Obj} (h : Rel φ H hp) (p : PL) : φ.le (upd φ H.length p) := fun b q e => by
  have := h.lt e
  unfold upd
  rw [if_neg (by omega)]; exact e

/-- A new block. -/
theorem Sim.alloc {φ : Inj} {H : AH} {hp : Array Obj} (h : Rel φ H hp) {A : AB} {O : Obj} {d R : Nat} (hb : BR (upd φ H.length ⟨hp.size, d, R⟩) ⟨hp.size, d, R⟩ A O) :
    Sim φ H hp (upd φ H.length ⟨hp.size, d, R⟩) (H ++ [A]) (hp.push O) where
  ext := h.upd_le _
  new := fun b p e => by
    unfold upd at e
    split at e
    · exact .inr (by omega)
    · exact .inl e
  rel := {
    blk := fun b p e => by
      unfold upd at e
      split at e
      · rename_i hb'
        cases e
        subst hb'
        exact ⟨A, O, by simp, by simp, hb⟩
      · obtain ⟨A1, O1, h1, h2, h3⟩ := h.blk b p e
        have hl := h.lt e
        have hl2 := h.lt2 e
        exact ⟨A1, O1, by rw [List.getElem?_append_left hl]; exact h1, by rw [Array.getElem?_push, if_neg (by omega)]; exact h2, h3.mono (h.upd_le _)⟩
    excl := fun b p A1 b' p' A1' e1 e2 e3 e4 e5 e6 e7 => by
      unfold upd at e1 e4
      split at e1
      · cases e1
        split at e4
        · omega
        · have := h.lt2 e4
          simp only at e7
          omega
      · have hl := h.lt e1
        have hl2 := h.lt2 e1
        split at e4
        · cases e4
          simp only at e7
          omega
        · have hl' := h.lt e4
          rw [List.getElem?_append_left hl] at e2
          rw [List.getElem?_append_left hl'] at e5
          exact h.excl b p A1 b' p' A1' e1 e2 e3 e4 e5 e6 e7 }
  len := by simp
  size := by simp
  frame := fun r hr _ => by rw [Array.getElem?_push, if_neg (by omega)]
  img := fun b p A1 e1 e2 e3 => by
    unfold upd at e1
    split at e1
    · cases e1; exact .inl (Nat.le_refl _)
    · have hl := h.lt e1
      rw [List.getElem?_append_left hl] at e2
      exact .inr ⟨b, p, A1, e1, e2, e3, rfl⟩
  img2 := fun b p e => by
    unfold upd at e
    split at e
    · cases e; exact .inr (.inl (Nat.le_refl _))
    · exact .inl e

/-- A block written anew. -/
theorem Sim.write {φ : Inj} {H : AH} {hp : Array Obj} (h : Rel φ H hp) {b : Nat} {p : PL} {A A' : AB} {O O' : Obj} (e1 : φ b = some p) (e2 : H[b]? = some A) (e3 : A.own = true)
    (e4 : hp[p.blk]? = some O) (hk : ∀ c e fr, O = .cells c e fr → ∃ c' e' fr', O' = .cells c' e' fr' ∧ c'.size = c.size) (hb : BR φ p A' O') (hown : A'.own = true ∨ isDead0 A') :
    Sim φ H hp φ (H.set b A') (hp.setIfInBounds p.blk O') := by
  have hlt := h.lt e1
  have hlt2 := h.lt2 e1
  have old : ∀ b' A1, b' ≠ b → (H.set b A')[b']? = some A1 → H[b']? = some A1 := fun b' A1 hn e => by rwa [List.getElem?_set_ne (by omega)] at e
  refine ⟨Inj.le_refl φ, fun _ _ e => .inl e, ⟨fun b' p' e => ?_, fun b1 p1 A1 b2 p2 A2 f1 f2 f3 f4 f5 f6 f7 => ?_⟩, by simp, by simp, fun r hr hn => ?_, fun b1 p1 A1 f1 f2 f3 => ?_, fun _ _ e => .inl e⟩
  · by_cases hbb : b' = b
    · subst hbb
      rw [e1] at e; cases e
      exact ⟨A', O', by simp [hlt], by simp [hlt2], hb⟩
    · obtain ⟨A1, O1, h1, h2, h3⟩ := h.blk b' p' e
      by_cases hs : p'.blk = p.blk
      · have hd := h.excl b p A b' p' A1 e1 e2 e3 e h1 hbb hs
        refine ⟨A1, O', by rw [List.getElem?_set_ne (by omega)]; exact h1, by rw [hs]; simp [hlt2], ?_⟩
        rw [hs, e4] at h2
        cases h2
        cases h3 with
        | cells l md c e' fr g1 g2 g3 g4 =>
          obtain ⟨c', e'', fr', rfl, hc⟩ := hk c e' fr rfl
          cases l with
          | nil =>
            cases md with
            | dead => exact .cells [] .dead c' e'' fr' (hc.trans g1) g2 (fun i a hi => by simp at hi) (fun hm => by cases hm) (fun hm => by cases hm)
            | rw => exact hd.elim
            | ro => exact hd.elim
            | pl => exact hd.elim
          | cons => exact hd.elim
        | loop => exact hd.elim
        | deferred => exact hd.elim
      · exact ⟨A1, O1, by rw [List.getElem?_set_ne (by omega)]; exact h1, by rw [Array.getElem?_setIfInBounds_ne (by omega)]; exact h2, h3⟩
  · by_cases hb2 : b2 = b
    · subst hb2
      have hne : b1 ≠ b2 := fun x => f6 x.symm
      have f2' := old b1 A1 hne f2
      rw [e1] at f4; cases f4
      have := h.excl b2 p A b1 p1 A1 e1 e2 e3 f1 f2' hne f7.symm
      exfalso
      cases A1 with
      | cells l md => cases l <;> cases md <;> simp_all [isDead0, AB.own]
      | loop => exact this
      | deferred => exact this
    · have f5' := old b2 A2 hb2 f5
      by_cases hb1 : b1 = b
      · subst hb1
        rw [e1] at f1; cases f1
        exact h.excl b1 p A b2 p2 A2 e1 e2 e3 f4 f5' hb2 f7
      · exact h.excl b1 p1 A1 b2 p2 A2 f1 (old b1 A1 hb1 f2) f3 f4 f5' f6 f7
  · rw [Array.getElem?_setIfInBounds_ne (hn b p A e1 e2 e3)]
  · by_cases hb1 : b1 = b
    · subst hb1
      rw [e1] at f1; cases f1
      exact .inr ⟨b1, p, A, e1, e2, e3, rfl⟩
    · exact .inr ⟨b1, p1, A1, f1, old b1 A1 hb1 f2, f3, rfl⟩

/-- A block that lives on under a new name (append in place). -/
theorem Sim.rename {φ : Inj} {H : AH} {hp : Array Obj} (h : Rel φ H hp) {b : Nat} {p : PL} {l : List AV} {c : Array Value} {e : TypeId} {fr : Nat × Nat} (e1 : φ b = some p) (e2 : H[b]? = some (.cells l .rw))
    (e4 : hp[p.blk]? = some (.cells c e fr)) {o : Nat} {l' : List AV} {c' : Array Value} (hs : c'.size = c.size) (h2 : p.d + o + l'.length ≤ p.R) (h3 : LR φ l' c' (p.d + o)) :
    Sim φ H hp (upd φ H.length ⟨p.blk, p.d + o, p.R⟩) (H.set b (.cells [] .dead) ++ [.cells l' .rw]) (hp.setIfInBounds p.blk (.cells c' e fr)) := by
  have hlt := h.lt e1
  have hlt2 := h.lt2 e1
  obtain ⟨A0, O0, g1, g2, g3⟩ := h.blk b p e1
  rw [e2] at g1; cases g1
  rw [e4] at g2; cases g2
  have hR : c.size = p.R ∧ (fr.1 = fr.2 ∨ p.R ≤ fr.1) := by cases g3 with | cells _ _ _ _ _ k1 k2 k3 k4 k5 => exact ⟨k1, k4 rfl⟩
  have hd : p.d + 0 ≤ p.R := by omega
  have hw := Sim.write h e1 e2 (A' := .cells [] .dead) rfl e4 (O' := .cells c' e fr) (fun c1 e1 fr1 q => by cases q; exact ⟨c', _, _, rfl, hs⟩)
    (.cells [] .dead c' e fr (hs.trans hR.1) hd (fun i a hi => by simp at hi) (fun q => by cases q) (fun q => by cases q)) (.inr trivial)
  have hle : φ.le (upd φ H.length ⟨p.blk, p.d + o, p.R⟩) := h.upd_le _
  have hlen : (H.set b (.cells [] .dead)).length = H.length := by simp
  refine ⟨hle, fun x q e => ?_, ⟨fun x q e' => ?_, fun x q A1 y q' A2 f1 f2 f3 f4 f5 f6 f7 => ?_⟩, by simp, by simp, hw.frame, fun x q A1 f1 f2 f3 => ?_, fun x q e' => ?_⟩
  · unfold upd at e
    split at e
    · exact .inr (by omega)
    · exact .inl e
  · unfold upd at e'
    split at e'
    · rename_i hx
      cases e'
      subst hx
      refine ⟨_, _, ?_, ?_, .cells l' .rw c' e fr (hs.trans hR.1) h2 (h3.mono hle) (fun _ => hR.2) (fun q => by cases q)⟩
      · rw [List.getElem?_append_right (by omega), hlen]; simp
      · simp [hlt2]
    · obtain ⟨A1, O1, k1, k2, k3⟩ := hw.rel.blk x q e'
      have := h.lt e'
      exact ⟨A1, O1, by rw [List.getElem?_append_left (by omega)]; exact k1, k2, k3.mono hle⟩
  · have ho : ∀ x q A, φ x = some q → (H.set b (.cells [] .dead))[x]? = some A → q.blk = p.blk → isDead0 A := fun x q A i1 i2 i3 => by
      by_cases hxb : x = b
      · subst hxb
        rw [List.getElem?_set_self hlt] at i2
        cases i2; trivial
      · rw [List.getElem?_set_ne (by omega)] at i2
        exact h.excl b p _ x q A e1 e2 rfl i1 i2 hxb i3
    unfold upd at f1 f4
    split at f1
    · rename_i hx
      cases f1
      split at f4
      · omega
      · have := h.lt f4
        rw [List.getElem?_append_left (by omega)] at f5
        exact ho y q' A2 f4 f5 f7
    · have hx := h.lt f1
      rw [List.getElem?_append_left (by omega)] at f2
      split at f4
      · cases f4
        have := ho x q A1 f1 f2 f7.symm
        exfalso
        cases A1 with
        | cells l md => cases l <;> cases md <;> simp_all [isDead0, AB.own]
        | loop => exact this
        | deferred => exact this
      · have hy := h.lt f4
        rw [List.getElem?_append_left (by omega)] at f5
        exact hw.rel.excl x q A1 y q' A2 f1 f2 f3 f4 f5 f6 f7
  · unfold upd at f1
    split at f1
    · cases f1
      exact .inr ⟨b, p, _, e1, e2, rfl, rfl⟩
    · have hx := h.lt f1
      rw [List.getElem?_append_left (by omega)] at f2
      exact hw.img x q A1 f1 f2 f3
  · unfold upd at e'
    split at e'
    · cases e'; exact .inr (.inr ⟨b, p, _, e1, e2, rfl, rfl⟩)
    · exact .inl e'

/-- What lies outside the heap stays. -/
def Str (w w' : World) : Prop := w'.os = w.os ∧ w'.tape = w.tape ∧ w'.output = w.output
theorem Str.refl (w : World) : Str w w := ⟨rfl, rfl, rfl⟩
theorem Str.trans {a b c : World} (h : Str a b) (k : Str b c) : Str a c := ⟨k.1.trans h.1, k.2.1.trans h.2.1, k.2.2.trans h.2.2⟩
/-- A step of the world. -/
structure SimW (φ : Inj) (H : AH) (w : World) (φ' : Inj) (H' : AH) (w' : World) : Prop extends Sim φ H w.heap φ' H' w'.heap where
  str : Str w w'
theorem SimW.refl {φ : Inj} {H : AH} {w : World} (h : Rel φ H w.heap) : SimW φ H w φ H w := ⟨.refl h, .refl w⟩
theorem SimW.trans {φ1 φ2 φ3 : Inj} {H1 H2 H3 : AH} {h1 h2 h3 : World} (a : SimW φ1 H1 h1 φ2 H2 h2) (b : SimW φ2 H2 h2 φ3 H3 h3) : SimW φ1 H1 h1 φ3 H3 h3 := ⟨a.toSim.trans b.toSim, a.str.trans b.str⟩
end Go.Ab
end
section
/-! Each operation of the model does what the abstract reading says: values, memory. -/
set_option linter.unusedVariables false
set_option linter.unusedSimpArgs false
namespace Go.Ab

def tdOf : TypeDesc → Option TD
  | .bool => some .bool
  | .int k => some (.int k)
  | .string => some .string
  | .pointer e => some (.ptr e)
  | .slice e => some (.slice e)
  | .array n e => some (.array n e)
  | .struct fs => if fs.toList.all (fun f => f.name != "_") then some (.struct (fs.toList.map fun f => (f.offset, f.type))) else none
  | .func .. => some .func
  | .interface _ => some .iface
  | _ => none
def tiOf (P : Program) (t : Nat) : Option TI :=
  (P.info? t).bind fun i => (P.underlying t).bind fun d => (tdOf d).bind fun td => i.zero.bind fun z =>
    if z.cells.size = i.size ∧ P.stoodInHeld t = false then some ⟨i.size, i.bytes, z.cells.toList.map ofS, td⟩ else none

structure TyOk (P : Program) (t : Nat) (ti : TI) (i : TypeInfo) (d : TypeDesc) (z : Value) : Prop where
  hi : P.info? t = some i
  hd : P.underlying t = some d
  td : tdOf d = some ti.td
  hz : i.zero = some z
  zs : z.cells.size = i.size
  sz : ti.sz = i.size
  by_ : ti.by_ = i.bytes
  zero : ti.zero = z.cells.toList.map ofS
  held : P.stoodInHeld t = false
theorem tiOf_some {P : Program} {t : Nat} {ti : TI} (h : tiOf P t = some ti) : ∃ i d z, TyOk P t ti i d z := by
  unfold tiOf at h
  obtain ⟨i, hi, h⟩ := Option.bind_eq_some_iff.1 h
  obtain ⟨d, hd, h⟩ := Option.bind_eq_some_iff.1 h
  obtain ⟨td, htd, h⟩ := Option.bind_eq_some_iff.1 h
  obtain ⟨z, hz, h⟩ := Option.bind_eq_some_iff.1 h
  split at h
  · rename_i hc
    cases h
    exact ⟨i, d, z, hi, hd, htd, hz, hc.1, rfl, rfl, rfl, hc.2⟩
  · cases h

/-- A function that the model itself carries out at once. -/
def ExtOk (P : Program) (f : Nat) (g : List AV → AH → Option (AV × AH)) : Prop :=
  ∀ (φ : Inj) (H : AH) (w : World) (args : List AV) (args' : Array Value) (v : AV) (H' : AH), g args H = some (v, H') → Rel φ H w.heap → ER φ args args' →
    ∃ v' w' φ', (callFunc f args').run P w = .ok (.value v') w' ∧ SimW φ H w φ' H' w' ∧ VR φ' v v'
structure TyAgree (P : Program) (ap : AP) : Prop where
  ty : ∀ t ti, ap.ty t = some ti → tiOf P t = some ti
  ext : ∀ f g, ap.ext f = some g → ExtOk P f g

theorem TyAgree.get {P : Program} {ap : AP} (h : TyAgree P ap) {t : Nat} {ti : TI} (e : ap.ty t = some ti) : ∃ i d z, TyOk P t ti i d z := tiOf_some (h.ty t ti e)

theorem vr_ofS (φ : Inj) (v : Value) : VR φ (ofS v) v := by
  unfold ofS
  split <;> first | exact .undef _ | constructor
theorem er_ofS (φ : Inj) (l : Array Value) : ER φ (l.toList.map ofS) l := by
  refine ⟨by simp, fun i a v h1 h2 => ?_⟩
  rw [List.getElem?_map] at h1
  rw [← Array.getElem?_toList] at h2
  rw [h2] at h1
  cases h1
  exact vr_ofS φ v
theorem vr_ofV (φ : Inj) (v : Value) : VR φ (ofV v) v := by
  cases v
  case agg cs => exact .agg _ _ (er_ofS φ cs).1 (er_ofS φ cs).2
  all_goals (simp only [ofV]; exact vr_ofS φ _)

theorem er_nil (φ : Inj) : ER φ [] #[] := ⟨rfl, fun i a v h => by simp at h⟩
theorem vr_opd {φ : Inj} {env : List AV} {a : Act} (h : ER φ env a.tmps) (x : Operand) : VR φ (opd env x) (a.eval x) := by
  cases x with
  | tmp t =>
    simp only [opd, Act.eval, Ab.get]
    cases e : env[t]? with
    | none => exact .undef _
    | some v =>
      have hlt : t < a.tmps.size := by
        have h1 : t < env.length := (List.getElem?_eq_some_iff.1 e).1
        exact h.1 ▸ h1
      have := h.2 t v a.tmps[t] e (by simp [hlt])
      simpa [Array.getD, hlt] using this
  | const v => exact vr_ofV φ v
  | global g => exact .undef _
  | func f => exact .func f [] [] #[] #[] rfl (er_nil φ).2 rfl (er_nil φ).2
theorem er_opds {φ : Inj} {env : List AV} {a : Act} (h : ER φ env a.tmps) (xs : Array Operand) : ER φ (xs.toList.map (opd env)) (xs.map a.eval) := by
  refine ⟨by simp, fun i v u h1 h2 => ?_⟩
  rw [List.getElem?_map] at h1
  rw [Array.getElem?_map] at h2
  rw [Array.getElem?_toList] at h1
  cases e : xs[i]? with
  | none => rw [e] at h1; cases h1
  | some x =>
    rw [e] at h1 h2
    cases h1; cases h2
    exact vr_opd h x

/-- The cells of a value. -/
theorem vr_cells {φ : Inj} {v : AV} {x : Value} (h : VR φ v x) {cs : List AV} (e : v.cells = some cs) : ER φ cs x.cells := by
  have h0 := h
  have one : ∀ (v : AV) (x : Value), VR φ v x → ER φ [v] #[x] := fun v x h0 => ⟨rfl, fun i a v h1 h2 => by
    cases i with
    | zero => simp at h1 h2; subst h1; subst h2; exact h0
    | succ i => simp at h1⟩
  cases h with
  | undef => cases e
  | agg l l' h1 h2 => cases e; exact ⟨h1, h2⟩
  | tuple => cases e
  | _ =>
    cases e
    exact one _ _ h0

section
variable {P : Program} {ap : AP} {φ : Inj} {H : AH} {w : World}

theorem rowOf_some {b : Nat} {l : List AV} (h : rowOf H b = some l) : ∃ md, H[b]? = some (.cells l md) ∧ md ≠ .dead := by
  unfold rowOf at h
  split at h
  · rename_i l' e; cases h; exact ⟨_, e, by simp⟩
  · rename_i l' e; cases h; exact ⟨_, e, by simp⟩
  · rename_i l' e; cases h; exact ⟨_, e, by simp⟩
  · cases h
theorem rowRw_some {lo b : Nat} {l : List AV} (h : rowRw H lo b = some l) : H[b]? = some (.cells l .rw) ∧ lo ≤ b := by
  unfold rowRw at h
  split at h
  · cases h
  · split at h
    · rename_i hn l' e; cases h; exact ⟨e, by omega⟩
    · cases h
theorem rowRw_row {lo b : Nat} {l : List AV} (h : rowRw H lo b = some l) : rowOf H b = some l := by
  obtain ⟨e, _⟩ := rowRw_some h
  unfold rowOf
  rw [e]

/-- The model's cells of a block. -/
theorem Rel.row (hr : Rel φ H w.heap) {b : Nat} {p : PL} {l : List AV} {md : Md} (hp : φ b = some p) (hl : H[b]? = some (.cells l md)) :
    ∃ c e fr, w.heap[p.blk]? = some (.cells c e fr) ∧ c.size = p.R ∧ p.d + l.length ≤ p.R ∧ LR φ l c p.d ∧ (md = .rw → fr.1 = fr.2 ∨ p.R ≤ fr.1) := by
  obtain ⟨A, O, h1, h2, h3⟩ := hr.blk b p hp
  rw [hl] at h1; cases h1
  cases h3 with
  | cells _ _ c e fr k1 k2 k3 k4 k5 => exact ⟨c, e, fr, h2, k1, k2, k3, k4⟩

theorem cell_of {B o : Nat} {c : Array Value} {e : TypeId} {fr : Nat × Nat} (h : w.heap[B]? = some (.cells c e fr)) : w.cell? ⟨B, o, none⟩ = c[o]? := by
  simp [World.cell?, h]
theorem frozen_of {B o R : Nat} {c : Array Value} {e : TypeId} {fr : Nat × Nat} (h : w.heap[B]? = some (.cells c e fr)) (hf : fr.1 = fr.2 ∨ R ≤ fr.1) (ho : o < R) : w.frozen? ⟨B, o, none⟩ = false := by
  simp only [World.frozen?, h]
  cases h1 : decide (fr.1 ≤ o) <;> cases h2 : decide (o < fr.2) <;> simp_all
  all_goals omega
theorem addr_add (B o n : Nat) : (⟨B, o, none⟩ : Addr).add n = ⟨B, o + n, none⟩ := by
  unfold Addr.add
  split <;> simp_all

/-- Some cells in a row. -/
theorem Rel.cellsAt (hr : Rel φ H w.heap) {b o n : Nat} {p : PL} {l : List AV} {md : Md} (hp : φ b = some p) (hl : H[b]? = some (.cells l md)) (hn : o + n ≤ l.length) :
    ∃ cs : List Value, cs.length = n ∧ (∀ j v, cs[j]? = some v → w.cell? ((⟨p.blk, p.d + o, none⟩ : Addr).add j) = some v) ∧ ER φ ((l.drop o).take n) cs.toArray := by
  obtain ⟨c, e, fr, h1, h2, h3, h4, _⟩ := hr.row hp hl
  refine ⟨(c.toList.drop (p.d + o)).take n, by simp; omega, fun j v hj => ?_, by simp; omega, fun i a v g1 g2 => ?_⟩
  · rw [addr_add, cell_of h1]
    have hjn : j < n := by
      have := (List.getElem?_eq_some_iff.1 hj).1
      simp at this; omega
    rw [List.getElem?_take_of_lt hjn, List.getElem?_drop, Array.getElem?_toList] at hj
    exact hj
  · have hin : i < n := by
      have := (List.getElem?_eq_some_iff.1 g1).1
      simp at this; omega
    rw [List.getElem?_take_of_lt hin, List.getElem?_drop] at g1
    obtain ⟨v', k1, k2⟩ := h4 _ _ g1
    rw [List.getElem?_toArray, List.getElem?_take_of_lt hin, List.getElem?_drop, Array.getElem?_toList, Nat.add_assoc, k1] at g2
    cases g2; exact k2

theorem run_sizeOf' {t : Nat} {ti : TI} {i : TypeInfo} {d : TypeDesc} {z : Value} (h : TyOk P t ti i d z) (w : World) : (sizeOf t).run P w = .ok ti.sz w := by
  simp [sizeOf, typeInfo, h.hi, h.sz]
theorem run_isAgg' {t : Nat} {ti : TI} {i : TypeInfo} {d : TypeDesc} {z : Value} (h : TyOk P t ti i d z) (w : World) : (isAgg t).run P w = .ok ti.td.isAgg w := by
  have htd := h.td
  simp only [isAgg, Sem.run_bind, run_underlying h.hd, Result.andThen_ok]
  cases d <;> simp only [tdOf] at htd <;> first | (cases htd; rw [← htd]; rfl) | (cases htd; done) | (rw [← Option.some.inj htd]; rfl) | (split at htd <;> first | (rw [← Option.some.inj htd]; rfl) | cases htd)

/-- load -/
theorem sound_load (hg : TyAgree P ap) (hr : Rel φ H w.heap) {t : Nat} {p v : AV} {x : Value} (hx : VR φ p x) (h : aload ap H t p = some v) : ∃ v', (Instr.loadAt t x).run P w = .ok v' w ∧ VR φ v v' := by
  unfold aload at h
  split at h
  · rename_i b o
    obtain ⟨ti, e1, h⟩ := Option.bind_eq_some_iff.1 h
    obtain ⟨l, e2, h⟩ := Option.bind_eq_some_iff.1 h
    obtain ⟨i, d, z, ht⟩ := hg.get e1
    obtain ⟨md, e3, _⟩ := rowOf_some e2
    cases hx with
    | ptr _ _ q hq =>
      simp only [Instr.loadAt, Instr.sureAddr, loadVar, Sem.run_bind, Sem.run_pure, Result.andThen_ok, run_isAgg' ht]
      unfold part at h
      cases hagg : ti.td.isAgg
      · rw [hagg] at h
        simp only [Bool.false_eq_true, if_false] at h ⊢
        obtain ⟨c, e, fr, g1, g2, g3, g4, _⟩ := hr.row hq e3
        obtain ⟨v', k1, k2⟩ := g4 _ _ h
        refine ⟨v', ?_, k2⟩
        have : w.cell? ⟨q.blk, q.d + o, none⟩ = some v' := by rw [cell_of g1]; exact k1
        simp [run_load, this]
      · rw [hagg] at h
        simp only [if_true] at h ⊢
        split at h
        · rename_i hlen
          cases h
          obtain ⟨cs, k1, k2, k3⟩ := hr.cellsAt hq e3 hlen
          refine ⟨.agg cs.toArray, ?_, .agg _ _ k3.1 k3.2⟩
          simp only [run_sizeOf' ht, Result.andThen_ok, Sem.run_bind]
          rw [← k1, run_loadCells_list w _ cs k2]
          simp
        · cases h
  · cases h

/-! ### stores -/
def setA : Array Value → Nat → List Value → Array Value
  | c, _, [] => c
  | c, o, v :: r => setA (c.setIfInBounds o v) (o + 1) r
theorem setA_size : ∀ (vs : List Value) (c : Array Value) (o : Nat), (setA c o vs).size = c.size
  | [], _, _ => rfl
  | v :: r, c, o => by simp [setA, setA_size r]
theorem setA_out : ∀ (vs : List Value) (c : Array Value) (o k : Nat), k < o ∨ o + vs.length ≤ k → (setA c o vs)[k]? = c[k]?
  | [], _, _, _, _ => rfl
  | v :: r, c, o, k, h => by
    simp only [List.length_cons] at h
    rw [setA, setA_out r _ _ _ (by omega), Array.getElem?_setIfInBounds_ne (by omega)]
theorem setA_in : ∀ (vs : List Value) (c : Array Value) (o k : Nat), k < vs.length → o + vs.length ≤ c.size → (setA c o vs)[o + k]? = vs[k]?
  | v :: r, c, o, 0, _, h => by
    simp only [List.length_cons] at h
    show (setA c o (v :: r))[o]? = some v
    rw [setA, setA_out r _ _ _ (by omega), Array.getElem?_setIfInBounds_self, if_pos (by omega)]
  | v :: r, c, o, k + 1, hk, h => by
    simp only [List.length_cons] at h hk
    rw [setA, show o + (k + 1) = o + 1 + k by omega, setA_in r _ _ _ (by omega) (by simp; omega)]
    rfl
theorem setCells_heap (B : Nat) : ∀ (vs : List Value) (o : Nat) (w : World) (c : Array Value) (e : TypeId) (fr : Nat × Nat), w.heap[B]? = some (.cells c e fr) →
    (w.setCells B o vs).heap = w.heap.setIfInBounds B (.cells (setA c o vs) e fr)
  | [], o, w, c, e, fr, h => by
    simp only [World.setCells, setA]
    apply Array.ext_getElem?
    intro i
    by_cases hi : B = i
    · subst hi; rw [h, Array.getElem?_setIfInBounds_self, if_pos (Array.getElem?_eq_some_iff.1 h).1]
    · rw [Array.getElem?_setIfInBounds_ne hi]
  | v :: r, o, w, c, e, fr, h => by
    have hlt := (Array.getElem?_eq_some_iff.1 h).1
    have h1 : (w.setCell ⟨B, o, none⟩ v).heap = w.heap.setIfInBounds B (.cells (c.setIfInBounds o v) e fr) := by
      apply Array.ext_getElem?
      intro i
      simp only [World.setCell, Array.getElem?_modify]
      by_cases hi : B = i
      · subst hi; rw [Array.getElem?_setIfInBounds_self, if_pos rfl, if_pos hlt, h]; rfl
      · rw [Array.getElem?_setIfInBounds_ne hi, if_neg hi]
    rw [World.setCells, setCells_heap B r (o + 1) _ (c.setIfInBounds o v) e fr (by rw [h1]; simp [hlt]), h1, setA]
    simp
theorem vr_one {a : AV} {v : Value} (h : VR φ a v) (h1 : a.one = true) : v.oneCell' = true := by
  cases h <;> simp [AV.one] at h1 <;> rfl
theorem er_one {l : List AV} {vs : List Value} (h : ER φ l vs.toArray) (h1 : l.all AV.one = true) : ∀ v ∈ vs, v.oneCell' = true := by
  intro v hv
  obtain ⟨i, hi⟩ := List.getElem?_of_mem hv
  have hl : i < l.length := by
    have := (List.getElem?_eq_some_iff.1 hi).1
    have := h.1; simp at this; omega
  have := h.2 i l[i] v (by simp [hl]) (by simpa using hi)
  exact vr_one this (List.all_eq_true.1 h1 _ (List.getElem_mem hl))
theorem lr_splice {l xs : List AV} {c : Array Value} {d o : Nat} {vs : List Value} (h : LR φ l c d) (hx : ER φ xs vs.toArray) (ho : o + xs.length ≤ l.length) (hc : d + l.length ≤ c.size) :
    LR φ (splice l o xs) (setA c (d + o) vs) d := by
  have hlen : xs.length = vs.length := by have := hx.1; simpa using this
  intro i a hi
  unfold splice at hi
  rw [List.append_assoc] at hi
  by_cases h1 : i < o
  · rw [List.getElem?_append_left (by simp; omega), List.getElem?_take_of_lt h1] at hi
    rw [setA_out _ _ _ _ (by omega)]
    exact h i a hi
  · rw [List.getElem?_append_right (by simp; omega)] at hi
    simp only [List.length_take] at hi
    rw [show i - min o l.length = i - o by omega] at hi
    by_cases h2 : i - o < xs.length
    · rw [List.getElem?_append_left h2] at hi
      refine ⟨vs[i - o], ?_, hx.2 _ _ _ hi (by simp [hlen ▸ h2])⟩
      have := setA_in vs c (d + o) (i - o) (by omega) (by omega)
      rw [show d + o + (i - o) = d + i by omega] at this
      rw [this]; simp [hlen ▸ h2]
    · rw [List.getElem?_append_right (by omega), List.getElem?_drop] at hi
      rw [show o + xs.length + (i - o - xs.length) = i by omega] at hi
      rw [setA_out _ _ _ _ (by omega)]
      exact h i a hi
theorem splice_len {l xs : List AV} {o : Nat} (ho : o + xs.length ≤ l.length) : (splice l o xs).length = l.length := by
  simp [splice]; omega

theorem str_setCells : ∀ (vs : List Value) (b o : Nat) (w : World), Str w (w.setCells b o vs)
  | [], b, o, w => .refl w
  | v :: r, b, o, w => (Str.trans ⟨rfl, rfl, rfl⟩ (str_setCells r b (o + 1) (w.setCell ⟨b, o, none⟩ v)))
/-- Some cells of an own block are written. -/
theorem Rel.store (hr : Rel φ H w.heap) {b o : Nat} {p : PL} {l xs : List AV} {vs : List Value} (hp : φ b = some p) (hl : H[b]? = some (.cells l .rw)) (hx : ER φ xs vs.toArray) (ho : o + xs.length ≤ l.length)
    (h1 : xs.all AV.one = true) : ∃ w', (storeCells ⟨p.blk, p.d + o, none⟩ vs).run P w = .ok () w' ∧ SimW φ H w φ (H.set b (.cells (splice l o xs) .rw)) w' := by
  obtain ⟨c, e, fr, g1, g2, g3, g4, g5⟩ := hr.row hp hl
  have hlen : xs.length = vs.length := by have := hx.1; simpa using this
  refine ⟨w.setCells p.blk (p.d + o) vs, ?_, ?_⟩
  · have := run_storeCells_cells (P := P) p.blk (p.d + o) vs 0 w (fun j hj => by
        rw [cell_of g1]
        have : p.d + o + 0 + j < c.size := by omega
        rw [Array.getElem?_eq_getElem this]; rfl) (fun j hj => frozen_of g1 (g5 rfl) (by omega)) (er_one hx h1)
    exact this
  · refine ⟨?_, str_setCells _ _ _ _⟩
    rw [setCells_heap _ _ _ _ _ _ _ g1]
    refine Sim.write hr hp hl rfl g1 (fun c1 e1 fr1 q => by cases q; exact ⟨_, _, _, rfl, setA_size _ _ _⟩) ?_ (.inl rfl)
    exact .cells _ _ _ _ _ ((setA_size _ _ _).trans g2) (by rw [splice_len ho]; exact g3) (lr_splice g4 hx ho (by omega)) g5 (fun q => by cases q)

theorem sound_store (hg : TyAgree P ap) (hr : Rel φ H w.heap) {t lo : Nat} {p v : AV} {x y : Value} (hx : VR φ p x) (hy : VR φ v y) {H' : AH} (h : astore ap lo H t p v = some H') :
    ∃ w', (Instr.storeAt t x y).run P w = .ok () w' ∧ SimW φ H w φ H' w' := by
  unfold astore at h
  split at h
  · rename_i b o
    obtain ⟨ti, e1, h⟩ := Option.bind_eq_some_iff.1 h
    obtain ⟨cs, e2, h⟩ := Option.bind_eq_some_iff.1 h
    obtain ⟨l, e3, h⟩ := Option.bind_eq_some_iff.1 h
    obtain ⟨i, d, z, ht⟩ := hg.get e1
    split at h
    · rename_i hc
      cases h
      cases hx with
      | ptr _ _ q hq =>
        have hcs := vr_cells hy e2
        obtain ⟨w', k1, k2⟩ := hr.store (P := P) hq (rowRw_some e3).1 (vs := y.cells.toList) (by simpa using hcs) hc.2.1 hc.2.2
        refine ⟨w', ?_, k2⟩
        have hsz : y.cells.size = ti.sz := by rw [← hcs.1]; exact hc.1
        simp [Instr.storeAt, Instr.sureAddr, storeVar, run_sizeOf' ht, hsz, k1]
    · cases h
  · cases h

/-! ### what is made -/
theorem alloc_cells {hp : Array Obj} (hr : Rel φ H hp) {l : List AV} {c : Array Value} {e : TypeId} {fr : Nat × Nat} {R : Nat} (hR : c.size = R) (hl : l.length ≤ R) (h : LR φ l c 0) (hf : fr.1 = fr.2 ∨ R ≤ fr.1) :
    Sim φ H hp (upd φ H.length ⟨hp.size, 0, R⟩) (H ++ [.cells l .rw]) (hp.push (.cells c e fr)) :=
  Sim.alloc hr (.cells l .rw c e fr hR (by simpa using hl) (h.mono (hr.upd_le _)) (fun _ => hf) (fun q => by cases q))
theorem alloc_plain {hp : Array Obj} (hr : Rel φ H hp) {l : List AV} {c : Array Value} {e : TypeId} {fr : Nat × Nat} {R : Nat} (md : Md) (hR : c.size = R) (hl : l.length ≤ R) (h : LR φ l c 0) (hf : fr.1 = fr.2) :
    Sim φ H hp (upd φ H.length ⟨hp.size, 0, R⟩) (H ++ [.cells l md]) (hp.push (.cells c e fr)) :=
  Sim.alloc hr (.cells l md c e fr hR (by simpa using hl) (h.mono (hr.upd_le _)) (fun _ => .inl hf) (fun _ => hf))
theorem upd_self (φ : Inj) (b : Nat) (p : PL) : upd φ b p b = some p := by simp [upd]
theorem vr_newptr {hp : Array Obj} (b : Nat) (p : PL) (h0 : p.d = 0) : VR (upd φ b p) (.ptr (some (b, 0))) (.pointer (some ⟨p.blk, 0, none⟩)) := by
  have := VR.ptr (φ := upd φ b p) b 0 p (upd_self _ _ _)
  rwa [h0] at this

theorem sound_alloc (hg : TyAgree P ap) (hr : Rel φ H w.heap) {t : Nat} {ti : TI} (h : ap.ty t = some ti) :
    ∃ v' w' φ', (Instr.alloc t true (.tuple #[])).run P w = .ok v' w' ∧ SimW φ H w φ' (H ++ [.cells ti.zero .rw]) w' ∧ VR φ' (.ptr (some (H.length, 0))) v' := by
  obtain ⟨i, d, z, ht⟩ := hg.get h
  have hz := er_ofS φ z.cells
  refine ⟨.pointer (some ⟨w.heap.size, 0, none⟩), w.alloc (.cells z.cells t), upd φ H.length ⟨w.heap.size, 0, z.cells.size⟩, ?_, ?_, vr_newptr (hp := w.heap) H.length ⟨w.heap.size, 0, z.cells.size⟩ rfl⟩
  · simp [Instr.alloc, zeroValue, typeInfo, ht.hi, ht.hz, newVar, newRow]
  · rw [ht.zero]
    exact ⟨alloc_cells hr rfl (by simp) (hz.lr) (.inl rfl), ⟨rfl, rfl, rfl⟩⟩
theorem sound_box (hr : Rel φ H w.heap) {t : Nat} {v : AV} {x : Value} (hx : VR φ v x) {cs : List AV} (h : v.cells = some cs) :
    ∃ v' w' φ', (Instr.box t x).run P w = .ok v' w' ∧ SimW φ H w φ' (H ++ [.cells cs .rw]) w' ∧ VR φ' (.ptr (some (H.length, 0))) v' := by
  have hcs := vr_cells hx h
  refine ⟨.pointer (some ⟨w.heap.size, 0, none⟩), w.alloc (.cells x.cells t), upd φ H.length ⟨w.heap.size, 0, x.cells.size⟩, ?_, ?_, vr_newptr (hp := w.heap) H.length ⟨w.heap.size, 0, x.cells.size⟩ rfl⟩
  · simp [Instr.box, newVar, newRow]
  · exact ⟨alloc_cells hr rfl (by have := hcs.1; omega) hcs.lr (.inl rfl), ⟨rfl, rfl, rfl⟩⟩
end
end Go.Ab
end
section
/-! Further operations. -/
set_option linter.unusedVariables false
set_option linter.unusedSimpArgs false
namespace Go.Ab
section
variable {P : Program} {ap : AP} {φ : Inj} {H : AH} {w : World}

theorem er_splice {l xs : List AV} {c : Array Value} {o : Nat} {vs : List Value} (h : ER φ l c) (hx : ER φ xs vs.toArray) (ho : o + xs.length ≤ l.length) : ER φ (splice l o xs) (setA c o vs) := by
  have h1 := lr_splice (d := 0) h.lr hx ho (by have := h.1; omega)
  rw [Nat.zero_add] at h1
  refine ⟨by rw [splice_len ho, setA_size]; exact h.1, fun i a v e1 e2 => ?_⟩
  obtain ⟨v', k1, k2⟩ := h1 i a e1
  rw [Nat.zero_add, e2] at k1
  cases k1; exact k2
theorem foldl_setA (off : Nat) : ∀ (l : List Value) (k : Nat) (c : Array Value), (l.zipIdx k).foldl (fun cs x => cs.setIfInBounds (off + x.2) x.1) c = setA c (off + k) l
  | [], _, _ => rfl
  | v :: r, k, c => by
    rw [List.zipIdx_cons, List.foldl_cons, foldl_setA off r (k + 1), setA, Nat.add_assoc]
theorem fill_step (cells : Array Value) (off : Nat) (v : Value) : v.cells.zipIdx.foldl (fun cs (x : Value × Nat) => cs.setIfInBounds (off + x.2) x.1) cells = setA cells off v.cells.toList := by
  rw [← Array.foldl_toList, Array.toList_zipIdx]
  exact foldl_setA off v.cells.toList 0 cells
theorem fill_sound {place place' : Nat → Option (Nat × Nat)} {env : List AV} {a : Act} (he : ER φ env a.tmps) (hp : ∀ i q, place i = some q → place' i = some q) :
    ∀ (ps : List (Nat × Operand)) (l cs : List AV) (c : Array Value), ER φ l c → afill place l (ps.map fun p => (p.1, opd env p.2)) = some cs →
      ∃ c', Instr.fill place' c (ps.map fun p => (p.1, a.eval p.2)) = some c' ∧ ER φ cs c'
  | [], l, cs, c, hc, h => by
    simp only [List.map_nil, afill] at h
    cases h
    exact ⟨c, rfl, hc⟩
  | (i, x) :: r, l, cs, c, hc, h => by
    simp only [List.map_cons, afill] at h
    obtain ⟨q, e1, h⟩ := Option.bind_eq_some_iff.1 h
    obtain ⟨ks, e2, h⟩ := Option.bind_eq_some_iff.1 h
    split at h
    · rename_i hq
      have hk := vr_cells (vr_opd he x) e2
      have hs := er_splice (vs := (a.eval x).cells.toList) hc (by simpa using hk) hq.2
      obtain ⟨c', k1, k2⟩ := fill_sound he hp r _ cs _ hs h
      refine ⟨c', ?_, k2⟩
      have h1 := hc.1
      have h2 := hk.1
      simp only [List.map_cons, Instr.fill, hp i q e1]
      rw [if_neg (by simp; omega), fill_step]
      exact k1
    · cases h


theorem flat_get (zl : List AV) : ∀ (n i : Nat), i < n * zl.length → (List.replicate n zl).flatten[i]? = zl[i % zl.length]?
  | 0, i, h => by simp at h
  | n + 1, i, h => by
    rw [List.replicate_succ, List.flatten_cons]
    by_cases hi : i < zl.length
    · rw [List.getElem?_append_left hi, Nat.mod_eq_of_lt hi]
    · rw [List.getElem?_append_right (by omega), flat_get zl n _ (by rw [Nat.succ_mul] at h; omega)]
      congr 1
      conv => rhs; rw [show i = (i - zl.length) + zl.length by omega, Nat.add_mod_right]
theorem flat_len (zl : List AV) (n : Nat) : (List.replicate n zl).flatten.length = n * zl.length := by simp
theorem er_zeros (φ : Inj) (zc : Array Value) (n m : Nat) (hm : m = n * zc.size) : ER φ (List.replicate n (zc.toList.map ofS)).flatten ((Array.range m).map (zc[· % zc.size]!)) := by
  refine ⟨by simp [hm], fun i a v h1 h2 => ?_⟩
  have hi : i < m := by
    have := (Array.getElem?_eq_some_iff.1 h2).1
    simpa using this
  rw [flat_get _ _ _ (by simpa [hm] using hi)] at h1
  simp only [List.length_map, Array.length_toList] at h1
  have hz : 0 < zc.size := by
    rcases Nat.eq_zero_or_pos zc.size with e | e
    · rw [e] at hm; omega
    · exact e
  have hlt : i % zc.size < zc.size := Nat.mod_lt _ hz
  rw [Array.getElem?_map] at h2
  simp [hi, hlt] at h2
  rw [List.getElem?_map] at h1
  simp [hlt] at h1
  subst h1; subst h2
  exact vr_ofS φ _

theorem parts_list (a : Act) (parts : Array (Nat × Operand)) : (parts.map fun (i, x) => (i, a.eval x)).toList = parts.toList.map fun p => (p.1, a.eval p.2) := by
  rw [Array.toList_map]
theorem mapM_some {α β : Type} (f : α → Option β) (g : α → β) : ∀ (l : List α), (∀ x ∈ l, f x = some (g x)) → l.mapM f = some (l.map g)
  | [], _ => rfl
  | x :: r, h => by
    rw [List.mapM_cons, h x (by simp), mapM_some f g r (fun y hy => h y (by simp [hy]))]
    rfl

theorem sound_build (hg : TyAgree P ap) (hr : Rel φ H w.heap) {env : List AV} {a : Act} (he : ER φ env a.tmps) {t lo : Nat} {parts : Array (Nat × Operand)} {v : AV} {H' : AH}
    (h : aop ap lo env H (.build t parts) = some (v, H')) :
    H' = H ∧ ∃ v', (Instr.build t (parts.map fun (i, x) => (i, a.eval x))).run P w = .ok v' w ∧ VR φ v v' := by
  simp only [aop] at h
  obtain ⟨ti, e1, h⟩ := Option.bind_eq_some_iff.1 h
  obtain ⟨i, d, z, ht⟩ := hg.get e1
  have hz := er_ofS φ z.cells
  rw [← ht.zero] at hz
  cases htd : ti.td <;> rw [htd] at h <;> try (cases h; done)
  case struct fs =>
    simp only at h
    split at h
    · cases h
    · rename_i hall
      obtain ⟨cs, e2, h⟩ := Option.map_eq_some_iff.1 h
      cases h
      refine ⟨rfl, ?_⟩
      have hd := ht.td
      rw [htd] at hd
      cases d <;> simp only [tdOf] at hd <;> try (cases hd; done)
      rename_i fields
      split at hd
      · cases hd
        have hplaces : fields.toList.mapM (fun f => (P.info? f.type).map fun i => (f.offset, i.size)) = some (fields.toList.map fun f => (f.offset, ((P.info? f.type).map (·.size)).getD 0)) := by
          refine mapM_some _ _ _ fun f hf => ?_
          have : (ap.ty f.type).isSome = true := by
            have h0 : List.all (List.map (fun f => (f.offset, f.type)) fields.toList) (fun f => (ap.ty f.2).isSome) = true := (Bool.not_eq_false _).mp hall
            exact List.all_eq_true.1 h0 (f.offset, f.type) (List.mem_map.2 ⟨f, hf, rfl⟩)
          obtain ⟨tf, etf⟩ := Option.isSome_iff_exists.1 this
          obtain ⟨i1, d1, z1, ht1⟩ := hg.get etf
          simp [ht1.hi]
        obtain ⟨c', k1, k2⟩ := fill_sound (place' := ((fields.toList.map fun f => (f.offset, ((P.info? f.type).map (·.size)).getD 0)).toArray[·]?)) he (fun i q hq => by
          obtain ⟨fd, f1, f2⟩ := Option.bind_eq_some_iff.1 hq
          obtain ⟨tf, f3, f4⟩ := Option.map_eq_some_iff.1 f2
          obtain ⟨i1, d1, z1, ht1⟩ := hg.get f3
          rw [List.getElem?_map] at f1
          obtain ⟨fl, g1, g2⟩ := Option.map_eq_some_iff.1 f1
          subst g2
          subst f4
          rw [List.getElem?_toArray, List.getElem?_map, g1]
          simp [ht1.hi, ht1.sz]) parts.toList ti.zero cs z.cells hz e2
        refine ⟨.agg c', run_build w t _ c' ?_, .agg _ _ k2.1 k2.2⟩
        rw [parts_list]
        simp only [Program.built, ht.hi, ht.hd, ht.hz, hplaces]
        exact k1
      · cases hd
  case array n e =>
    simp only at h
    obtain ⟨te, e3, h⟩ := Option.bind_eq_some_iff.1 h
    obtain ⟨cs, e2, h⟩ := Option.map_eq_some_iff.1 h
    cases h
    refine ⟨rfl, ?_⟩
    obtain ⟨i1, d1, z1, ht1⟩ := hg.get e3
    have hd := ht.td
    rw [htd] at hd
    cases d <;> simp only [tdOf] at hd <;> try (cases hd; done)
    · cases hd
      obtain ⟨c', k1, k2⟩ := fill_sound (place' := fun i => some (i * i1.size, i1.size)) he (fun i q hq => by rw [ht1.sz] at hq; exact hq) parts.toList ti.zero cs z.cells hz e2
      refine ⟨.agg c', run_build w t _ c' ?_, .agg _ _ k2.1 k2.2⟩
      rw [parts_list]
      simp only [Program.built, ht.hi, ht.hd, ht.hz, ht1.hi]
      exact k1
    · split at hd <;> cases hd

theorem td_slice {P : Program} {t : Nat} {ti : TI} {i : TypeInfo} {d : TypeDesc} {z : Value} (h : TyOk P t ti i d z) {e : Nat} (he : ti.td = .slice e) : P.underlying t = some (.slice e) := by
  have hd := h.td
  rw [he] at hd
  rw [h.hd]
  cases d <;> simp only [tdOf] at hd <;> first | (cases hd; done) | (cases hd; rfl) | (split at hd <;> cases hd)

theorem sound_buildSlice (hg : TyAgree P ap) (hr : Rel φ H w.heap) {env : List AV} {a : Act} (he : ER φ env a.tmps) {t len lo : Nat} {parts : Array (Nat × Operand)} {v : AV} {H' : AH}
    (h : aop ap lo env H (.buildSlice t len parts) = some (v, H')) :
    ∃ v' w' φ', (Instr.buildSlice t len (parts.map fun (i, x) => (i, a.eval x))).run P w = .ok v' w' ∧ SimW φ H w φ' H' w' ∧ VR φ' v v' := by
  simp only [aop] at h
  obtain ⟨ti, e1, h⟩ := Option.bind_eq_some_iff.1 h
  obtain ⟨i, d, z, ht⟩ := hg.get e1
  cases htd : ti.td <;> rw [htd] at h <;> try (cases h; done)
  rename_i e
  simp only at h
  obtain ⟨te, e3, h⟩ := Option.bind_eq_some_iff.1 h
  obtain ⟨i1, d1, z1, ht1⟩ := hg.get e3
  split at h
  · cases h
  · rename_i hsz
    obtain ⟨cs, e2, h⟩ := Option.map_eq_some_iff.1 h
    cases h
    have hs := ht1.sz
    obtain ⟨c', k1, k2⟩ := fill_sound (place' := fun i => some (i * i1.size, i1.size)) he (fun i q hq => by rw [ht1.sz] at hq; exact hq) parts.toList _ cs ((Array.range (len * i1.size)).map (z1.cells[· % z1.cells.size]!))
      (by rw [ht1.zero]; exact er_zeros φ z1.cells len _ (by rw [ht1.zs])) e2
    have hlen : cs.length = len * i1.size := by
      have h1 := k2.1
      have : ∀ (ps : List (Nat × Value)) (c c' : Array Value), Instr.fill (fun i => some (i * i1.size, i1.size)) c ps = some c' → c'.size = c.size := by
        intro ps
        induction ps with
        | nil => intro c c' h; simp only [Instr.fill] at h; cases h; rfl
        | cons p r ih =>
          intro c c' h
          obtain ⟨j, x⟩ := p
          simp only [Instr.fill] at h
          split at h
          · cases h
          · rw [ih _ _ h, fill_step, setA_size]
      rw [this _ _ _ k1] at h1
      simpa using h1
    refine ⟨.slice (some ⟨w.heap.size, 0, none⟩) len len, w.alloc (.cells c' e), upd φ H.length ⟨w.heap.size, 0, c'.size⟩, ?_, ⟨alloc_plain hr _ rfl (by have := k2.1; omega) k2.lr rfl, ⟨rfl, rfl, rfl⟩⟩, ?_⟩
    · rw [← parts_list] at k1
      by_cases h0 : len * i1.size = 0
      · have k1' : Instr.fill (fun i => some (i * i1.size, i1.size)) #[] (parts.map fun (i, x) => (i, a.eval x)).toList = some c' := by
          rw [h0, show Array.map (fun x => z1.cells[x % z1.cells.size]!) (Array.range 0) = #[] from Array.eq_empty_of_size_eq_zero (by simp)] at k1
          exact k1
        simp only [parts_list] at k1'
        have hm : ∀ f : Nat → Value, Array.map f (Array.range 0) = #[] := fun f => Array.eq_empty_of_size_eq_zero (by simp)
        simp [Instr.buildSlice, run_underlying (td_slice ht htd), sizeOf, typeInfo, zeroValue, ht1.hi, h0, hm, k1', newRow]
      · exact run_buildSlice w t e len _ c' i1 z1 (td_slice ht htd) ht1.hi ht1.hz (by rw [← hs]; omega) h0 k1
    · have hc : c'.size = len * i1.size := by rw [← k2.1]; exact hlen
      refine .slice _ _ _ _ _ ⟨w.heap.size, 0, c'.size⟩ _ _ (upd_self _ _ _) (.inl rfl) (Nat.le_refl _) ?_ (.inl ⟨len, rfl, rfl⟩)
      show 0 + 0 + len * te.sz ≤ c'.size
      rw [hc, hs]; omega
end
end Go.Ab
end
section
/-! Slices, fields, elements, what is made. -/
set_option linter.unusedVariables false
set_option linter.unusedSimpArgs false
namespace Go.Ab
section
variable {P : Program} {ap : AP} {φ : Inj} {H : AH} {w : World}

theorem run_bound {x : AV} {x' : Value} {y n : Nat} (hx : VR φ x x') (c : BoundsCode) (w : World) (h : abound y x = some n) : (Instr.sliceBound x' y c).run P w = .ok n w ∧ n ≤ y := by
  cases hx <;> simp only [abound] at h <;> try (cases h; done)
  split at h
  · rename_i hc
    cases h
    refine ⟨?_, by omega⟩
    simp [Instr.sliceBound, asIntOf, hc]
  · cases h
/-- A bound that may be left out. -/
theorem run_obound {x : Option AV} {x' : Option Value} {y n d : Nat} (h : (match x with | some v => abound y v | none => some d) = some n) (hx : Option.Rel (VR φ) x x') :
    (∀ v, x' = some v → ∀ (c : BoundsCode) (w : World), (Instr.sliceBound v y c).run P w = .ok n w ∧ n ≤ y) ∧ (x' = none → n = d) := by
  cases hx with
  | none => simp at h; subst h; exact ⟨fun v e => (by cases e), fun _ => rfl⟩
  | some hv => exact ⟨fun v e c w => (by cases e; exact run_bound hv c w h), fun e => (by cases e)⟩
theorem rel_opt {env : List AV} {a : Act} (he : ER φ env a.tmps) (x : Option Operand) : Option.Rel (VR φ) (optAll env x) (x.map a.eval) := by
  cases x with
  | none => exact .none
  | some x => exact .some (vr_opd he x)

theorem addr_add2 (B o n : Nat) : Addr.add ⟨B, o, none⟩ n = ⟨B, o + n, none⟩ := addr_add B o n
theorem mulsub {a b c : Nat} (h : b ≤ a) : b * c + (a - b) * c = a * c := by rw [← Nat.add_mul]; congr 1; omega
/-- A slice of a slice. -/
theorem vr_cut {b o len sz : Nat} {cap : Option Nat} {p : PL} {a' : Addr} {cap' : Nat} (h : φ b = some p) (ha : a' = ⟨p.blk, p.d + o, none⟩ ∨ cap' = 0)
    (hR : p.d + o + cap' * sz ≤ p.R) {l k m : Nat} {cap2 : Option Nat} (hl : l ≤ k) (hk : k ≤ m) (hm : m ≤ cap')
    (hc : cap2 = some (m - l) ∨ (cap2 = none ∧ m = cap' ∧ p.d + o + cap' * sz = p.R)) :
    VR φ (.slice (some (b, o + l * sz)) (k - l) cap2 sz) (.slice (if m = l then some a' else some (a'.add (l * sz))) (k - l) (m - l)) := by
  have e1 : (if m = l then some a' else some (a'.add (l * sz))) = some (if m = l then a' else a'.add (l * sz)) := by split <;> rfl
  rw [e1]
  have g1 := mulsub (c := sz) (show l ≤ m by omega)
  have g2 : m * sz ≤ cap' * sz := Nat.mul_le_mul_right _ hm
  refine .slice b _ _ _ _ p _ _ h ?_ (by omega) (by omega) ?_
  · by_cases hml : m = l
    · exact .inr (by omega)
    · rw [if_neg hml]
      rcases ha with rfl | ha
      · exact .inl (by rw [addr_add, Nat.add_assoc])
      · omega
  · rcases hc with rfl | ⟨rfl, rfl, hc⟩
    · exact .inl ⟨_, rfl, rfl⟩
    · exact .inr ⟨rfl, by omega⟩

theorem bd {x : Option AV} {y d n : Nat} (h : (match x with | some v => abound y v | none => some d) = some n) : (x = none ∧ n = d) ∨ (∃ v, x = some v ∧ abound y v = some n) := by
  cases x with
  | none => simp at h; exact .inl ⟨rfl, h.symm⟩
  | some v => exact .inr ⟨v, rfl, h⟩

theorem str_slice (s : ByteArray) {low high : Option AV} {low' high' : Option Value} (hlo : Option.Rel (VR φ) low low') (hhi : Option.Rel (VR φ) high high') {t : Nat} (ht : P.underlying t = some .string)
    {sz : Nat} {v : AV} (h : aslice H sz (.str s) low high none = some v) (w : World) : ∃ v', (Instr.slice t (.string s) low' high' none).run P w = .ok v' w ∧ VR φ v v' := by
  simp only [aslice] at h
  obtain ⟨k, e1, h⟩ := Option.bind_eq_some_iff.1 h
  obtain ⟨l, e2, h⟩ := Option.bind_eq_some_iff.1 h
  cases h
  refine ⟨.string (s.extract l k), ?_, .str _⟩
  cases hhi with
  | none =>
    simp at e1; subst e1
    cases hlo with
    | none => simp at e2; subst e2; simp [Instr.slice, run_underlying ht, Instr.sliceBounds]
    | some hv => simp [Instr.slice, run_underlying ht, Instr.sliceBounds, (run_bound (P := P) hv _ w e2).1]
  | some hv1 =>
    have q1 := fun c => (run_bound (P := P) hv1 c w e1).1
    cases hlo with
    | none => simp at e2; subst e2; simp [Instr.slice, run_underlying ht, Instr.sliceBounds, q1]
    | some hv => simp [Instr.slice, run_underlying ht, Instr.sliceBounds, q1, (run_bound (P := P) hv _ w e2).1]

theorem sl_slice (hg : TyAgree P ap) (hr : Rel φ H w.heap) {x : AV} {x' : Value} (hx : VR φ x x') (hxs : isSlice x = true) {low high mx : Option AV} {low' high' mx' : Option Value} (hlo : Option.Rel (VR φ) low low') (hhi : Option.Rel (VR φ) high high')
    (hmx : Option.Rel (VR φ) mx mx') {t e : Nat} {te : TI} (ht : P.underlying t = some (.slice e)) (hte : ap.ty e = some te) (hs : 0 < te.sz) {v : AV} (h : aslice H te.sz x low high mx = some v) :
    ∃ v', (Instr.slice t x' low' high' mx').run P w = .ok v' w ∧ VR φ v v' := by
  obtain ⟨i1, d1, z1, ht1⟩ := hg.get hte
  have hsz := run_sizeOf' ht1 w
  cases hx <;> simp [isSlice] at hxs
  · -- nil
    simp only [aslice] at h
    obtain ⟨m, e1, h⟩ := Option.bind_eq_some_iff.1 h
    obtain ⟨k, e2, h⟩ := Option.bind_eq_some_iff.1 h
    obtain ⟨l, e3, h⟩ := Option.bind_eq_some_iff.1 h
    split at h
    · cases h
    · rename_i hc
      simp at h
      subst h
      refine ⟨.slice none 0 0, ?_, .sliceN _ _⟩
      have b0 : ∀ {x : Option AV} {x' : Option Value} {n : Nat}, (match x with | some v => abound 0 v | none => some 0) = some n → Option.Rel (VR φ) x x' → ∀ v, x' = some v → ∀ (c : BoundsCode), (Instr.sliceBound v 0 c).run P w = .ok 0 w := by
        intro x x' n hh hrel v hv c
        have := (run_obound (P := P) hh hrel).1 v hv c w
        rw [show n = 0 by omega] at this
        exact this.1
      have q1 := b0 e1 hmx
      have q2 := b0 e2 hhi
      have q3 := b0 e3 hlo
      cases hmx with
      | none =>
        cases hhi with
        | none => cases hlo with
          | none => simp [Instr.slice, run_underlying ht, Instr.sliceBounds, hsz]
          | some => simp [Instr.slice, run_underlying ht, Instr.sliceBounds, hsz, q3 _ rfl]
        | some => cases hlo with
          | none => simp [Instr.slice, run_underlying ht, Instr.sliceBounds, hsz, q2 _ rfl]
          | some => simp [Instr.slice, run_underlying ht, Instr.sliceBounds, hsz, q2 _ rfl, q3 _ rfl]
      | some =>
        cases hhi with
        | none => simp at hc
        | some => cases hlo with
          | none => simp [Instr.slice, run_underlying ht, Instr.sliceBounds, hsz, q1 _ rfl, q2 _ rfl]
          | some => simp [Instr.slice, run_underlying ht, Instr.sliceBounds, hsz, q1 _ rfl, q2 _ rfl, q3 _ rfl]
  · -- a slice
    rename_i b o len cap sz p a' cap' hp ha hl hR hc
    simp only [aslice] at h
    split at h
    · cases h
    · rename_i hsz0
      have hsz0 : sz = te.sz := by simpa using hsz0
      subst hsz0
      cases hmx with
      | none =>
        cases hhi with
        | none =>
          simp only at h
          obtain ⟨l, e3, h⟩ := Option.bind_eq_some_iff.1 h
          cases h
          have hll : l ≤ len := by
            rcases bd e3 with ⟨_, rfl⟩ | ⟨v, rfl, hv⟩
            · omega
            · cases hlo with | some hv' => exact (run_bound (P := P) hv' .sliceB w hv).2
          refine ⟨_, ?_, vr_cut (len := len) (cap := cap) hp ha hR hll hl (Nat.le_refl cap') ?_⟩
          · cases hlo with
            | none => simp at e3; subst e3; simp [Instr.slice, run_underlying ht, Instr.sliceBounds, hsz]
            | some hv => simp [Instr.slice, run_underlying ht, Instr.sliceBounds, hsz, (run_bound (P := P) hv _ w e3).1]
          · rcases hc with ⟨c, rfl, rfl⟩ | ⟨rfl, hc⟩
            · exact .inl rfl
            · exact .inr ⟨rfl, rfl, hc⟩
        | some hv1 =>
          rename_i A1 V1
          simp only at h
          obtain ⟨k, e2, h⟩ := Option.bind_eq_some_iff.1 h
          obtain ⟨l, e3, h⟩ := Option.bind_eq_some_iff.1 h
          cases h
          have hk : (∀ c, (Instr.sliceBound V1 cap' c).run P w = .ok k w) ∧ k ≤ cap' := by
            rcases hc with ⟨c, rfl, rfl⟩ | ⟨rfl, hc⟩
            · exact ⟨fun c => (run_bound (P := P) hv1 c w e2).1, (run_bound (P := P) hv1 .index w e2).2⟩
            · have lift : ∀ {y : Nat}, abound y A1 = some k → k ≤ cap' → ∀ c, (Instr.sliceBound V1 cap' c).run P w = .ok k w := by
                intro y hy hky c
                refine (run_bound (P := P) hv1 c w ?_).1
                cases hv1 <;> simp only [abound] at hy ⊢ <;> try (cases hy; done)
                split at hy
                · cases hy; rw [if_pos (by omega)]
                · cases hy
              simp only at e2
              cases e4 : abound len A1 with
              | some k' =>
                rw [e4] at e2
                simp at e2; subst e2
                have := (run_bound (P := P) hv1 .index w e4).2
                exact ⟨lift e4 (by omega), by omega⟩
              | none =>
                rw [e4] at e2
                simp only [Option.orElse] at e2
                obtain ⟨r, f1, e2⟩ := Option.bind_eq_some_iff.1 e2
                obtain ⟨k', f2, e2⟩ := Option.bind_eq_some_iff.1 e2
                split at e2
                · rename_i hkr
                  simp at e2; subst e2
                  obtain ⟨md, f3, _⟩ := rowOf_some f1
                  obtain ⟨c, e, fr, g1, g2, g3, g4, _⟩ := hr.row hp f3
                  have hle : k' ≤ cap' := by
                    have : k' * te.sz ≤ cap' * te.sz := by omega
                    exact Nat.le_of_mul_le_mul_right this hs
                  exact ⟨lift f2 hle, hle⟩
                · cases e2
          have hll : l ≤ k := by
            rcases bd e3 with ⟨_, rfl⟩ | ⟨v, rfl, hv⟩
            · omega
            · cases hlo with | some hv' => exact (run_bound (P := P) hv' .sliceB w hv).2
          refine ⟨_, ?_, vr_cut (len := len) (cap := cap) hp ha hR hll hk.2 (Nat.le_refl cap') ?_⟩
          · cases hlo with
            | none => simp at e3; subst e3; simp [Instr.slice, run_underlying ht, Instr.sliceBounds, hsz, hk.1]
            | some hv => simp [Instr.slice, run_underlying ht, Instr.sliceBounds, hsz, hk.1, (run_bound (P := P) hv _ w e3).1]
          · rcases hc with ⟨c, rfl, rfl⟩ | ⟨rfl, hc⟩
            · exact .inl rfl
            · exact .inr ⟨rfl, rfl, hc⟩
      | some hv0 =>
        rename_i A0 V0
        cases hhi with
        | none => cases h
        | some hv1 =>
          simp only at h
          obtain ⟨m, e1, h⟩ := Option.bind_eq_some_iff.1 h
          obtain ⟨k, e2, h⟩ := Option.bind_eq_some_iff.1 h
          obtain ⟨l, e3, h⟩ := Option.bind_eq_some_iff.1 h
          cases h
          have hm : (∀ c, (Instr.sliceBound V0 cap' c).run P w = .ok m w) ∧ m ≤ cap' := by
            rcases hc with ⟨c, rfl, rfl⟩ | ⟨rfl, hc⟩
            · exact ⟨fun c => (run_bound (P := P) hv0 c w e1).1, (run_bound (P := P) hv0 .index w e1).2⟩
            · simp only at e1
              have h1 := (run_bound (P := P) hv0 .index w e1).2
              refine ⟨fun c => (run_bound (P := P) hv0 c w ?_).1, by omega⟩
              cases hv0 <;> simp only [abound] at e1 ⊢ <;> try (cases e1; done)
              split at e1
              · cases e1; rw [if_pos (by omega)]
              · cases e1
          have hk := (run_bound (P := P) hv1 .slice3B w e2)
          have hll : l ≤ k := by
            rcases bd e3 with ⟨_, rfl⟩ | ⟨v, rfl, hv⟩
            · omega
            · cases hlo with | some hv' => exact (run_bound (P := P) hv' .sliceB w hv).2
          refine ⟨_, ?_, vr_cut (len := len) (cap := cap) hp ha hR hll hk.2 hm.2 (.inl rfl)⟩
          cases hlo with
          | none => simp at e3; subst e3; simp [Instr.slice, run_underlying ht, Instr.sliceBounds, hsz, hm.1, hk.1]
          | some hv => simp [Instr.slice, run_underlying ht, Instr.sliceBounds, hsz, hm.1, hk.1, (run_bound (P := P) hv _ w e3).1]
end
end Go.Ab
end
section
/-! Fields, elements, made slices, calls of what is built in. -/
set_option linter.unusedVariables false
set_option linter.unusedSimpArgs false
namespace Go.Ab
section
variable {P : Program} {ap : AP} {φ : Inj} {H : AH} {w : World}

theorem td_struct {t : Nat} {ti : TI} {i : TypeInfo} {d : TypeDesc} {z : Value} (h : TyOk P t ti i d z) {fs : List (Nat × Nat)} (he : ti.td = .struct fs) :
    ∃ fields, P.underlying t = some (.struct fields) ∧ fields.toList.map (fun f => (f.offset, f.type)) = fs ∧ ∀ f ∈ fields.toList, f.name ≠ "_" := by
  have hd := h.td
  rw [he] at hd
  rw [h.hd]
  cases d <;> simp only [tdOf] at hd <;> try (cases hd; done)
  rename_i fields
  split at hd
  · rename_i hall
    cases hd
    exact ⟨fields, rfl, rfl, fun f hf => by simpa using List.all_eq_true.1 hall f hf⟩
  · cases hd
theorem td_array {t : Nat} {ti : TI} {i : TypeInfo} {d : TypeDesc} {z : Value} (h : TyOk P t ti i d z) {n e : Nat} (he : ti.td = .array n e) : P.underlying t = some (.array n e) := by
  have hd := h.td
  rw [he] at hd
  rw [h.hd]
  cases d <;> simp only [tdOf] at hd <;> first | (cases hd; done) | (cases hd; rfl) | (split at hd <;> cases hd)
theorem td_string {t : Nat} {ti : TI} {i : TypeInfo} {d : TypeDesc} {z : Value} (h : TyOk P t ti i d z) (he : ti.td = .string) : P.underlying t = some .string := by
  have hd := h.td
  rw [he] at hd
  rw [h.hd]
  cases d <;> simp only [tdOf] at hd <;> first | (cases hd; done) | (cases hd; rfl) | (split at hd <;> cases hd)
theorem td_int {t : Nat} {ti : TI} {i : TypeInfo} {d : TypeDesc} {z : Value} (h : TyOk P t ti i d z) {k : IntKind} (he : ti.td = .int k) : P.underlying t = some (.int k) := by
  have hd := h.td
  rw [he] at hd
  rw [h.hd]
  cases d <;> simp only [tdOf] at hd <;> first | (cases hd; done) | (cases hd; rfl) | (split at hd <;> cases hd)

theorem sound_part (hg : TyAgree P ap) {t : Nat} {ti : TI} (ht : ap.ty t = some ti) {l : List AV} {c : Array Value} (h : ER φ l c) {o : Nat} {v : AV} (hp : Ab.part ti.td.isAgg ti.sz l o = some v) (w : World) :
    ∃ v', (Go.part t c o).run P w = .ok v' w ∧ VR φ v v' := by
  obtain ⟨i, d, z, hk⟩ := hg.get ht
  unfold Ab.part at hp
  cases hagg : ti.td.isAgg
  · rw [hagg] at hp
    simp only [Bool.false_eq_true, if_false] at hp
    obtain ⟨v', k1, k2⟩ := h.lr o v hp
    rw [Nat.zero_add] at k1
    refine ⟨v', ?_, k2⟩
    simp [Go.part, run_isAgg' hk, hagg, k1]
  · rw [hagg] at hp
    simp only [if_true] at hp
    split at hp
    · rename_i hlen
      cases hp
      have hsz := h.1
      refine ⟨.agg (c.extract o (o + ti.sz)), ?_, .agg _ _ ?_ ?_⟩
      · simp [Go.part, run_isAgg' hk, hagg, run_sizeOf' hk]
      · simp; omega
      · intro j a v h1 h2
        have hj : j < ti.sz := by
          have := (List.getElem?_eq_some_iff.1 h1).1
          simp at this; omega
        rw [List.getElem?_take_of_lt hj, List.getElem?_drop] at h1
        rw [Array.getElem?_extract] at h2
        split at h2
        · exact h.2 _ _ _ h1 h2
        · cases h2
    · cases hp

theorem sound_field (hg : TyAgree P ap) {t f lo : Nat} {env : List AV} {a : Act} (he : ER φ env a.tmps) {x : Operand} {v : AV} {H' : AH} (h : aop ap lo env H (.field t x f) = some (v, H')) (w : World) :
    H' = H ∧ ∃ v', (Instr.field t (a.eval x) f).run P w = .ok v' w ∧ VR φ v v' := by
  simp only [aop] at h
  obtain ⟨ti, e1, h⟩ := Option.bind_eq_some_iff.1 h
  obtain ⟨i, d, z, ht⟩ := hg.get e1
  have hx := vr_opd he x
  split at h
  · rename_i fs l htd hl
    obtain ⟨fd, e2, h⟩ := Option.bind_eq_some_iff.1 h
    obtain ⟨tf, e3, h⟩ := Option.bind_eq_some_iff.1 h
    obtain ⟨v1, e4, h⟩ := Option.map_eq_some_iff.1 h
    cases h
    obtain ⟨fields, f1, f2, _⟩ := td_struct ht htd
    rw [hl] at hx
    generalize a.eval x = y at hx
    cases hx with
    | agg _ c h1 h2 =>
      rw [← f2, List.getElem?_map] at e2
      obtain ⟨fl, g1, rfl⟩ := Option.map_eq_some_iff.1 e2
      obtain ⟨v', k1, k2⟩ := sound_part (φ := φ) hg e3 ⟨h1, h2⟩ e4 w
      refine ⟨rfl, v', ?_, k2⟩
      rw [Array.getElem?_toList] at g1
      simp [Instr.field, run_underlying f1, g1, asAgg, k1]
  · cases h

theorem sound_fieldAddr (hg : TyAgree P ap) {t f lo : Nat} {env : List AV} {a : Act} (he : ER φ env a.tmps) {x : Operand} {v : AV} {H' : AH} (h : aop ap lo env H (.fieldAddr t x f) = some (v, H')) (w : World) :
    H' = H ∧ ∃ v', (Instr.fieldAt t (a.eval x) f).run P w = .ok v' w ∧ VR φ v v' := by
  simp only [aop] at h
  obtain ⟨ti, e1, h⟩ := Option.bind_eq_some_iff.1 h
  obtain ⟨i, d, z, ht⟩ := hg.get e1
  have hx := vr_opd he x
  split at h
  · rename_i fs b o htd hl
    obtain ⟨fd, e2, h⟩ := Option.bind_eq_some_iff.1 h
    obtain ⟨tf, e3, h⟩ := Option.bind_eq_some_iff.1 h
    split at h
    · cases h
    · rename_i hsz
      cases h
      obtain ⟨fields, f1, f2, _⟩ := td_struct ht htd
      obtain ⟨i1, d1, z1, ht1⟩ := hg.get e3
      rw [hl] at hx
      generalize a.eval x = y at hx
      cases hx with
      | ptr _ _ p hp =>
        rw [← f2, List.getElem?_map] at e2
        obtain ⟨fl, g1, rfl⟩ := Option.map_eq_some_iff.1 e2
        rw [Array.getElem?_toList] at g1
        refine ⟨rfl, .pointer (some ⟨p.blk, p.d + (o + fl.offset), none⟩), ?_, .ptr _ _ p hp⟩
        simp [Instr.fieldAt, run_underlying f1, g1, Instr.sureAddr, fieldPlace, run_sizeOf' ht1, hsz, addr_add, Nat.add_assoc]
  · cases h

theorem sound_indexAddr (hg : TyAgree P ap) {t lo : Nat} {env : List AV} {a : Act} (he : ER φ env a.tmps) {x ix : Operand} {v : AV} {H' : AH} (h : aop ap lo env H (.indexAddr t x ix) = some (v, H')) (w : World) :
    H' = H ∧ ∃ v', (Instr.indexAt t (a.eval x) (a.eval ix)).run P w = .ok v' w ∧ VR φ v v' := by
  simp only [aop] at h
  obtain ⟨ti, e1, h⟩ := Option.bind_eq_some_iff.1 h
  obtain ⟨i, d, z, ht⟩ := hg.get e1
  have hx := vr_opd he x
  have hix := vr_opd he ix
  split at h
  · rename_i e b o len cap s k n htd hl hl2
    obtain ⟨te, e2, h⟩ := Option.bind_eq_some_iff.1 h
    obtain ⟨i1, d1, z1, ht1⟩ := hg.get e2
    split at h
    · rename_i hc
      obtain ⟨hss, h0, h1⟩ := hc
      cases h
      subst hss
      rw [hl] at hx; rw [hl2] at hix
      generalize a.eval x = y at hx
      generalize a.eval ix = y2 at hix
      cases hix
      cases hx with
      | slice _ _ _ _ _ p a' cap' hp ha hlen hR hcc =>
        refine ⟨rfl, .pointer (some ⟨p.blk, p.d + (o + n.toNat * te.sz), none⟩), ?_, .ptr _ _ p hp⟩
        have ha' : a' = ⟨p.blk, p.d + o, none⟩ := ha.resolve_right (by omega)
        subst ha'
        simp [Instr.indexAt, asIntOf, run_underlying (td_slice ht htd), h0, h1, run_sizeOf' ht1, addr_add, Nat.add_assoc]
    · cases h
  · rename_i m e b o k n htd hl hl2
    obtain ⟨te, e2, h⟩ := Option.bind_eq_some_iff.1 h
    obtain ⟨i1, d1, z1, ht1⟩ := hg.get e2
    split at h
    · rename_i hc
      obtain ⟨h0, h1⟩ := hc
      cases h
      rw [hl] at hx; rw [hl2] at hix
      generalize a.eval x = y at hx
      generalize a.eval ix = y2 at hix
      cases hix
      cases hx with
      | ptr _ _ p hp =>
        refine ⟨rfl, .pointer (some ⟨p.blk, p.d + (o + n.toNat * te.sz), none⟩), ?_, .ptr _ _ p hp⟩
        simp [Instr.indexAt, asIntOf, run_underlying (td_array ht htd), Instr.sureAddr, h0, h1, run_sizeOf' ht1, addr_add, Nat.add_assoc]
    · cases h
  · cases h

theorem sound_index (hg : TyAgree P ap) {t lo : Nat} {env : List AV} {a : Act} (he : ER φ env a.tmps) {x ix : Operand} {v : AV} {H' : AH} (h : aop ap lo env H (.index t x ix) = some (v, H')) (w : World) :
    H' = H ∧ ∃ v', (Instr.index t (a.eval x) (a.eval ix)).run P w = .ok v' w ∧ VR φ v v' := by
  simp only [aop] at h
  obtain ⟨ti, e1, h⟩ := Option.bind_eq_some_iff.1 h
  obtain ⟨i, d, z, ht⟩ := hg.get e1
  have hx := vr_opd he x
  have hix := vr_opd he ix
  split at h
  · rename_i s k n htd hl hl2
    split at h
    · rename_i h0
      obtain ⟨c, e2, h⟩ := Option.map_eq_some_iff.1 h
      cases h
      rw [hl] at hx; rw [hl2] at hix
      generalize a.eval x = y at hx
      generalize a.eval ix = y2 at hix
      cases hix
      cases hx
      refine ⟨rfl, .int .u8 c.toNat, ?_, .int _ _⟩
      have e3 : s[n.toNat]? = some c := by
        rw [Array.getElem?_toList] at e2
        obtain ⟨h1, h2⟩ := Array.getElem?_eq_some_iff.1 e2
        rw [getElem?_pos s n.toNat (by simpa using h1)]
        exact congrArg some h2
      simp [Instr.index, asIntOf, run_underlying (td_string ht htd), h0, e3]
    · cases h
  · rename_i m e l k n htd hl hl2
    obtain ⟨te, e2, h⟩ := Option.bind_eq_some_iff.1 h
    obtain ⟨i1, d1, z1, ht1⟩ := hg.get e2
    split at h
    · rename_i hc
      obtain ⟨h0, h1⟩ := hc
      obtain ⟨v1, e4, h⟩ := Option.map_eq_some_iff.1 h
      cases h
      rw [hl] at hx; rw [hl2] at hix
      generalize a.eval x = y at hx
      generalize a.eval ix = y2 at hix
      cases hix
      cases hx with
      | agg _ c g1 g2 =>
        obtain ⟨v', k1, k2⟩ := sound_part (φ := φ) hg e2 ⟨g1, g2⟩ e4 w
        refine ⟨rfl, v', ?_, k2⟩
        simp [Instr.index, asIntOf, run_underlying (td_array ht htd), h0, h1, run_sizeOf' ht1, k1]
    · cases h
  · cases h

theorem sound_extract {env : List AV} {a : Act} (he : ER φ env a.tmps) {lo i : Nat} {x : Operand} {v : AV} {H' : AH} (h : aop ap lo env H (.extract x i) = some (v, H')) (w : World) :
    H' = H ∧ ∃ v', (Instr.extract (a.eval x) i).run P w = .ok v' w ∧ VR φ v v' := by
  simp only [aop] at h
  have hx := vr_opd he x
  split at h
  · rename_i l hl
    obtain ⟨v1, e1, h⟩ := Option.map_eq_some_iff.1 h
    cases h
    rw [hl] at hx
    generalize a.eval x = y at hx
    cases hx with
    | tuple _ c g1 g2 =>
      obtain ⟨v', k1, k2⟩ := (show ER φ l c from ⟨g1, g2⟩).lr i v e1
      rw [Nat.zero_add] at k1
      exact ⟨rfl, v', by simp [Instr.extract, k1], k2⟩
  · cases h

theorem sound_makeSlice (hg : TyAgree P ap) (hr : Rel φ H w.heap) {env : List AV} {a : Act} (he : ER φ env a.tmps) {t lo : Nat} {l c : Operand} {v : AV} {H' : AH}
    (h : aop ap lo env H (.makeSlice t l c) = some (v, H')) :
    ∃ v' w' φ', (Instr.makeSlice t (a.eval l) (a.eval c)).run P w = .ok v' w' ∧ SimW φ H w φ' H' w' ∧ VR φ' v v' := by
  simp only [aop] at h
  obtain ⟨ti, e1, h⟩ := Option.bind_eq_some_iff.1 h
  obtain ⟨i, d, z, ht⟩ := hg.get e1
  cases htd : ti.td <;> rw [htd] at h <;> try (cases h; done)
  rename_i e
  simp only at h
  obtain ⟨te, e2, h⟩ := Option.bind_eq_some_iff.1 h
  obtain ⟨i1, d1, z1, ht1⟩ := hg.get e2
  have hl := vr_opd he l
  have hc := vr_opd he c
  split at h
  · rename_i n m hn hm
    rw [hn] at hl; rw [hm] at hc
    generalize a.eval l = y at hl
    generalize a.eval c = y2 at hc
    cases hl; cases hc
    split at h
    · rename_i hcond
      obtain ⟨h0, h1, h2, h3, h4⟩ := hcond
      cases h
      have hz := er_zeros φ z1.cells m.toNat (m.toNat * i1.size) (by rw [ht1.zs])
      rw [← ht1.zero] at hz
      have hw1 : IntKind.i64.wrap n = n := by
        simp only [IntKind.wrap, IntKind.signed, IntKind.bits, Bool.true_and]
        split <;> rename_i hh <;> simp at hh <;> omega
      have hw2 : IntKind.i64.wrap m = m := by
        simp only [IntKind.wrap, IntKind.signed, IntKind.bits, Bool.true_and]
        split <;> rename_i hh <;> simp at hh <;> omega
      have hby := ht1.by_
      have hs := ht1.sz
      unfold room at h2
      refine ⟨.slice (some ⟨w.heap.size, 0, none⟩) n.toNat m.toNat, w.alloc (.cells ((Array.range (m.toNat * i1.size)).map (z1.cells[· % z1.cells.size]!)) e),
        upd φ H.length ⟨w.heap.size, 0, m.toNat * i1.size⟩, ?_, ⟨alloc_cells hr (by simp) (by have := hz.1; simp at this; rw [List.length_flatten]; simp; omega) hz.lr (.inl rfl), ⟨rfl, rfl, rfl⟩⟩, ?_⟩
      · have hbm : (i1.bytes : Int) * m = m * te.by_ := by rw [hby, Int.mul_comm]
        have c1 : ¬ (m < 0) := by omega
        have c2 : ¬ (281474976710656 < (i1.bytes : Int) * m) := by rw [hbm]; omega
        have c3 : ¬ (n < 0) := by omega
        have c4 : ¬ (m < n) := by omega
        have c5 : ¬ (140737488355328 < m.toNat * i1.bytes) := by
          have : ((m.toNat * i1.bytes : Nat) : Int) = m * te.by_ := by rw [hby]; simp; rw [Int.max_eq_left (by omega)]
          omega
        by_cases hz0 : m.toNat * i1.size = 0
        · have hm0 : m.toNat = 0 := by
            rcases Nat.mul_eq_zero.1 hz0 with h | h
            · exact h
            · omega
          obtain rfl : m = 0 := by omega
          obtain rfl : n = 0 := by omega
          simp [Instr.makeSlice, run_underlying (td_slice ht htd), asInt, asIntOf, typeInfo, ht1.hi, hw1, askRoom, roomBytes, sizeOf, newRow, show ∀ f : Nat → Value, Array.map f (Array.range 0) = #[] from fun f => Array.eq_empty_of_size_eq_zero (by simp)]
        · simp [Instr.makeSlice, run_underlying (td_slice ht htd), asInt, asIntOf, typeInfo, ht1.hi, hw1, hw2, c1, c2, c3, c4, askRoom, roomBytes, c5, sizeOf, hz0, zeroValue, ht1.hz, newRow]
      · refine .slice _ _ _ _ _ ⟨w.heap.size, 0, m.toNat * i1.size⟩ _ _ (upd_self _ _ _) (.inl rfl) (by omega) ?_ (.inl ⟨m.toNat, rfl, rfl⟩)
        show 0 + 0 + m.toNat * te.sz ≤ m.toNat * i1.size
        rw [hs]; omega
    · cases h
  · cases h
end
end Go.Ab
end
section
/-! append, copy, clear. -/
set_option linter.unusedVariables false
set_option linter.unusedSimpArgs false
namespace Go.Ab
section
variable {P : Program} {ap : AP} {φ : Inj} {H : AH} {w : World}

theorem run_lenOf {x : AV} {x' : Value} (hx : VR φ x x') {n : Nat} (h : Ab.lenOf x = some n) (w : World) : (Builtin.lenOf x').run P w = .ok n w := by
  cases hx <;> simp [Ab.lenOf] at h <;> subst h <;> simp [Builtin.lenOf]
theorem str_cells (s : ByteArray) (n : Nat) : ((s.extract 0 n).data.map fun b => Value.int .u8 b.toNat) = ((s.data.toList.take n).map fun b => Value.int .u8 b.toNat).toArray := by
  apply Array.ext'
  simp
theorem er_str (φ : Inj) (l : List UInt8) : ER φ (l.map fun b => AV.int .u8 b.toNat) (l.map fun b => Value.int .u8 b.toNat).toArray := by
  refine ⟨by simp, fun i a v h1 h2 => ?_⟩
  rw [List.getElem?_toArray, List.getElem?_map] at h2
  rw [List.getElem?_map] at h1
  cases e : l[i]? with
  | none => rw [e] at h1; cases h1
  | some b => rw [e] at h1 h2; cases h1; cases h2; exact .int _ _

theorem sound_first (hr : Rel φ H w.heap) {x : AV} {x' : Value} (hx : VR φ x x') {sz n m : Nat} {xs : List AV} (h : firstC H sz n x = some xs) (hl : Ab.lenOf x = some m) (hn : n ≤ m) (hs : szOk sz x = true) :
    ∃ cs : List Value, cs.length = n * sz ∧ (Builtin.firstCells sz n x').run P w = .ok cs.toArray w ∧ ER φ xs cs.toArray := by
  cases hx <;> simp only [firstC] at h <;> try (cases h; done)
  · -- a string
    rename_i s
    cases h
    simp [Ab.lenOf] at hl; subst hl
    simp [szOk] at hs; subst hs
    refine ⟨(s.data.toList.take n).map fun b => Value.int .u8 b.toNat, by simp; omega, ?_, er_str φ _⟩
    simp only [Builtin.firstCells, str_cells, Sem.run_pure]
  · -- nil
    cases h
    simp [Ab.lenOf] at hl; subst hl
    obtain rfl : n = 0 := by omega
    exact ⟨[], by simp, by simp [Builtin.firstCells], er_nil φ⟩
  · rename_i b o len cap sz' p a' cap' hp ha hll hR hc
    simp [Ab.lenOf] at hl; subst hl
    obtain ⟨l, e1, h⟩ := Option.bind_eq_some_iff.1 h
    split at h
    · rename_i hlen
      cases h
      obtain ⟨md, e2, _⟩ := rowOf_some e1
      obtain ⟨cs, k1, k2, k3⟩ := hr.cellsAt hp e2 hlen
      refine ⟨cs, k1, ?_, k3⟩
      simp only [Builtin.firstCells]
      rcases ha with rfl | ha
      · rw [← k1]; exact run_loadCells_list w _ cs k2
      · obtain rfl : n = 0 := by omega
        have : cs = [] := by apply List.eq_nil_of_length_eq_zero; omega
        subst this
        rw [Nat.zero_mul]
        exact run_loadCells_list w a' [] (fun j v hj => by simp at hj)
    · cases h

/-- The types of append's arguments. -/
structure ApT (P : Program) (ts : Array TypeId) (t e : Nat) (i : TypeInfo) (z : Value) : Prop where
  h0 : ts[0]? = some t
  ht : P.underlying t = some (.slice e)
  hi : P.info? e = some i
  hz : i.zero = some z
  h1 : ∃ u d, ts[1]? = some u ∧ P.underlying u = some d ∧ ∀ k, d ≠ .int k

theorem run_append_in {ts : Array TypeId} {t e : Nat} {i : TypeInfo} {z : Value} (hT : ApT P ts t e i z) (ty : TypeId) {a : Addr} {len cap n : Nat} {x' : Value} {cs : List Value} {w' : World} (hle : len + n ≤ cap)
    (hn : (Builtin.lenOf x').run P w = .ok n w) (hf : (Builtin.firstCells i.size n x').run P w = .ok cs.toArray w) (hst : (storeCells (a.add (len * i.size)) cs).run P w = .ok () w') :
    (Builtin.append_ ts ty #[.slice (some a) len cap, x']).run P w = .ok (.slice (some a) (len + n) cap) w' := by
  obtain ⟨u, d, hu, hd, hk⟩ := hT.h1
  have hm : (match d with | .int _ => true | _ => false) = false := by
    cases d <;> first | rfl | exact absurd rfl (hk _)
  simp [Builtin.append_, hT.h0, hu, run_underlying hT.ht, run_underlying hd, sizeOf, typeInfo, hT.hi, hm, hn, hle, hf, hst]
theorem run_append_same {ts : Array TypeId} {t e : Nat} {i : TypeInfo} {z : Value} (hT : ApT P ts t e i z) (ty : TypeId) {a : Option Addr} {len cap : Nat} {x' : Value} (hle : len ≤ cap)
    (hn : (Builtin.lenOf x').run P w = .ok 0 w) (hf : (Builtin.firstCells i.size 0 x').run P w = .ok #[] w) :
    (Builtin.append_ ts ty #[.slice a len cap, x']).run P w = .ok (.slice a len cap) w := by
  obtain ⟨u, d, hu, hd, hk⟩ := hT.h1
  have hm : (match d with | .int _ => true | _ => false) = false := by
    cases d <;> first | rfl | exact absurd rfl (hk _)
  cases a <;> simp [Builtin.append_, hT.h0, hu, run_underlying hT.ht, run_underlying hd, sizeOf, typeInfo, hT.hi, hm, hn, hle, hf, storeCells]
theorem run_append_new {ts : Array TypeId} {t e : Nat} {i : TypeInfo} {z : Value} (hT : ApT P ts t e i z) (ty : TypeId) {a : Option Addr} {len cap n : Nat} {x' : Value} {cs os : List Value} (hgt : cap < len + n)
    (hn : (Builtin.lenOf x').run P w = .ok n w) (hf : (Builtin.firstCells i.size n x').run P w.drew = .ok cs.toArray w.drew) (hfo : (Builtin.firstCells i.size len (.slice a len cap)).run P w.drew = .ok os.toArray w.drew)
    (hb : (len + n) * i.bytes ≤ 140737488355328) (h63 : ((len + n : Nat) : Int) ≤ 9223372036854775807) :
    (Builtin.append_ ts ty #[.slice a len cap, x']).run P w = .ok (.slice (some ⟨w.heap.size, 0, none⟩) (len + n) (grownCap w (len + n) cap e))
      (w.drew.alloc (.cells (os.toArray ++ cs.toArray ++ Builtin.zeroCells z.cells (grownCap w (len + n) cap e - (len + n))) e)) := by
  obtain ⟨u, d, hu, hd, hk⟩ := hT.h1
  have hm : (match d with | .int _ => true | _ => false) = false := by
    cases d <;> first | rfl | exact absurd rfl (hk _)
  have hle : ¬ (len + n ≤ cap) := by omega
  have h63' : ¬ (9223372036854775807 < ((len : Int) + (n : Int))) := by omega
  have h48' : ¬ (281474976710656 < Builtin.nextslicecap (len + n) cap * i.bytes) := by
    have := growslice_fits hgt hb
    omega
  simp [Builtin.append_, hT.h0, hu, run_underlying hT.ht, run_underlying hd, sizeOf, typeInfo, zeroValue, hT.hi, hT.hz, hm, hn, hle, h63', h48', Question.forced, hf, hfo, newRow, grownCap]
  congr 2
  apply Array.ext'
  simp
theorem grownCap_ge (w : World) (need old : Nat) (e : TypeId) : need ≤ grownCap w need old e := by
  unfold grownCap Question.cut
  exact Nat.le_add_right _ _

theorem er_append {l m : List AV} {c d : Array Value} (h : ER φ l c) (g : ER φ m d) : ER φ (l ++ m) (c ++ d) := by
  have h1 := h.1
  have g1 := g.1
  refine ⟨by simp; omega, fun i a v e1 e2 => ?_⟩
  by_cases hi : i < l.length
  · rw [List.getElem?_append_left hi] at e1
    rw [Array.getElem?_append_left (by omega)] at e2
    exact h.2 i a v e1 e2
  · rw [List.getElem?_append_right (by omega)] at e1
    rw [Array.getElem?_append_right (by omega)] at e2
    rw [h1] at e1
    exact g.2 _ a v e1 e2
theorem zeroCells_size (z : Array Value) (n : Nat) : (Builtin.zeroCells z n).size = n * z.size := by simp [Builtin.zeroCells]
theorem lr_front {l : List AV} {c d : Array Value} (h : ER φ l c) : LR φ l (c ++ d) 0 := fun i a e => by
  have hi : i < l.length := (List.getElem?_eq_some_iff.1 e).1
  have h1 := h.1
  obtain ⟨v, k1, k2⟩ := h.lr i a e
  rw [Nat.zero_add] at k1 ⊢
  exact ⟨v, by rw [Array.getElem?_append_left (by omega)]; exact k1, k2⟩

/-- What grows: a new row. -/
theorem grow_alloc {hp : Array Obj} (hr : Rel φ H hp) {os cs : List Value} {xs ys : List AV} (ho : ER φ xs os.toArray) (hc : ER φ ys cs.toArray) {z : Array Value} {sz len n G : Nat} (hz : z.size = sz) (h1 : os.length = len * sz) (h2 : cs.length = n * sz)
    (hG : len + n ≤ G) (e : TypeId) :
    Sim φ H hp (upd φ H.length ⟨hp.size, 0, G * sz⟩) (H ++ [.cells (xs ++ ys) .rw]) (hp.push (.cells (os.toArray ++ cs.toArray ++ Builtin.zeroCells z (G - (len + n))) e)) ∧
      VR (upd φ H.length ⟨hp.size, 0, G * sz⟩) (.slice (some (H.length, 0)) (len + n) none sz) (.slice (some ⟨hp.size, 0, none⟩) (len + n) G) := by
  have hoc := er_append ho hc
  have e1 := mulsub (c := sz) hG
  have e2 : (len + n) * sz = len * sz + n * sz := Nat.add_mul ..
  have hsz : (os.toArray ++ cs.toArray ++ Builtin.zeroCells z (G - (len + n))).size = G * sz := by
    rw [Array.size_append, Array.size_append, zeroCells_size, hz]
    simp only [List.size_toArray]
    omega
  refine ⟨alloc_cells hr hsz ?_ (lr_front hoc) (.inl rfl), .slice _ _ _ _ _ ⟨hp.size, 0, G * sz⟩ _ _ (upd_self _ _ _) (.inl rfl) hG (by show 0 + 0 + G * sz ≤ G * sz; omega) (.inr ⟨rfl, by show 0 + 0 + G * sz = G * sz; omega⟩)⟩
  have := hoc.1
  rw [this]
  simp
  omega

/-- How append runs where so many cells are added. -/
structure AppRuns (P : Program) (ts : Array TypeId) (ty e : TypeId) (i : TypeInfo) (z : Value) (x' : Value) (n : Nat) (cs cs' : List Value) (w : World) : Prop where
  inp : ∀ {a : Addr} {len cap : Nat} {w' : World}, len + n ≤ cap → (storeCells (a.add (len * i.size)) cs).run P w = .ok () w' → (Builtin.append_ ts ty #[.slice (some a) len cap, x']).run P w = .ok (.slice (some a) (len + n) cap) w'
  same : n = 0 → ∀ {a : Option Addr} {len cap : Nat}, len ≤ cap → (Builtin.append_ ts ty #[.slice a len cap, x']).run P w = .ok (.slice a len cap) w
  new : ∀ {a : Option Addr} {len cap : Nat} {os : List Value}, cap < len + n → (Builtin.firstCells i.size len (.slice a len cap)).run P w.drew = .ok os.toArray w.drew → (len + n) * i.bytes ≤ 140737488355328 → ((len + n : Nat) : Int) ≤ 9223372036854775807 →
    (Builtin.append_ ts ty #[.slice a len cap, x']).run P w = .ok (.slice (some ⟨w.heap.size, 0, none⟩) (len + n) (grownCap w (len + n) cap e))
      (w.drew.alloc (.cells (os.toArray ++ cs'.toArray ++ Builtin.zeroCells z.cells (grownCap w (len + n) cap e - (len + n))) e))
theorem sound_appendC (hg : TyAgree P ap) (hr : Rel φ H w.heap) {s : AV} {s' x' : Value} (hs : VR φ s s') {lo : Nat} {ts : Array TypeId} {e : Nat} {te : TI} {i : TypeInfo} {z : Value} {d : TypeDesc} (ht : TyOk P e te i d z) {ty : TypeId} {n : Nat} {cs cs' : List Value} {xs : List AV}
    (runs : AppRuns P ts ty e i z x' n cs cs' w) (c1 : cs.length = n * te.sz) (c3 : ER φ xs cs.toArray) (c1' : cs'.length = n * te.sz) (c3' : ER φ xs cs'.toArray) (hone : xs.all AV.one = true) (hso : szOk te.sz s = true) (hpos : 0 < te.sz) (hbp : 0 < te.by_) {v : AV} {H' : AH} (h : aappendC lo H te.sz te.by_ s n xs = some (v, H')) :
    ∃ v' w' φ', (Builtin.append_ ts ty #[s', x']).run P w = .ok v' w' ∧ SimW φ H w φ' H' w' ∧ VR φ' v v' := by
  unfold aappendC at h
  have hsz := ht.sz
  have hby := ht.by_
  have hzs : z.cells.size = te.sz := by rw [hsz]; exact ht.zs
  have bnd : ∀ {k : Nat}, k * te.by_ ≤ room → k * i.bytes ≤ 140737488355328 ∧ (k : Int) ≤ 9223372036854775807 := by
    intro k hk
    unfold room at hk
    refine ⟨by rw [← hby]; exact hk, ?_⟩
    have : k * 1 ≤ k * te.by_ := Nat.mul_le_mul_left k hbp
    omega
  cases hs <;> simp only at h <;> try (cases h; done)
  · -- nil
    split at h
    · cases h
    · split at h
      · rename_i hn0
        obtain ⟨rfl, rfl⟩ := Prod.mk.inj (Option.some.inj h)
        exact ⟨_, w, φ, runs.same hn0 (Nat.le_refl 0), .refl hr, .sliceN _ _⟩
      · rename_i hn0
        split at h
        · rename_i hroom
          obtain ⟨rfl, rfl⟩ := Prod.mk.inj (Option.some.inj h)
          have hb := bnd hroom
          rw [← Nat.zero_add n] at hb
          have hrun := runs.new (a := none) (len := 0) (cap := 0) (os := []) (by omega) (by simp [Builtin.firstCells]) hb.1 hb.2
          have hgr := grow_alloc hr (er_nil φ) c3' (z := z.cells) (len := 0) (n := n) (G := grownCap w (0 + n) 0 e) hzs (by simp) c1' (grownCap_ge _ _ _ _) e
          rw [Nat.zero_add, List.nil_append] at hgr
          rw [Nat.zero_add] at hrun
          exact ⟨_, _, _, hrun, ⟨hgr.1, ⟨rfl, rfl, rfl⟩⟩, hgr.2⟩
        · cases h
  · -- a slice
    rename_i b o len cap sz p a' cap' hp ha hll hR hc
    have hso : sz = te.sz := by simpa [szOk] using hso
    subst hso
    split at h
    · rename_i hn0
      obtain ⟨rfl, rfl⟩ := Prod.mk.inj (Option.some.inj h)
      exact ⟨_, w, φ, runs.same hn0 hll, .refl hr, .slice _ _ _ _ _ p _ _ hp ha hll hR hc⟩
    · rename_i hn0
      obtain ⟨l, e3, h⟩ := Option.bind_eq_some_iff.1 h
      obtain ⟨md, e4, hmd⟩ := rowOf_some e3
      split at h
      · rename_i hlen
        -- the slice's own cells
        obtain ⟨os, o1, o2, o3⟩ := hr.cellsAt (w := w.drew) hp e4 hlen
        have hfo : (Builtin.firstCells i.size len (.slice (some a') len cap')).run P w.drew = .ok os.toArray w.drew := by
          simp only [Builtin.firstCells]
          rcases ha with rfl | ha
          · rw [← hsz, ← o1]; exact run_loadCells_list w.drew _ os o2
          · obtain rfl : len = 0 := by omega
            have : os = [] := by apply List.eq_nil_of_length_eq_zero; omega
            subst this
            rw [Nat.zero_mul]
            exact run_loadCells_list w.drew a' [] (fun j v hj => by simp at hj)
        have grow : cap' < len + n → (len + n) * te.by_ ≤ room → ∀ {φ0 : Inj} {H0 : AH}, φ0 = φ → Rel φ0 H0 w.heap → 
            ∃ v' w' φ', (Builtin.append_ ts ty #[.slice (some a') len cap', x']).run P w = .ok v' w' ∧ SimW φ0 H0 w φ' (H0 ++ [.cells ((l.drop o).take (len * te.sz) ++ xs) .rw]) w' ∧ VR φ' (.slice (some (H0.length, 0)) (len + n) none te.sz) v' := by
          intro hlt hroom φ0 H0 q1 hr0
          subst q1
          have hb := bnd hroom
          have hrun := runs.new hlt hfo hb.1 hb.2
          have hgr := grow_alloc hr0 o3 c3' (z := z.cells) (len := len) (n := n) (G := grownCap w (len + n) cap' e) hzs o1 c1' (grownCap_ge _ _ _ _) e
          exact ⟨_, _, _, hrun, ⟨hgr.1, ⟨rfl, rfl, rfl⟩⟩, hgr.2⟩
        have inpl : len + n ≤ cap' → ∀ {l2 : List AV}, H[b]? = some (.cells l2 .rw) → o + (len + n) * te.sz ≤ l2.length → ∀ cap2, (∃ c, cap2 = some c ∧ cap' = c) ∨ (cap2 = none ∧ p.d + o + cap' * te.sz = p.R) →
            ∃ v' w' φ', (Builtin.append_ ts ty #[.slice (some a') len cap', x']).run P w = .ok v' w' ∧ SimW φ H w φ' (H.set b (.cells (splice l2 (o + len * te.sz) xs) .rw)) w' ∧ VR φ' (.slice (some (b, o)) (len + n) cap2 te.sz) v' := by
          intro hle l2 hl2 hroom cap2 hcap2
          have ha' : a' = ⟨p.blk, p.d + o, none⟩ := ha.resolve_right (by omega)
          subst ha'
          have hxl : xs.length = n * te.sz := by have := c3.1; simp at this; omega
          have hadd : (len + n) * te.sz = len * te.sz + n * te.sz := Nat.add_mul ..
          obtain ⟨w', s1, s2⟩ := hr.store (P := P) hp hl2 c3 (o := o + len * te.sz) (by omega) hone
          refine ⟨_, w', φ, runs.inp hle ?_, s2, .slice _ _ _ _ _ p _ _ hp (.inl rfl) hle hR hcap2⟩
          rw [addr_add, ← hsz, Nat.add_assoc]
          exact s1
        cases cap with
        | some c =>
          have hcc : cap' = c := by
            rcases hc with ⟨c', hc1, hc2⟩ | ⟨hc1, _⟩
            · cases hc1; exact hc2
            · cases hc1
          subst hcc
          simp only at h
          split at h
          · rename_i hle
            obtain ⟨l2, e5, h⟩ := Option.bind_eq_some_iff.1 h
            split at h
            · rename_i hfit
              obtain ⟨rfl, rfl⟩ := Prod.mk.inj (Option.some.inj h)
              exact inpl hle (rowRw_some e5).1 hfit _ (.inl ⟨_, rfl, rfl⟩)
            · cases h
          · rename_i hle
            split at h
            · rename_i hroom
              obtain ⟨rfl, rfl⟩ := Prod.mk.inj (Option.some.inj h)
              exact grow (by omega) hroom rfl hr
            · cases h
        | none =>
          have hcc : p.d + o + cap' * te.sz = p.R := by
            rcases hc with ⟨c', hc1, hc2⟩ | ⟨_, hc2⟩
            · cases hc1
            · exact hc2
          simp only at h
          split at h
          · rename_i hroom
            obtain ⟨l2, e5, h⟩ := Option.bind_eq_some_iff.1 h
            obtain ⟨e6, hlo⟩ := rowRw_some e5
            rw [e4] at e6
            have hll2 : l = l2 ∧ md = .rw := by cases e6; exact ⟨rfl, rfl⟩
            obtain ⟨rfl, rfl⟩ := hll2
            obtain ⟨c, e', fr, g1, g2, g3, g4, g5⟩ := hr.row hp e4
            split at h
            · rename_i hfit
              obtain ⟨rfl, rfl⟩ := Prod.mk.inj (Option.some.inj h)
              refine inpl ?_ e4 hfit _ (.inr ⟨rfl, hcc⟩)
              have : (len + n) * te.sz ≤ cap' * te.sz := by omega
              exact Nat.le_of_mul_le_mul_right this hpos
            · rename_i hfit
              obtain ⟨rfl, rfl⟩ := Prod.mk.inj (Option.some.inj h)
              by_cases hle : len + n ≤ cap'
              · -- in place, beyond what is known
                have ha' : a' = ⟨p.blk, p.d + o, none⟩ := ha.resolve_right (by omega)
                subst ha'
                have hxl : xs.length = n * te.sz := by have := c3.1; simp at this; omega
                have hcl : cs.length = n * te.sz := c1
                have hadd : (len + n) * te.sz = len * te.sz + n * te.sz := Nat.add_mul ..
                have hmul : (len + n) * te.sz ≤ cap' * te.sz := Nat.mul_le_mul_right _ hle
                have hst := run_storeCells_cells (P := P) p.blk (p.d + o + len * te.sz) cs 0 w (fun j hj => by
                    rw [cell_of g1]
                    have : p.d + o + len * te.sz + 0 + j < c.size := by omega
                    rw [Array.getElem?_eq_getElem this]; rfl) (fun j hj => frozen_of g1 (g5 rfl) (by omega)) (er_one c3 hone)
                refine ⟨_, w.setCells p.blk (p.d + o + len * te.sz) cs, upd φ H.length ⟨p.blk, p.d + o, p.R⟩, runs.inp hle ?_, ?_, ?_⟩
                · rw [addr_add, ← hsz]; exact hst
                · refine ⟨?_, str_setCells _ _ _ _⟩
                  rw [setCells_heap _ _ _ _ _ _ _ g1]
                  refine Sim.rename hr hp e4 g1 (setA_size _ _ _) ?_ ?_
                  · simp only [List.length_append, List.length_take, List.length_drop]; omega
                  · intro j a hj
                    by_cases hjl : j < len * te.sz
                    · rw [List.getElem?_append_left (by simp; omega), List.getElem?_take_of_lt hjl, List.getElem?_drop] at hj
                      rw [setA_out _ _ _ _ (by omega)]
                      have := g4 _ _ hj
                      rwa [← Nat.add_assoc] at this
                    · rw [List.getElem?_append_right (by simp; omega)] at hj
                      have hmin : ((l.drop o).take (len * te.sz)).length = len * te.sz := by simp; omega
                      rw [hmin] at hj
                      have hjx : j - len * te.sz < xs.length := (List.getElem?_eq_some_iff.1 hj).1
                      have hin := setA_in cs c (p.d + o + len * te.sz) (j - len * te.sz) (by omega) (by omega)
                      rw [show p.d + o + len * te.sz + (j - len * te.sz) = p.d + o + j by omega] at hin
                      refine ⟨cs[j - len * te.sz]'(by omega), by rw [hin, List.getElem?_eq_getElem], ?_⟩
                      exact c3.2 _ _ _ hj (by simp)
                · exact .slice _ _ _ _ _ ⟨p.blk, p.d + o, p.R⟩ _ _ (upd_self _ _ _) (.inl rfl) hle (by show p.d + o + 0 + cap' * te.sz ≤ p.R; omega) (.inr ⟨rfl, by show p.d + o + 0 + cap' * te.sz = p.R; omega⟩)
              · -- a new row; the old block is not used any more
                have hkill : SimW φ H w φ (H.set b (.cells [] .dead)) w := by
                  have := Sim.write hr hp e4 (A' := .cells [] .dead) rfl g1 (O' := .cells c e' fr) (fun c1 e1 fr1 q => by cases q; exact ⟨_, _, _, rfl, rfl⟩)
                    (.cells [] .dead c e' fr g2 (by simp; omega) (fun i a hi => by simp at hi) (fun q => by cases q) (fun q => by cases q)) (.inr trivial)
                  have heq : w.heap.setIfInBounds p.blk (.cells c e' fr) = w.heap := by
                    apply Array.ext_getElem?
                    intro k
                    by_cases hk : p.blk = k
                    · subst hk; rw [g1, Array.getElem?_setIfInBounds_self, if_pos (Array.getElem?_eq_some_iff.1 g1).1]
                    · rw [Array.getElem?_setIfInBounds_ne hk]
                  rw [heq] at this
                  exact ⟨this, .refl w⟩
                obtain ⟨v', w', φ', k1, k2, k3⟩ := grow (by omega) hroom rfl hkill.rel
                rw [List.length_set] at k3
                exact ⟨v', w', φ', k1, hkill.trans k2, k3⟩
          · cases h
      · cases h
theorem sound_append (hg : TyAgree P ap) (hr : Rel φ H w.heap) {s x : AV} {s' x' : Value} (hs : VR φ s s') (hx : VR φ x x') {lo : Nat} {ts : Array TypeId} {t e : Nat} {te : TI} {i : TypeInfo} {z : Value} {d : TypeDesc} (ht : TyOk P e te i d z)
    (hT : ApT P ts t e i z) (ty : TypeId) {v : AV} {H' : AH} (h : aappend lo H te.sz te.by_ s x = some (v, H')) :
    ∃ v' w' φ', (Builtin.append_ ts ty #[s', x']).run P w = .ok v' w' ∧ SimW φ H w φ' H' w' ∧ VR φ' v v' := by
  unfold aappend at h
  split at h
  · rename_i hcond
    simp only [Bool.and_eq_true, decide_eq_true_eq] at hcond
    obtain ⟨⟨hso, hxo⟩, hpos, hbp⟩ := hcond
    obtain ⟨n, e1, h⟩ := Option.bind_eq_some_iff.1 h
    obtain ⟨xs, e2, h⟩ := Option.bind_eq_some_iff.1 h
    split at h
    · cases h
    · rename_i hone
      have hone : xs.all AV.one = true := by simpa using hone
      have hsz := ht.sz
      have hby := ht.by_
      have hzs : z.cells.size = te.sz := by rw [hsz]; exact ht.zs
      obtain ⟨cs, c1, c2, c3⟩ := sound_first (P := P) hr hx e2 e1 (Nat.le_refl _) hxo
      obtain ⟨cs', c1', c2', c3'⟩ := sound_first (P := P) (w := w.drew) (φ := φ) (H := H) hr hx e2 e1 (Nat.le_refl _) hxo
      have hn := run_lenOf (P := P) hx e1 w
      have bnd : ∀ {k : Nat}, k * te.by_ ≤ room → k * i.bytes ≤ 140737488355328 ∧ (k : Int) ≤ 9223372036854775807 := by
        intro k hk
        unfold room at hk
        refine ⟨by rw [← hby]; exact hk, ?_⟩
        have : k * 1 ≤ k * te.by_ := Nat.mul_le_mul_left k hbp
        omega
      have runs : AppRuns P ts ty e i z x' n cs cs' w := ⟨fun hle hst => run_append_in hT ty hle hn (by rw [← hsz]; exact c2) hst, fun hn0 a len cap hle => by
        have hnil : cs = [] := by apply List.eq_nil_of_length_eq_zero; rw [c1, hn0]; simp
        rw [hn0] at hn c2
        rw [hnil] at c2
        exact run_append_same hT ty hle hn (by rw [← hsz]; exact c2), fun hgt hfo h1 h2 => run_append_new hT ty hgt hn (by rw [← hsz]; exact c2') hfo h1 h2⟩
      exact sound_appendC hg hr hs ht runs c1 c3 c1' c3' hone hso hpos hbp h
  · cases h
/-- append of noughts. -/
theorem sound_appendZ (hg : TyAgree P ap) (hr : Rel φ H w.heap) {s x : AV} {s' x' : Value} (hs : VR φ s s') (hx : VR φ x x') {lo : Nat} {ts : Array TypeId} {t e u : Nat} {te : TI} {i : TypeInfo} {z : Value} {d : TypeDesc} (ht : TyOk P e te i d z)
    (h0 : ts[0]? = some t) (hts : P.underlying t = some (.slice e)) (h1 : ts[1]? = some u) (hu : P.underlying u = some (.int .i64)) (ty : TypeId) {v : AV} {H' : AH} (h : aappendZ lo H te s x = some (v, H')) :
    ∃ v' w' φ', (Builtin.append_ ts ty #[s', x']).run P w = .ok v' w' ∧ SimW φ H w φ' H' w' ∧ VR φ' v v' := by
  unfold aappendZ at h
  split at h
  · rename_i m
    split at h
    · rename_i hc
      simp only [Bool.and_eq_true, decide_eq_true_eq] at hc
      obtain ⟨⟨⟨hso, hpos, hbp⟩, hm0, hmr⟩, hone⟩ := hc
      have hsz := ht.sz
      have hby := ht.by_
      have hzs : z.cells.size = te.sz := by rw [hsz]; exact ht.zs
      cases hx
      obtain ⟨n, hn⟩ : ∃ n, n = m.toNat := ⟨_, rfl⟩
      rw [← hn] at h hmr
      have hmn : m = (n : Int) := by omega
      subst hmn
      have hn1 : n * 1 ≤ n * te.by_ := Nat.mul_le_mul_left n hbp
      have hw : IntKind.i64.wrap (n : Int) = (n : Int) := by
        unfold room at hmr
        simp only [IntKind.wrap, IntKind.bits, IntKind.signed]
        simp
        omega
      have hlt : ¬ (n : Int) < 0 := by omega
      have h48 : ¬ (281474976710656 : Int) < (n : Int) * (i.bytes : Int) := by
        unfold room at hmr
        rw [hby] at hmr
        rw [← Int.natCast_mul]
        omega
      have hzl : te.zero.length = te.sz := by rw [ht.zero]; simp [ht.zs, ht.sz]
      obtain ⟨cs, hcs⟩ : ∃ cs, cs = (Builtin.zeroCells z.cells n).toList := ⟨_, rfl⟩
      have hca : cs.toArray = Builtin.zeroCells z.cells n := by rw [hcs, Array.toArray_toList]
      have c1 : cs.length = n * te.sz := by rw [hcs, Array.length_toList, zeroCells_size, hzs]
      have c3 : ER φ (List.replicate n te.zero).flatten cs.toArray := by
        rw [hca, ht.zero]
        exact er_zeros φ z.cells n (n * z.cells.size) rfl
      have hone' : (List.replicate n te.zero).flatten.all AV.one = true := by
        rw [List.all_eq_true] at hone ⊢
        intro a ha
        obtain ⟨q, g1, g2⟩ := List.mem_flatten.1 ha
        rw [List.eq_of_mem_replicate g1] at g2
        exact hone a g2
      have hz0 : n * i.size = 0 → cs = [] := fun h0 => by
        apply List.eq_nil_of_length_eq_zero
        rw [c1, hsz, h0]
      have runs : AppRuns P ts ty e i z (.int .i64 (n : Int)) n cs cs w := by
        refine ⟨fun {a len cap w'} hle hst => ?_, fun hn0 {a len cap} hle => ?_, fun {a len cap os} hgt hfo hb h63 => ?_⟩
        · by_cases hq : n * i.size = 0
          · rw [hz0 hq] at hst
            simp [Builtin.append_, h0, h1, run_underlying hts, run_underlying hu, sizeOf, typeInfo, zeroValue, ht.hi, ht.hz, asInt, asIntOf, hw, hlt, h48, hle, hq, hst]
          · simp [Builtin.append_, h0, h1, run_underlying hts, run_underlying hu, sizeOf, typeInfo, zeroValue, ht.hi, ht.hz, asInt, asIntOf, hw, hlt, h48, hle, hq, ← hcs, hst]
        · subst hn0
          have hlt0 : ¬ ((0 : Int) < 0) := by omega
          have w0 : IntKind.i64.wrap 0 = 0 := by decide
          cases a <;> simp [Builtin.append_, h0, h1, run_underlying hts, run_underlying hu, sizeOf, typeInfo, zeroValue, ht.hi, ht.hz, asInt, asIntOf, w0, hle, storeCells]
        · have hle : ¬ (len + n ≤ cap) := by omega
          have h63' : ¬ (9223372036854775807 < ((len : Int) + (n : Int))) := by omega
          have h48' : ¬ (281474976710656 < Builtin.nextslicecap (len + n) cap * i.bytes) := by
            have := growslice_fits hgt hb
            omega
          by_cases hq : n * i.size = 0
          · have hc0 := hz0 hq
            simp [Builtin.append_, h0, h1, run_underlying hts, run_underlying hu, sizeOf, typeInfo, zeroValue, ht.hi, ht.hz, asInt, asIntOf, hw, hlt, h48, hle, hq, h63', h48', Question.forced, hfo, newRow, grownCap, hc0]
          · simp [Builtin.append_, h0, h1, run_underlying hts, run_underlying hu, sizeOf, typeInfo, zeroValue, ht.hi, ht.hz, asInt, asIntOf, hw, hlt, h48, hle, hq, h63', h48', Question.forced, hfo, newRow, grownCap, ← hca]
            congr 2
            apply Array.ext'
            simp
      exact sound_appendC hg hr hs ht runs c1 c3 c1 c3 hone' hso hpos hbp h
    · cases h
  · cases h
end
end Go.Ab
end
section
/-! copy, clear, conversions, numbers, equality. -/
set_option linter.unusedVariables false
set_option linter.unusedSimpArgs false
namespace Go.Ab
section
variable {P : Program} {ap : AP} {φ : Inj} {H : AH} {w : World}

theorem take_cells {x : AV} {x' : Value} {sz n m : Nat} (hn : n ≤ m) : True := trivial

theorem sound_copy (hg : TyAgree P ap) (hr : Rel φ H w.heap) {d s : AV} {d' s' : Value} (hd : VR φ d d') (hs : VR φ s s') {lo : Nat} {ts : Array TypeId} {t e : Nat} {te : TI} (hte : ap.ty e = some te)
    (h0 : ts[0]? = some t) (ht : P.underlying t = some (.slice e)) (ty : TypeId) {v : AV} {H' : AH} (h : acopy lo H te.sz d s = some (v, H')) :
    ∃ v' w', (Builtin.copy_ ts ty #[d', s']).run P w = .ok v' w' ∧ SimW φ H w φ H' w' ∧ VR φ v v' := by
  obtain ⟨i1, d1, z1, ht1⟩ := hg.get hte
  have hsz := run_sizeOf' ht1
  unfold acopy at h
  split at h
  · rename_i hcond
    simp only [Bool.and_eq_true, decide_eq_true_eq] at hcond
    obtain ⟨⟨hdo, hso⟩, hpos⟩ := hcond
    replace h := Option.bind_eq_some_iff.1 h
    obtain ⟨m, e1, h⟩ := h
    replace h := Option.bind_eq_some_iff.1 h
    obtain ⟨k, e2, h⟩ := h
    replace h := Option.bind_eq_some_iff.1 h
    obtain ⟨xs, e3, h⟩ := h
    split at h
    · cases h
    · rename_i hone
      have hone : xs.all AV.one = true := by simpa using hone
      obtain ⟨cs, c1, c2, c3⟩ := sound_first (P := P) hr hs e3 e1 (Nat.min_le_left m k) hso
      have hn := run_lenOf (P := P) hs e1
      cases hd <;> simp only at h <;> try (cases h; done)
      · -- a nil destination
        obtain ⟨rfl, rfl⟩ := Prod.mk.inj (Option.some.inj h)
        simp [Ab.lenOf] at e2; subst e2
        refine ⟨.int .i64 _, w, ?_, .refl hr, .int _ _⟩
        have c2' : (Builtin.firstCells te.sz 0 s').run P w = .ok cs.toArray w := by simpa using c2
        simp [Builtin.copy_, h0, run_underlying ht, hn, hsz, c2', goInt]
      · rename_i b o len cap sz p a' cap' hp ha hll hR hc
        have hdo : sz = te.sz := by simpa [szOk] using hdo
        subst hdo
        simp [Ab.lenOf] at e2; subst e2
        have hmin : Nat.min m len = min m len := rfl
        split at h
        · rename_i hx0
          obtain ⟨rfl, rfl⟩ := Prod.mk.inj (Option.some.inj h)
          have : cs = [] := by
            have := c3.1
            rw [hx0] at this
            apply List.eq_nil_of_length_eq_zero
            simpa using this.symm
          subst this
          refine ⟨.int .i64 _, w, ?_, .refl hr, .int _ _⟩
          simp [Builtin.copy_, h0, run_underlying ht, hn, hsz, hmin, c2, goInt, storeCells]
        · rename_i hx0
          replace h := Option.bind_eq_some_iff.1 h
          obtain ⟨l, e4, h⟩ := h
          split at h
          · rename_i hfit
            obtain ⟨rfl, rfl⟩ := Prod.mk.inj (Option.some.inj h)
            have hpos2 : 0 < cap' := by
              have h1 : 0 < xs.length := List.length_pos_iff.2 hx0
              have h2 := c3.1
              simp at h2
              rcases Nat.eq_zero_or_pos (min m len) with h3 | h3
              · rw [c1, h3] at h2; omega
              · omega
            have ha' : a' = ⟨p.blk, p.d + o, none⟩ := ha.resolve_right (by omega)
            subst ha'
            obtain ⟨w', s1, s2⟩ := hr.store (P := P) hp (rowRw_some e4).1 c3 hfit hone
            refine ⟨.int .i64 _, w', ?_, s2, .int _ _⟩
            simp [Builtin.copy_, h0, run_underlying ht, hn, hsz, hmin, c2, goInt, s1]
          · cases h
  · cases h

theorem run_amm (op : Bool) : ∀ (l : List AV) (l' : List Value) (k : IntKind) (x : Int) (v : AV), l.length = l'.length → (∀ (i : Nat) (a : AV) (u : Value), l[i]? = some a → l'[i]? = some u → VR φ a u) → amm1 op k x l = some v →
    ∃ n, v = .int k n ∧ (l'.foldlM (if op then Builtin.max2 else Builtin.min2) (.int k x)).run P w = .ok (.int k n) w
  | [], [], k, x, v, _, _, h => by
    simp only [amm1] at h
    cases h
    exact ⟨x, rfl, by cases op <;> simp⟩
  | a :: l, u :: l', k, x, v, hl, hr, h => by
    have h0 := hr 0 a u rfl rfl
    cases h0 <;> simp only [amm1] at h <;> try (cases h; done)
    rename_i k' y
    obtain ⟨n, h1, h2⟩ := run_amm op l l' k _ v (by simpa using hl) (fun i a u e1 e2 => hr (i + 1) a u (by simpa using e1) (by simpa using e2)) h
    refine ⟨n, h1, ?_⟩
    cases op
    · simp only [Bool.false_eq_true, if_false] at h2 ⊢
      rw [List.foldlM_cons, Sem.run_bind]
      have : (Builtin.min2 (.int k x) (.int k' y)).run P w = .ok (.int k (if y < x then y else x)) w := by simp [Builtin.min2]
      rw [this]
      exact h2
    · simp only [if_true] at h2 ⊢
      rw [List.foldlM_cons, Sem.run_bind]
      have : (Builtin.max2 (.int k x) (.int k' y)).run P w = .ok (.int k (if y > x then y else x)) w := by simp [Builtin.max2]
      rw [this]
      exact h2
  | [], _ :: _, _, _, _, hl, _, _ => by simp at hl
  | _ :: _, [], _, _, _, hl, _, _ => by simp at hl

theorem sound_amm {xs : List AV} {xs' : Array Value} (h : ER φ xs xs') (op : Bool) {v : AV} (hv : amm op xs = some v) (ts : Array TypeId) (ty : TypeId) (w : World) :
    ∃ v', (if op then Builtin.max_ ts ty xs' else Builtin.min_ ts ty xs').run P w = .ok v' w ∧ VR φ v v' := by
  obtain ⟨l'⟩ := xs'
  cases xs with
  | nil => cases hv
  | cons a l =>
    cases l' with
    | nil => have := h.1; simp at this
    | cons u l' =>
      have h0 := h.2 0 a u rfl rfl
      cases h0 <;> simp only [amm] at hv <;> try (cases hv; done)
      rename_i k x
      obtain ⟨n, rfl, h2⟩ := run_amm (P := P) (w := w) op l l' k x v (by have := h.1; simpa using this) (fun i a u e1 e2 => h.2 (i + 1) a u (by simpa using e1) (by simpa using e2)) hv
      refine ⟨_, ?_, .int _ _⟩
      cases op
      · simpa [Builtin.min_] using h2
      · simpa [Builtin.max_] using h2

theorem run_arith {op : BinOp} {k : IntKind} {x y : Int} {v : AV} (h : arith op k x y = some v) (hs : ¬ (op = .shl ∨ op = .shr)) (t : TypeId) (w : World) :
    ∃ v', (Go.binOp op t (.int k x) (.int k y)).run P w = .ok v' w ∧ VR φ v v' := by
  cases op <;> simp only [arith] at h <;> try (cases h; done)
  all_goals first
    | (cases h; exact ⟨_, by simp [Go.binOp, Op.intArith, Op.intCmp, Op.intBits]; rfl, by constructor⟩)
    | (split at h
       · cases h
       · rename_i hy
         cases h
         exact ⟨_, by simp [Go.binOp, Op.intDiv, hy]; rfl, by constructor⟩)
    | simp at hs

theorem run_shift {op : BinOp} {k : IntKind} {x y : Int} {v : AV} (h : Ab.shift op k x y = some v) (yk : IntKind) (t : TypeId) (w : World) :
    ∃ v', (Go.binOp op t (.int k x) (.int yk y)).run P w = .ok v' w ∧ VR φ v v' := by
  unfold Ab.shift at h
  split at h
  · cases h
  · rename_i hy
    cases op <;> simp only at h <;> try (cases h; done)
    all_goals (cases h; exact ⟨_, by simp [Go.binOp, Op.shift, hy]; rfl, by constructor⟩)
theorem run_strOp {op : BinOp} {x y : ByteArray} {v : AV} (h : strOp op x y = some v) (t : TypeId) (w : World) :
    ∃ v', (Go.binOp op t (.string x) (.string y)).run P w = .ok v' w ∧ VR φ v v' := by
  cases op <;> simp only [strOp] at h <;> try (cases h; done)
  all_goals first
    | (cases h; exact ⟨_, by simp [Go.binOp, Op.stringOp]; rfl, by constructor⟩)
    | (split at h
       · cases h
       · rename_i hy
         cases h
         have hy' : ¬ (((x.size + y.size : Nat) : Int) > IntKind.i64.max) := by simp only [IntKind.max, IntKind.signed, IntKind.bits]; simpa using hy
         exact ⟨_, by simp only [Go.binOp, Op.stringOp, if_neg hy', Sem.run_pure]; rfl, by constructor⟩)

theorem eqC_sound (hg : TyAgree P ap) {t : TypeId} {x y : AV} {x' y' : Value} (hx : VR φ x x') (hy : VR φ y y') {b : Bool} (h : eqC ap t x y = some b) (d : Nat) (w : World) :
    (Op.equalIn (d + 1) t x' y').run P w = .ok b w ∧ (∀ n, P.eqGuardType (n + 1) t = false) ∧ (∃ ti, ap.ty t = some ti ∧ ti.td.isAgg = false) := by
  unfold eqC at h
  split at h
  · rename_i ti ht
    obtain ⟨i, d1, z, hk⟩ := hg.get ht
    split at h
    · rename_i a b' htd
      cases h; cases hx; cases hy
      have hu := hk.td
      rw [htd] at hu
      have hu : P.underlying t = some .bool := by
        rw [hk.hd]
        cases d1 <;> simp only [tdOf] at hu <;> first | (cases hu; done) | (cases hu; rfl) | (split at hu <;> cases hu)
      exact ⟨run_equalIn_bool w d t a b' hu, fun n => by simp [Program.eqGuardType, hu], ti, ht, by rw [htd]; rfl⟩
    · rename_i k k1 a k2 b' htd
      split at h
      · rename_i hkk
        subst hkk
        cases h; cases hx; cases hy
        have hu := td_int hk htd
        exact ⟨run_equalIn_int w d t _ _ a b' hu, fun n => by simp [Program.eqGuardType, hu], ti, ht, by rw [htd]; rfl⟩
      · cases h
    · rename_i a b' htd
      cases h; cases hx; cases hy
      have hu := td_string hk htd
      exact ⟨run_equalIn_string w d t a b' hu, fun n => by simp [Program.eqGuardType, hu], ti, ht, by rw [htd]; rfl⟩
    · cases h
  · cases h

theorem eqF_sound (hg : TyAgree P ap) (d : Nat) (w : World) {xs ys : Array Value} : ∀ (fields : List Field) (n : Nat) (l m : List AV) (b : Bool), (∀ f ∈ fields, f.name ≠ "_") → LR φ l xs n → LR φ m ys n →
    eqF ap n (fields.map fun f => (f.offset, f.type)) l m = some b → (Op.eqFields (d + 1) xs ys fields).run P w = .ok b w ∧ ∀ f ∈ fields, ∀ k, P.eqGuardType (k + 1) f.type = false
  | [], n, l, m, b, _, _, _, h => by
    cases l <;> cases m <;> simp only [List.map_nil, eqF] at h <;> try (cases h; done)
    cases h
    exact ⟨by simp [Op.eqFields], fun f hf => by cases hf⟩
  | f :: r, n, l, m, b, hn, hx, hy, h => by
    cases l <;> cases m <;> simp only [List.map_cons, eqF] at h <;> try (cases h; done)
    rename_i a l b' m
    split at h
    · rename_i ho
      replace h := Option.bind_eq_some_iff.1 h
      obtain ⟨q, e1, h⟩ := h
      replace h := Option.bind_eq_some_iff.1 h
      obtain ⟨s, e2, h⟩ := h
      cases h
      obtain ⟨u, u1, u2⟩ := hx 0 a rfl
      obtain ⟨v, v1, v2⟩ := hy 0 b' rfl
      obtain ⟨k1, k2, ti, k3, k4⟩ := eqC_sound hg u2 v2 e1 d w
      obtain ⟨i, d1, z, hk⟩ := hg.get k3
      have p1 : (Go.part f.type xs f.offset).run P w = .ok u w := by rw [Nat.add_zero] at u1; simp [Go.part, run_isAgg' hk, k4, ho, u1]
      have p2 : (Go.part f.type ys f.offset).run P w = .ok v w := by rw [Nat.add_zero] at v1; simp [Go.part, run_isAgg' hk, k4, ho, v1]
      obtain ⟨r1, r2⟩ := eqF_sound hg d w r (n + 1) l m s (fun g hg => hn g (by simp [hg]))
        (fun i a' e => by have := hx (i + 1) a' (by simpa using e); rwa [show n + 1 + i = n + (i + 1) by omega])
        (fun i a' e => by have := hy (i + 1) a' (by simpa using e); rwa [show n + 1 + i = n + (i + 1) by omega]) e2
      refine ⟨?_, fun g hgm => ?_⟩
      · have hn' : f.name ≠ "_" := hn f (by simp)
        rw [Op.eqFields]
        simp only [if_pos hn', Sem.run_bind, p1, p2, k1, Result.andThen_ok]
        cases q
        · simp
        · simpa using r1
      · rcases List.mem_cons.1 hgm with rfl | hgm
        · exact k2
        · exact r2 g hgm
    · cases h

theorem td_bool {t : Nat} {ti : TI} {i : TypeInfo} {d : TypeDesc} {z : Value} (h : TyOk P t ti i d z) (he : ti.td = .bool) : P.underlying t = some .bool := by
  have hd := h.td
  rw [he] at hd
  rw [h.hd]
  cases d <;> simp only [tdOf] at hd <;> first | (cases hd; done) | (cases hd; rfl) | (split at hd <;> cases hd)
theorem td_ptr {t : Nat} {ti : TI} {i : TypeInfo} {d : TypeDesc} {z : Value} (h : TyOk P t ti i d z) {e : Nat} (he : ti.td = .ptr e) : P.underlying t = some (.pointer e) := by
  have hd := h.td
  rw [he] at hd
  rw [h.hd]
  cases d <;> simp only [tdOf] at hd <;> first | (cases hd; done) | (cases hd; rfl) | (split at hd <;> cases hd)
theorem td_func {t : Nat} {ti : TI} {i : TypeInfo} {d : TypeDesc} {z : Value} (h : TyOk P t ti i d z) (he : ti.td = .func) : ∃ a b c, P.underlying t = some (.func a b c) := by
  have hd := h.td
  rw [he] at hd
  rw [h.hd]
  cases d <;> simp only [tdOf] at hd <;> first | (cases hd; done) | exact ⟨_, _, _, rfl⟩ | (split at hd <;> cases hd)
theorem td_iface {t : Nat} {ti : TI} {i : TypeInfo} {d : TypeDesc} {z : Value} (h : TyOk P t ti i d z) (he : ti.td = .iface) : ∃ ms, P.underlying t = some (.interface ms) := by
  have hd := h.td
  rw [he] at hd
  rw [h.hd]
  cases d <;> simp only [tdOf] at hd <;> first | (cases hd; done) | exact ⟨_, rfl⟩ | (split at hd <;> cases hd)

section
variable (d : Nat) {t : TypeId}
theorem eq_p1 {e : TypeId} (h : P.underlying t = some (.pointer e)) (b : Option Addr) : (Op.equalIn (d + 1) t (.pointer none) (.pointer b)).run P w = .ok b.isNone w := by simp [Op.equalIn, run_underlying h]
theorem eq_p2 {e : TypeId} (h : P.underlying t = some (.pointer e)) (b : Addr) : (Op.equalIn (d + 1) t (.pointer (some b)) (.pointer none)).run P w = .ok false w := by simp [Op.equalIn, run_underlying h]
theorem eq_s1 {e : TypeId} (h : P.underlying t = some (.slice e)) (b : Option Addr) (l c : Nat) : (Op.equalIn (d + 1) t (.slice none 0 0) (.slice b l c)).run P w = .ok b.isNone w := by simp [Op.equalIn, run_underlying h]
theorem eq_s2 {e : TypeId} (h : P.underlying t = some (.slice e)) (b : Addr) (l c : Nat) : (Op.equalIn (d + 1) t (.slice (some b) l c) (.slice none 0 0)).run P w = .ok false w := by simp [Op.equalIn, run_underlying h]
theorem eq_f1 {p q : Array TypeId} {r : Bool} (h : P.underlying t = some (.func p q r)) : (Op.equalIn (d + 1) t .nilFunc .nilFunc).run P w = .ok true w := by simp [Op.equalIn, run_underlying h]
theorem eq_f2 {p q : Array TypeId} {r : Bool} (h : P.underlying t = some (.func p q r)) (f : Fn) (a b : Array Value) : (Op.equalIn (d + 1) t .nilFunc (.func f a b)).run P w = .ok false w := by simp [Op.equalIn, run_underlying h]
theorem eq_f3 {p q : Array TypeId} {r : Bool} (h : P.underlying t = some (.func p q r)) (f : Fn) (a b : Array Value) : (Op.equalIn (d + 1) t (.func f a b) .nilFunc).run P w = .ok false w := by simp [Op.equalIn, run_underlying h]
theorem eq_i1 {ms : Array (String × TypeId)} (h : P.underlying t = some (.interface ms)) (u : TypeId) (v : Value) : (Op.equalIn (d + 1) t .nilIface (.iface u v)).run P w = .ok false w := by simp [Op.equalIn, run_underlying h]
theorem eq_i2 {ms : Array (String × TypeId)} (h : P.underlying t = some (.interface ms)) (u : TypeId) (v : Value) : (Op.equalIn (d + 1) t (.iface u v) .nilIface).run P w = .ok false w := by simp [Op.equalIn, run_underlying h]
end
/-- Equality: what the model asks first goes through, too. -/
theorem eqV_sound (hg : TyAgree P ap) {t : TypeId} {x y : AV} {x' y' : Value} (hx : VR φ x x') (hy : VR φ y y') {b : Bool} (h : eqV ap t x y = some b) (w : World) :
    (Op.equal t x' y').run P w = .ok b w ∧ ∀ (op : BinOp) (ox oy : Operand), (eqGuard op t ox oy x' y').run P w = .ok () w := by
  unfold eqV at h
  split at h
  · rename_i ti ht
    obtain ⟨i, d1, z, hk⟩ := hg.get ht
    split at h
    · rename_i a b' htd
      cases h; cases hx; cases hy
      exact ⟨run_equal_bool w t a b' (td_bool hk htd), fun op ox oy => by cases op <;> simp [eqGuard]⟩
    · rename_i fs l m htd
      cases hx with
      | agg _ xs h1 h2 =>
        cases hy with
        | agg _ ys g1 g2 =>
          obtain ⟨fields, f1, f2, f3⟩ := td_struct hk htd
          rw [← f2] at h
          have hf : P.fieldsOf t = fields := by simp [Program.fieldsOf, f1]
          have lx : LR φ l xs 0 := (show ER φ l xs from ⟨h1, h2⟩).lr
          have ly : LR φ m ys 0 := (show ER φ m ys from ⟨g1, g2⟩).lr
          obtain ⟨r1, r2⟩ := eqF_sound hg 9998 w fields.toList 0 l m b f3 lx ly h
          refine ⟨?_, fun op ox oy => ?_⟩
          · show (Op.equalIn (9999 + 1) t (.agg xs) (.agg ys)).run P w = _
            rw [run_equalIn_struct (P := P) w 9999 t xs ys (by rw [hf]; exact f1) hk.held, hf]
            exact r1
          · have hty : P.eqGuardType P.depth t = false := by
              have hdep : P.depth = (2 * (P.types.size + Made.depth)) + 1 + 1 := rfl
              have h0 : ∀ n, P.eqGuardType (n + 1) t = fields.any (fun f => f.name != "_" && P.eqGuardType n f.type) := fun n => by rw [Program.eqGuardType, f1]
              rw [hdep, h0, ← Array.any_toList, List.any_eq_false]
              intro f hfm
              rw [r2 f hfm]
              simp
            cases op <;> simp [eqGuard, hty]
    · rename_i e b' htd
      cases h; cases hx
      have hu := td_ptr hk htd
      cases hy <;> exact ⟨eq_p1 9999 hu _, fun op ox oy => by cases op <;> simp [eqGuard]⟩
    · rename_i e a htd
      cases h; cases hx; cases hy
      exact ⟨eq_p2 9999 (td_ptr hk htd) _, fun op ox oy => by cases op <;> simp [eqGuard]⟩
    · rename_i e l1 c1 s1 b' l2 c2 s2 htd
      cases h; cases hx
      cases hy <;> exact ⟨eq_s1 9999 (td_slice hk htd) _ _ _, fun op ox oy => by cases op <;> simp [eqGuard]⟩
    · rename_i e a l1 c1 s1 l2 c2 s2 htd
      cases h; cases hx; cases hy
      exact ⟨eq_s2 9999 (td_slice hk htd) _ _ _, fun op ox oy => by cases op <;> simp [eqGuard]⟩
    · rename_i htd
      cases h; cases hx; cases hy
      obtain ⟨p, q, r, hu⟩ := td_func hk htd
      exact ⟨eq_f1 9999 hu, fun op ox oy => by cases op <;> simp [eqGuard]⟩
    · rename_i htd
      cases h; cases hx; cases hy
      obtain ⟨p, q, r, hu⟩ := td_func hk htd
      exact ⟨eq_f2 9999 hu _ _ _, fun op ox oy => by cases op <;> simp [eqGuard]⟩
    · rename_i htd
      cases h; cases hx; cases hy
      obtain ⟨p, q, r, hu⟩ := td_func hk htd
      exact ⟨eq_f3 9999 hu _ _ _, fun op ox oy => by cases op <;> simp [eqGuard]⟩
    · rename_i htd
      cases h; cases hx; cases hy
      obtain ⟨p, hu⟩ := td_iface hk htd
      exact ⟨eq_i1 9999 hu _ _, fun op ox oy => by cases op <;> simp [eqGuard]⟩
    · rename_i htd
      cases h; cases hx; cases hy
      obtain ⟨p, hu⟩ := td_iface hk htd
      exact ⟨eq_i2 9999 hu _ _, fun op ox oy => by cases op <;> simp [eqGuard]⟩
    · cases h
  · cases h

theorem eqGuard_scalar {op : BinOp} {t : TypeId} {ox oy : Operand} {x y : Value} (hx : (∃ k n, x = .int k n) ∨ ∃ s, x = .string s) (w : World) : (eqGuard op t ox oy x y).run P w = .ok () w := by
  rcases hx with ⟨k, n, rfl⟩ | ⟨s, rfl⟩ <;> cases op <;> simp [eqGuard]

theorem sound_bin (hg : TyAgree P ap) {op : BinOp} {t : TypeId} {x y : AV} {x' y' : Value} (hx : VR φ x x') (hy : VR φ y y') (ox oy : Operand) {v : AV} (h : abin ap op t x y = some v) (w : World) :
    ∃ v', ((do eqGuard op t ox oy x' y'; Go.binOp op t x' y') : Sem Value).run P w = .ok v' w ∧ VR φ v v' := by
  unfold abin at h
  split at h
  · rename_i k a k' b
    cases hx; cases hy
    split at h
    · rename_i hop
      obtain ⟨v', k1, k2⟩ := run_shift (φ := φ) (P := P) h k' t w
      exact ⟨v', by rw [Sem.run_bind, eqGuard_scalar (.inl ⟨_, _, rfl⟩)]; exact k1, k2⟩
    · rename_i hop
      split at h
      · rename_i hkk
        subst hkk
        obtain ⟨v', k1, k2⟩ := run_arith (φ := φ) (P := P) h hop t w
        exact ⟨v', by rw [Sem.run_bind, eqGuard_scalar (.inl ⟨_, _, rfl⟩)]; exact k1, k2⟩
      · cases h
  · rename_i a b
    cases hx; cases hy
    obtain ⟨v', k1, k2⟩ := run_strOp (φ := φ) (P := P) h t w
    exact ⟨v', by rw [Sem.run_bind, eqGuard_scalar (.inr ⟨_, rfl⟩)]; exact k1, k2⟩
  · rename_i n1 n2
    have hb : ∀ (neg : Bool), (∀ k a k' b, x' = .int k a → y' = .int k' b → False) → True := fun _ _ => trivial
    split at h
    · obtain ⟨b, e1, h⟩ := Option.map_eq_some_iff.1 h
      subst h
      obtain ⟨k1, k2⟩ := eqV_sound hg hx hy e1 w
      refine ⟨.bool b, ?_, .bool _⟩
      rw [Sem.run_bind, k2]
      have e2 := e1
      unfold eqV at e2
      split at e2
      · split at e2 <;> first | (cases e2; done) | (cases hx <;> cases hy <;> simp [Go.binOp, k1])
      · cases e2
    · obtain ⟨b, e1, h⟩ := Option.map_eq_some_iff.1 h
      subst h
      obtain ⟨k1, k2⟩ := eqV_sound hg hx hy e1 w
      refine ⟨.bool (!b), ?_, .bool _⟩
      rw [Sem.run_bind, k2]
      have e2 := e1
      unfold eqV at e2
      split at e2
      · split at e2 <;> first | (cases e2; done) | (cases hx <;> cases hy <;> simp [Go.binOp, k1])
      · cases e2
    · cases h

theorem sound_un {op : UnOp} {x : AV} {x' : Value} (hx : VR φ x x') {v : AV} (h : aun op x = some v) (w : World) : ∃ v', (Op.unary op x').run P w = .ok v' w ∧ VR φ v v' := by
  unfold aun at h
  split at h
  · cases hx
    simp only [arith] at h; cases h
    exact ⟨_, by simp [Op.unary, Op.intArith], .int _ _⟩
  · cases hx
    simp only [arith] at h; cases h
    exact ⟨_, by simp [Op.unary, Op.intBits], .int _ _⟩
  · cases hx; cases h
    exact ⟨_, by simp [Op.unary], .bool _⟩
  · cases h
end
end Go.Ab
end
section
/-! All operations that are no calls of functions, together. -/
set_option linter.unusedVariables false
set_option linter.unusedSimpArgs false
namespace Go.Ab
section
variable {P : Program} {ap : AP} {φ : Inj} {H : AH} {w : World}

theorem isU8_some (hg : TyAgree P ap) {e : TypeId} (h : isU8 ap e = true) : P.underlying e = some (.int .u8) := by
  unfold isU8 at h
  split at h
  · rename_i ti ht
    obtain ⟨i, d, z, hk⟩ := hg.get ht
    split at h
    · rename_i htd
      exact td_int hk htd
    · cases h
  · cases h
theorem foldl_strN (ns : List Int) (s : ByteArray) : ns.foldl (fun r n => r.push (UInt8.ofNat n.toNat)) s = ⟨s.data ++ (ns.map fun n => UInt8.ofNat n.toNat).toArray⟩ := by
  induction ns generalizing s with
  | nil => simp
  | cons n r ih =>
    rw [List.foldl_cons, ih]
    congr 1
    apply Array.ext'
    simp [ByteArray.push]
theorem strN_eq (ns : List Int) : ns.foldl (fun r n => r.push (UInt8.ofNat n.toNat)) ByteArray.empty = strN ns := by
  rw [foldl_strN]
  unfold strN
  congr 1
  simp [ByteArray.empty, ByteArray.emptyWithCapacity]
  rfl
theorem numsAV_er : ∀ (l : List AV) (cs : List Value) (ns : List Int), ER φ l cs.toArray → numsAV l = some ns → cs = ns.map (Value.int .u8)
  | [], [], ns, _, h => by simp only [numsAV] at h; cases h; rfl
  | [], c :: cs, ns, h0, _ => by have := h0.1; simp at this
  | a :: l, [], ns, h0, _ => by have := h0.1; simp at this
  | a :: l, c :: cs, ns, h0, h => by
    have hv := h0.2 0 a c rfl rfl
    cases hv <;> (try (simp [numsAV] at h; done))
    rename_i k n
    cases k <;> (try (simp [numsAV] at h; done))
    simp only [numsAV] at h
    obtain ⟨ms, e1, e2⟩ := Option.map_eq_some_iff.1 h
    subst e2
    have ih := numsAV_er l cs ms ⟨by have := h0.1; simpa using this, fun i a v g1 g2 => h0.2 (i + 1) a v (by simpa using g1) (by simpa using g2)⟩ e1
    rw [ih]; rfl

theorem sound_convert (hg : TyAgree P ap) (hr : Rel φ H w.heap) {src dst : TypeId} {x : AV} {x' : Value} (hx : VR φ x x') {lo : Nat} {v : AV} {H' : AH} (h : aconvert ap lo H src dst x = some (v, H')) :
    ∃ v' w' φ', (Go.convert src dst x').run P w = .ok v' w' ∧ SimW φ H w φ' H' w' ∧ VR φ' v v' := by
  unfold aconvert at h
  replace h := Option.bind_eq_some_iff.1 h
  obtain ⟨ts, e1, h⟩ := h
  replace h := Option.bind_eq_some_iff.1 h
  obtain ⟨td, e2, h⟩ := h
  obtain ⟨i1, d1, z1, hs⟩ := hg.get e1
  obtain ⟨i2, d2, z2, hd⟩ := hg.get e2
  split at h
  · rename_i k0 k k1 n ht1 ht2
    cases hx
    obtain ⟨rfl, rfl⟩ := Prod.mk.inj (Option.some.inj h)
    refine ⟨_, w, φ, ?_, .refl hr, .int _ _⟩
    simp [Go.convert, run_underlying (td_int hs ht1), run_underlying (td_int hd ht2), Conv.intToInt]
  · rename_i s ht1 ht2
    cases hx
    obtain ⟨rfl, rfl⟩ := Prod.mk.inj (Option.some.inj h)
    refine ⟨_, w, φ, ?_, .refl hr, .str _⟩
    simp [Go.convert, run_underlying (td_string hs ht1), run_underlying (td_string hd ht2)]
  · rename_i e s ht1 ht2
    split at h
    · rename_i hu
      cases hx
      obtain ⟨rfl, rfl⟩ := Prod.mk.inj (Option.some.inj h)
      have hrun := Lib.run_convert_string_bytes (P := P) w src dst e s (td_string hs ht1) (td_slice hd ht2) (isU8_some hg hu)
      have hcs : (Lib.bytesCells w e s).size = grownCap w s.size 0 e := by
        have := grownCap_ge w s.size 0 e
        simp [Lib.bytesCells]; omega
      refine ⟨_, _, upd φ H.length ⟨w.heap.size, 0, grownCap w s.size 0 e⟩, hrun, ?_, ?_⟩
      · have hheap : (Lib.bytesWorld w e s).heap = w.heap.push (.cells (Lib.bytesCells w e s) e ((Lib.bytesCells w e s).size, (Lib.bytesCells w e s).size + 1)) := by
          apply Array.ext_getElem?
          intro j
          rcases Nat.lt_trichotomy j w.heap.size with hj | hj | hj
          · rw [Lib.bytesWorld_at_old w e s j hj, Array.getElem?_push, if_neg (by omega)]
          · subst hj
            rw [Lib.bytesWorld_at_new]; simp
          · rw [Array.getElem?_eq_none (by rw [Lib.bytesWorld_size]; omega), Array.getElem?_eq_none (by simp; omega)]
        refine ⟨?_, ⟨rfl, rfl, rfl⟩⟩
        rw [hheap]
        have hge := grownCap_ge w s.size 0 e
        have hsz : s.size = s.data.toList.length := rfl
        refine alloc_cells hr hcs (by simp; omega) ?_ (.inr (by show grownCap w s.size 0 e ≤ (Lib.bytesCells w e s).size; omega))
        have := er_str φ s.data.toList
        intro i a hi
        obtain ⟨v', k1, k2⟩ := this.lr i a hi
        refine ⟨v', ?_, k2⟩
        have hil : i < s.data.toList.length := by
          have := (List.getElem?_eq_some_iff.1 hi).1
          simpa using this
        rw [Nat.zero_add] at k1 ⊢
        unfold Lib.bytesCells
        rw [Array.getElem?_append_left (by simpa using hil)]
        simpa using k1
      · exact .slice _ _ _ _ _ ⟨w.heap.size, 0, grownCap w s.size 0 e⟩ _ _ (upd_self _ _ _) (.inl rfl) (grownCap_ge _ _ _ _) (by show 0 + 0 + _ * 1 ≤ grownCap w s.size 0 e; omega) (.inr ⟨rfl, by show 0 + 0 + _ * 1 = grownCap w s.size 0 e; omega⟩)
    · cases h
  · rename_i e a len cap sz ht1 ht2
    split at h
    · rename_i hu
      have hu8 := isU8_some hg hu
      have hrun : ∀ x', (Go.convert src dst (.slice x' len len)).run P w = (Go.convert src dst (.slice x' len len)).run P w := fun _ => rfl
      split at h
      · cases hx
        obtain ⟨rfl, rfl⟩ := Prod.mk.inj (Option.some.inj h)
        refine ⟨_, w, φ, ?_, .refl hr, .str _⟩
        simp [Go.convert, run_underlying (td_slice hs ht1), run_underlying (td_string hd ht2), run_underlying hu8, Conv.bytesToString]
      · split at h
        · rename_i hsz1
          subst hsz1
          replace h := Option.bind_eq_some_iff.1 h
          obtain ⟨l, e3, h⟩ := h
          replace h := Option.map_eq_some_iff.1 h
          obtain ⟨ns, e4, h⟩ := h
          obtain ⟨rfl, rfl⟩ := Prod.mk.inj h
          have hx0 := hx
          cases hx with
          | slice b o _ _ _ p a' cap' hp ha hl hR hc =>
            obtain ⟨cs, c1, c2, c3⟩ := sound_first (P := P) hr hx0 e3 (m := len) rfl (Nat.le_refl _) rfl
            have hcs := numsAV_er l cs ns c3 e4
            subst hcs
            refine ⟨_, w, φ, ?_, .refl hr, .str _⟩
            have hload : (loadCells a' len).run P w = .ok (ns.map (Value.int .u8)).toArray w := by
              simpa [Builtin.firstCells] using c2
            have := run_bytesToString (P := P) w a' len cap' ns hload
            rw [strN_eq] at this
            simp [Go.convert, run_underlying (td_slice hs ht1), run_underlying (td_string hd ht2), run_underlying hu8, this]
        · cases h
    · cases h
  · rename_i e0 e b o len cap s ht1 ht2
    split at h
    · rename_i hc
      simp only [Bool.and_eq_true, beq_iff_eq, decide_eq_true_eq] at hc
      obtain ⟨⟨hsd, hu⟩, hl0⟩ := hc
      have hu8 := isU8_some hg hu
      replace h := Option.map_eq_some_iff.1 h
      obtain ⟨l, e3, h⟩ := h
      obtain ⟨rfl, rfl⟩ := Prod.mk.inj h
      obtain ⟨e4, _⟩ := rowRw_some e3
      have hx0 := hx
      cases hx with
      | slice _ _ _ _ _ p a' cap' hp ha hl hR hcc =>
        have ha' : a' = ⟨p.blk, p.d + o, none⟩ := ha.resolve_right (by omega)
        subst ha'
        obtain ⟨c, e', fr, g1, g2, g3, g4, g5⟩ := hr.row hp e4
        have hsh : w.shape? p.blk = some (e', c.size) := by simp [World.shape?, g1]
        refine ⟨.slice (some ⟨p.blk, p.d + o, none⟩) len cap', w.freeze ⟨p.blk, c.size, none⟩ 1, φ, ?_, ?_, hx0⟩
        · simp [Go.convert, run_underlying (td_slice hs ht1), run_underlying (td_slice hd ht2), run_underlying hu8, hsd, markStringish, hsh]
        · have hheap : (w.freeze ⟨p.blk, c.size, none⟩ 1).heap = w.heap.setIfInBounds p.blk (.cells c e' (if fr.1 == fr.2 then (c.size, c.size + 1) else (min fr.1 c.size, max fr.2 (c.size + 1)))) := by
            have hlt := (Array.getElem?_eq_some_iff.1 g1).1
            apply Array.ext_getElem?
            intro k
            simp only [World.freeze]
            rw [if_neg (by decide), Array.getElem?_modify]
            by_cases hk : p.blk = k
            · subst hk; rw [Array.getElem?_setIfInBounds_self, if_pos rfl, if_pos hlt, g1]; rfl
            · rw [Array.getElem?_setIfInBounds_ne hk, if_neg hk]
          have hH : H.set b (.cells l .rw) = H := by
            apply List.ext_getElem?
            intro k
            by_cases hk : b = k
            · subst hk; rw [List.getElem?_set_self (List.getElem?_eq_some_iff.1 e4).1, e4]
            · rw [List.getElem?_set_ne hk]
          refine ⟨?_, ⟨rfl, rfl, rfl⟩⟩
          rw [hheap]
          have := Sim.write hr hp e4 (A' := .cells l .rw) rfl g1 (O' := .cells c e' (if fr.1 == fr.2 then (c.size, c.size + 1) else (min fr.1 c.size, max fr.2 (c.size + 1)))) (fun c1 e1 fr1 q => by cases q; exact ⟨_, _, _, rfl, rfl⟩)
            (.cells _ _ _ _ _ g2 g3 g4 (fun _ => by
              have := g5 rfl
              split
              · right; simp; omega
              · rename_i hne
                have hne : fr.1 ≠ fr.2 := by simpa using hne
                right
                simp only
                rcases this with h | h
                · exact absurd h hne
                · omega) (fun q => by cases q)) (.inl rfl)
          rwa [hH] at this
    · cases h
  · cases h

theorem zeroCells_eq (z : Array Value) (n : Nat) : Builtin.zeroCells z n = (Array.range (n * z.size)).map (z[· % z.size]!) := rfl

theorem sound_clear (hg : TyAgree P ap) (hr : Rel φ H w.heap) {b o n : Nat} {cap : Option Nat} {x' : Value} {e t : TypeId} {te : TI} (hte : ap.ty e = some te) (hx : VR φ (.slice (some (b, o)) n cap te.sz) x') {lo : Nat} {ts : Array TypeId}
    (h0 : ts[0]? = some t) (ht : P.underlying t = some (.slice e)) (ty : TypeId) (hn : n ≠ 0) {l : List AV} (hl : rowRw H lo b = some l) (hfit : o + n * te.sz ≤ l.length) (hone : te.zero.all AV.one = true) :
    ∃ w', (Builtin.clear_ ts ty #[x']).run P w = .ok (.tuple #[]) w' ∧ SimW φ H w φ (H.set b (.cells (splice l o (List.replicate n te.zero).flatten) .rw)) w' := by
  obtain ⟨i1, d1, z1, ht1⟩ := hg.get hte
  cases hx with
  | slice _ _ _ _ _ p a' cap' hp ha hll hR hc =>
    have ha' : a' = ⟨p.blk, p.d + o, none⟩ := ha.resolve_right (by omega)
    subst ha'
    have hz := er_zeros φ z1.cells n (n * z1.cells.size) rfl
    rw [← ht1.zero] at hz
    have hzl : te.zero.length = te.sz := by rw [ht1.zero]; simp [ht1.zs, ht1.sz]
    obtain ⟨w', s1, s2⟩ := hr.store (P := P) hp (rowRw_some hl).1 (vs := (Builtin.zeroCells z1.cells n).toList) (by rw [Array.toArray_toList, zeroCells_eq]; exact hz) (by rw [flat_len, hzl]; exact hfit) (by
      rw [List.all_eq_true] at hone ⊢
      intro a ha
      obtain ⟨m, h1, h2⟩ := List.mem_flatten.1 ha
      rw [List.eq_of_mem_replicate h1] at h2
      exact hone a h2)
    refine ⟨w', ?_, s2⟩
    cases n with
    | zero => exact absurd rfl hn
    | succ n => simp [Builtin.clear_, h0, run_underlying ht, zeroValue, typeInfo, ht1.hi, ht1.hz, s1]

theorem invoke_builtin (c : Call) (b : Builtin) (hb : c.callee = .builtin b) (ρ : Operand → Value) (ty : TypeId) (w : World) :
    ∃ consts, (do let d ← resolve ρ c ty; invoke d.target d.args : Sem Next).run P w = (Go.builtin b c.argTypes ty consts (c.args.map ρ)).run P w := by
  refine ⟨c.args.map fun | .const _ => true | _ => false, ?_⟩
  simp only [resolve, hb]
  rfl

theorem one_arg {φ : Inj} {x : AV} {l' : List Value} (h : ER φ [x] l'.toArray) : ∃ x', l' = [x'] ∧ VR φ x x' := by
  match l', h with
  | [], h => have := h.1; simp at this
  | [x'], h => exact ⟨x', rfl, h.2 0 x x' rfl rfl⟩
  | _ :: _ :: _, h => have := h.1; simp at this
theorem two_args {φ : Inj} {x y : AV} {l' : List Value} (h : ER φ [x, y] l'.toArray) : ∃ x' y', l' = [x', y'] ∧ VR φ x x' ∧ VR φ y y' := by
  match l', h with
  | [], h => have := h.1; simp at this
  | [_], h => have := h.1; simp at this
  | [x', y'], h => exact ⟨x', y', rfl, h.2 0 x x' rfl rfl, h.2 1 y y' rfl rfl⟩
  | _ :: _ :: _ :: _, h => have := h.1; simp at this

theorem sound_builtin (hg : TyAgree P ap) (hr : Rel φ H w.heap) {xs : List AV} {xs' : Array Value} (hx : ER φ xs xs') {b : Builtin} {ts : Array TypeId} {lo : Nat} {v : AV} {H' : AH} (h : abuiltin ap lo H b ts xs = some (v, H')) (ty : TypeId) (consts : Array Bool) :
    ∃ v' w' φ', (Go.builtin b ts ty consts xs').run P w = .ok (.value v') w' ∧ SimW φ H w φ' H' w' ∧ VR φ' v v' := by
  unfold abuiltin at h
  obtain ⟨l'⟩ := xs'
  split at h
  · -- len
    obtain ⟨x', rfl, hv⟩ := one_arg hx
    replace h := Option.bind_eq_some_iff.1 h
    obtain ⟨t, e1, h⟩ := h
    replace h := Option.bind_eq_some_iff.1 h
    obtain ⟨ti, e2, h⟩ := h
    obtain ⟨i, d, z, ht⟩ := hg.get e2
    split at h
    · rename_i s htd
      obtain ⟨rfl, rfl⟩ := Prod.mk.inj (Option.some.inj h)
      cases hv
      exact ⟨_, w, φ, by simp [Go.builtin, Builtin.len_, goInt, e1, run_underlying (td_string ht htd)], .refl hr, .int _ _⟩
    · rename_i e a n c s htd
      obtain ⟨rfl, rfl⟩ := Prod.mk.inj (Option.some.inj h)
      cases hv <;> exact ⟨_, w, φ, by simp [Go.builtin, Builtin.len_, goInt, e1, run_underlying (td_slice ht htd)], .refl hr, .int _ _⟩
    · rename_i n e htd
      obtain ⟨rfl, rfl⟩ := Prod.mk.inj (Option.some.inj h)
      exact ⟨_, w, φ, by simp [Go.builtin, Builtin.len_, goInt, e1, run_underlying (td_array ht htd)], .refl hr, .int _ _⟩
    · cases h
  · -- cap
    obtain ⟨x', rfl, hv⟩ := one_arg hx
    replace h := Option.bind_eq_some_iff.1 h
    obtain ⟨t, e1, h⟩ := h
    replace h := Option.bind_eq_some_iff.1 h
    obtain ⟨ti, e2, h⟩ := h
    obtain ⟨i, d, z, ht⟩ := hg.get e2
    split at h
    · rename_i e a n c s htd
      obtain ⟨rfl, rfl⟩ := Prod.mk.inj (Option.some.inj h)
      cases hv with
      | slice _ _ _ _ _ p a' cap' hp ha hl hR hc =>
        have hcc : cap' = c := by
          rcases hc with ⟨c', hc1, hc2⟩ | ⟨hc1, _⟩
          · cases hc1; exact hc2
          · cases hc1
        subst hcc
        exact ⟨_, w, φ, by simp [Go.builtin, Builtin.cap_, goInt, e1, run_underlying (td_slice ht htd)], .refl hr, .int _ _⟩
    · rename_i e n c s htd
      obtain ⟨rfl, rfl⟩ := Prod.mk.inj (Option.some.inj h)
      cases hv
      exact ⟨_, w, φ, by simp [Go.builtin, Builtin.cap_, goInt, e1, run_underlying (td_slice ht htd)], .refl hr, .int _ _⟩
    · cases h
  · -- append
    obtain ⟨s', x', rfl, hs, hv⟩ := two_args hx
    replace h := Option.bind_eq_some_iff.1 h
    obtain ⟨t, e1, h⟩ := h
    replace h := Option.bind_eq_some_iff.1 h
    obtain ⟨ti, e2, h⟩ := h
    obtain ⟨i, d, z, ht⟩ := hg.get e2
    split at h
    · rename_i e htd
      replace h := Option.bind_eq_some_iff.1 h
      obtain ⟨te, e3, h⟩ := h
      obtain ⟨i1, d1, z1, ht1⟩ := hg.get e3
      split at h
      · rename_i hap
        have hT : ApT P ts t e i1 z1 := by
          refine ⟨e1, td_slice ht htd, ht1.hi, ht1.hz, ?_⟩
          unfold apT at hap
          cases hu : ts[1]? with
          | none => rw [hu] at hap; simp at hap
          | some u =>
            rw [hu] at hap
            simp only [Option.bind_some] at hap
            split at hap
            · rename_i tu etu
              obtain ⟨i2, d2, z2, ht2⟩ := hg.get etu
              split at hap
              · rename_i e' htd'
                exact ⟨u, _, rfl, td_slice ht2 htd', fun k => by simp⟩
              · rename_i htd'
                exact ⟨u, _, rfl, td_string ht2 htd', fun k => by simp⟩
              · cases hap
            · cases hap
        obtain ⟨v', w', φ', k1, k2, k3⟩ := sound_append hg hr hs hv ht1 hT ty h
        exact ⟨v', w', φ', by simp [Go.builtin, k1], k2, k3⟩
      · split at h
        · rename_i hapi
          have hu : ∃ u, ts[1]? = some u ∧ P.underlying u = some (.int .i64) := by
            unfold apI at hapi
            cases hu : ts[1]? with
            | none => rw [hu] at hapi; simp at hapi
            | some u =>
              rw [hu] at hapi
              simp only [Option.bind_some] at hapi
              split at hapi
              · rename_i tu etu
                obtain ⟨i2, d2, z2, ht2⟩ := hg.get etu
                split at hapi
                · rename_i htd'
                  exact ⟨u, rfl, td_int ht2 htd'⟩
                · cases hapi
              · cases hapi
          obtain ⟨u, hu1, hu2⟩ := hu
          obtain ⟨v', w', φ', k1, k2, k3⟩ := sound_appendZ hg hr hs hv ht1 e1 (td_slice ht htd) hu1 hu2 ty h
          exact ⟨v', w', φ', by simp [Go.builtin, k1], k2, k3⟩
        · cases h
    · cases h
  · -- copy
    obtain ⟨s', x', rfl, hs, hv⟩ := two_args hx
    replace h := Option.bind_eq_some_iff.1 h
    obtain ⟨t, e1, h⟩ := h
    replace h := Option.bind_eq_some_iff.1 h
    obtain ⟨ti, e2, h⟩ := h
    obtain ⟨i, d, z, ht⟩ := hg.get e2
    split at h
    · rename_i e htd
      replace h := Option.bind_eq_some_iff.1 h
      obtain ⟨te, e3, h⟩ := h
      obtain ⟨v', w', k1, k2, k3⟩ := sound_copy (P := P) hg hr hs hv e3 e1 (td_slice ht htd) ty h
      exact ⟨v', w', φ, by simp [Go.builtin, k1], k2, k3⟩
    · cases h
  · -- max
    obtain ⟨u, e1, e2⟩ := Option.map_eq_some_iff.1 h
    obtain ⟨rfl, rfl⟩ := Prod.mk.inj e2
    obtain ⟨v', k1, k2⟩ := sound_amm (P := P) hx true e1 ts ty w
    simp only [if_true] at k1
    exact ⟨v', w, φ, by simp [Go.builtin, k1], .refl hr, k2⟩
  · -- min
    obtain ⟨u, e1, e2⟩ := Option.map_eq_some_iff.1 h
    obtain ⟨rfl, rfl⟩ := Prod.mk.inj e2
    obtain ⟨v', k1, k2⟩ := sound_amm (P := P) hx false e1 ts ty w
    simp only [Bool.false_eq_true, if_false] at k1
    exact ⟨v', w, φ, by simp [Go.builtin, k1], .refl hr, k2⟩
  · -- clear
    obtain ⟨x', rfl, hv⟩ := one_arg hx
    replace h := Option.bind_eq_some_iff.1 h
    obtain ⟨t, e1, h⟩ := h
    replace h := Option.bind_eq_some_iff.1 h
    obtain ⟨ti, e2, h⟩ := h
    obtain ⟨i, d, z, ht⟩ := hg.get e2
    have hnil : VR φ (.tuple []) (.tuple #[]) := .tuple _ _ rfl (fun i a v h => by simp at h)
    split at h
    · rename_i e n c s htd
      obtain ⟨rfl, rfl⟩ := Prod.mk.inj (Option.some.inj h)
      cases hv
      exact ⟨_, w, φ, by simp [Go.builtin, Builtin.clear_, e1, run_underlying (td_slice ht htd)], .refl hr, hnil⟩
    · rename_i e b o n c s htd
      replace h := Option.bind_eq_some_iff.1 h
      obtain ⟨te, e3, h⟩ := h
      split at h
      · cases h
      · rename_i hs
        have hs : s = te.sz := by simpa using hs
        subst hs
        split at h
        · rename_i hn0
          obtain ⟨rfl, rfl⟩ := Prod.mk.inj (Option.some.inj h)
          subst hn0
          cases hv
          exact ⟨_, w, φ, by simp [Go.builtin, Builtin.clear_, e1, run_underlying (td_slice ht htd)], .refl hr, hnil⟩
        · rename_i hn0
          replace h := Option.bind_eq_some_iff.1 h
          obtain ⟨l, e4, h⟩ := h
          split at h
          · rename_i hfit
            obtain ⟨rfl, rfl⟩ := Prod.mk.inj (Option.some.inj h)
            obtain ⟨w', k1, k2⟩ := sound_clear (P := P) hg hr e3 hv e1 (td_slice ht htd) ty hn0 e4 hfit.1 hfit.2
            exact ⟨_, w', φ, by simp [Go.builtin, k1], k2, hnil⟩
          · cases h
    · cases h
  · cases h

/-- What an operation hands back: a value, or nothing. -/
def Gives (nx : Next) (v : Value) : Prop := nx = .value v ∨ (nx = .skip ∧ v = undef)

theorem sound_aop (hg : TyAgree P ap) (hr : Rel φ H w.heap) {env : List AV} {a : Act} (he : ER φ env a.tmps) {lo : Nat} {o : Oper} {v : AV} {H' : AH} (h : aop ap lo env H o.op = some (v, H')) :
    ∃ nx v' w' φ', (execOp a.eval o).run P w = .ok nx w' ∧ Gives nx v' ∧ SimW φ H w φ' H' w' ∧ VR φ' v v' := by
  obtain ⟨dst, op, type, pos, after, guard⟩ := o
  simp only at h
  have pure_ : ∀ {s : Sem Value} {v' : Value}, H' = H → s.run P w = .ok v' w → VR φ v v' → ∃ nx v' w' φ', ((do pure (Next.value (← s)) : Sem Next)).run P w = .ok nx w' ∧ Gives nx v' ∧ SimW φ H w φ' H' w' ∧ VR φ' v v' := by
    intro s v' e k1 k2
    subst e
    exact ⟨_, v', w, φ, by simp [k1], .inl rfl, .refl hr, k2⟩
  have val_ : ∀ {s : Sem Value}, (∃ v' w' φ', s.run P w = .ok v' w' ∧ SimW φ H w φ' H' w' ∧ VR φ' v v') → ∃ nx v' w' φ', ((do pure (Next.value (← s)) : Sem Next)).run P w = .ok nx w' ∧ Gives nx v' ∧ SimW φ H w φ' H' w' ∧ VR φ' v v' := by
    rintro s ⟨v', w', φ', k1, k2, k3⟩
    exact ⟨_, v', w', φ', by simp [k1], .inl rfl, k2, k3⟩
  cases op <;> simp only [execOp]
  case move x =>
    simp only [aop] at h
    obtain ⟨rfl, rfl⟩ := Prod.mk.inj (Option.some.inj h)
    exact ⟨_, _, w, φ, rfl, .inl rfl, .refl hr, vr_opd he x⟩
  case assign x =>
    simp only [aop] at h
    obtain ⟨rfl, rfl⟩ := Prod.mk.inj (Option.some.inj h)
    exact ⟨_, _, w, φ, rfl, .inl rfl, .refl hr, vr_opd he x⟩
  case pick c x y =>
    simp only [aop] at h
    have hc := vr_opd he c
    split at h
    · rename_i t ht
      obtain ⟨rfl, rfl⟩ := Prod.mk.inj (Option.some.inj h)
      rw [ht] at hc
      generalize a.eval c = cv at hc
      cases hc
      refine ⟨_, if t then a.eval x else a.eval y, w, φ, by simp [asBool], .inl rfl, .refl hr, ?_⟩
      cases t
      · simpa using vr_opd he y
      · simpa using vr_opd he x
    · cases h
  case alloc e =>
    simp only [aop] at h
    obtain ⟨ti, e1, h⟩ := Option.map_eq_some_iff.1 h
    obtain ⟨rfl, rfl⟩ := Prod.mk.inj h
    exact val_ (sound_alloc hg hr e1)
  case box e x =>
    simp only [aop] at h
    obtain ⟨cs, e1, h⟩ := Option.map_eq_some_iff.1 h
    obtain ⟨rfl, rfl⟩ := Prod.mk.inj h
    exact val_ (sound_box hr (vr_opd he x) e1)
  case build t parts =>
    obtain ⟨e, v', k1, k2⟩ := sound_build hg hr he h
    exact pure_ e k1 k2
  case buildSlice t len parts => exact val_ (sound_buildSlice hg hr he h)
  case load t x =>
    simp only [aop] at h
    obtain ⟨u, e1, h⟩ := Option.map_eq_some_iff.1 h
    obtain ⟨rfl, rfl⟩ := Prod.mk.inj h
    obtain ⟨v', k1, k2⟩ := sound_load (P := P) hg hr (vr_opd he x) e1
    exact pure_ rfl k1 k2
  case store t x y =>
    simp only [aop] at h
    obtain ⟨u, e1, h⟩ := Option.map_eq_some_iff.1 h
    obtain ⟨rfl, rfl⟩ := Prod.mk.inj h
    obtain ⟨w', k1, k2⟩ := sound_store (P := P) hg hr (vr_opd he x) (vr_opd he y) e1
    exact ⟨.skip, undef, w', φ, by simp [k1], .inr ⟨rfl, rfl⟩, k2, .undef _⟩
  case nilCheck x =>
    simp only [aop] at h
    have hc := vr_opd he x
    split at h
    · rename_i q hx
      obtain ⟨rfl, rfl⟩ := Prod.mk.inj (Option.some.inj h)
      rw [hx] at hc
      have hc0 := hc
      generalize a.eval x = cv at hc hc0
      cases hc with
      | ptr b o p hp => exact ⟨_, _, w, φ, rfl, .inl rfl, .refl hr, hc0⟩
    · rename_i f l1 l2 hx
      obtain ⟨rfl, rfl⟩ := Prod.mk.inj (Option.some.inj h)
      rw [hx] at hc
      have hc0 := hc
      generalize a.eval x = cv at hc hc0
      cases hc with
      | func => exact ⟨_, _, w, φ, rfl, .inl rfl, .refl hr, hc0⟩
    · rename_i l1 hx
      obtain ⟨rfl, rfl⟩ := Prod.mk.inj (Option.some.inj h)
      rw [hx] at hc
      have hc0 := hc
      generalize a.eval x = cv at hc hc0
      cases hc with
      | yield => exact ⟨_, _, w, φ, rfl, .inl rfl, .refl hr, hc0⟩
    · rename_i a1 n c s hx
      obtain ⟨rfl, rfl⟩ := Prod.mk.inj (Option.some.inj h)
      rw [hx] at hc
      have hc0 := hc
      generalize a.eval x = cv at hc hc0
      cases hc <;> exact ⟨_, _, w, φ, rfl, .inl rfl, .refl hr, hc0⟩
    · cases h
  case binOp op t x y yt =>
    simp only [aop] at h
    obtain ⟨u, e1, h⟩ := Option.map_eq_some_iff.1 h
    obtain ⟨rfl, rfl⟩ := Prod.mk.inj h
    obtain ⟨v', k1, k2⟩ := sound_bin (P := P) hg (vr_opd he x) (vr_opd he y) x y e1 w
    exact pure_ rfl k1 k2
  case unOp op t x =>
    simp only [aop] at h
    obtain ⟨u, e1, h⟩ := Option.map_eq_some_iff.1 h
    obtain ⟨rfl, rfl⟩ := Prod.mk.inj h
    obtain ⟨v', k1, k2⟩ := sound_un (P := P) (vr_opd he x) e1 w
    exact pure_ rfl k1 k2
  case convert s d x => exact val_ (sound_convert hg hr (vr_opd he x) h)
  case makeInterface t x =>
    simp only [aop] at h
    replace h := Option.bind_eq_some_iff.1 h
    obtain ⟨ti, e1, h⟩ := h
    obtain ⟨i, d, z, ht⟩ := hg.get e1
    have htd := ht.td
    have hrun : ∀ x', (ti.td ≠ .iface) → (Instr.makeInterface t x').run P w = .ok (.iface t x') w := by
      intro x' hne
      simp only [Instr.makeInterface, Sem.run_bind, run_underlying ht.hd, Result.andThen_ok]
      cases d <;> first | rfl | (simp only [tdOf] at htd; exact absurd (Option.some.inj htd).symm hne)
    split at h
    · cases h
    · cases h
    · rename_i h1 h2
      obtain ⟨rfl, rfl⟩ := Prod.mk.inj (Option.some.inj h)
      exact pure_ rfl (hrun _ (by simpa using h1)) (.iface _ _ _ (vr_opd he x))
  case makeFunc fn first caps =>
    simp only [aop] at h
    cases fn <;> simp only at h <;> try (cases h; done)
    obtain ⟨rfl, rfl⟩ := Prod.mk.inj (Option.some.inj h)
    have h1 := er_opds he first
    have h2 := er_opds he caps
    exact pure_ rfl (by simp only [Instr.makeFunc, Sem.run_pure]) (.func _ _ _ _ _ h1.1 h1.2 h2.1 h2.2)
  case makeSlice t l c => exact val_ (sound_makeSlice hg hr he h)
  case slice t x lo' hi mx =>
    simp only [aop] at h
    replace h := Option.bind_eq_some_iff.1 h
    obtain ⟨ti, e1, h⟩ := h
    obtain ⟨i, d, z, ht⟩ := hg.get e1
    have hx := vr_opd he x
    have r1 := rel_opt he lo'
    have r2 := rel_opt he hi
    have r3 := rel_opt he mx
    split at h
    · rename_i e htd
      replace h := Option.bind_eq_some_iff.1 h
      obtain ⟨te, e2, h⟩ := h
      split at h
      · cases h
      · rename_i hsz
        split at h
        · rename_i hsl
          obtain ⟨u, e3, h⟩ := Option.map_eq_some_iff.1 h
          obtain ⟨rfl, rfl⟩ := Prod.mk.inj h
          obtain ⟨v', k1, k2⟩ := sl_slice (P := P) hg hr hx hsl r1 r2 r3 (td_slice ht htd) e2 (by omega) e3
          refine pure_ rfl (v' := v') ?_ k2
          simp only [Instr.sliceAt, Sem.run_bind, run_underlying (td_slice ht htd), Result.andThen_ok]
          exact k1
        · cases h
    · rename_i htd
      split at h
      · cases h
      · rename_i hsl
        obtain ⟨u, e3, h⟩ := Option.map_eq_some_iff.1 h
        obtain ⟨rfl, rfl⟩ := Prod.mk.inj h
        generalize hxe : opd env x = xe at hx e3 hsl
        generalize a.eval x = xv at hx ⊢
        cases hx <;> simp [isSlice] at hsl <;> simp only [aslice] at e3 <;> try (cases e3; done)
        rename_i s
        have hm : optAll env mx = none := by
          cases hmx : optAll env mx with
          | none => rfl
          | some _ => rw [hmx] at e3; cases e3
        cases mx with
        | some m => simp [optAll] at hm
        | none =>
          have e4 : aslice H 1 (.str s) (optAll env lo') (optAll env hi) none = some u := by
            simp only [aslice]
            exact e3
          obtain ⟨v', k1, k2⟩ := str_slice (P := P) s r1 r2 (td_string ht htd) e4 w
          refine pure_ rfl (v' := v') ?_ k2
          simp only [Instr.sliceAt, Sem.run_bind, run_underlying (td_string ht htd), Result.andThen_ok]
          exact k1
    · cases h
  case fieldAddr t x f =>
    obtain ⟨e, v', k1, k2⟩ := sound_fieldAddr hg he h w
    exact pure_ e k1 k2
  case field t x f =>
    obtain ⟨e, v', k1, k2⟩ := sound_field hg he h w
    exact pure_ e k1 k2
  case indexAddr t x i =>
    obtain ⟨e, v', k1, k2⟩ := sound_indexAddr hg he h w
    exact pure_ e k1 k2
  case index t x i =>
    obtain ⟨e, v', k1, k2⟩ := sound_index hg he h w
    exact pure_ e k1 k2
  case extract x i =>
    obtain ⟨e, v', k1, k2⟩ := sound_extract he h w
    exact pure_ e k1 k2
  case call c =>
    simp only [aop] at h
    split at h
    · rename_i b hb
      obtain ⟨consts, hi⟩ := invoke_builtin (P := P) c b hb a.eval type w
      obtain ⟨v', w', φ', k1, k2, k3⟩ := sound_builtin (P := P) hg hr (er_opds he c.args) h type consts
      exact ⟨_, v', w', φ', hi.trans k1, .inl rfl, k2, k3⟩
    · cases h
  all_goals (simp only [aop] at h; cases h)
end
end Go.Ab
end
section
/-! The code: regions, branches, loops, calls, loops over functions. -/
set_option linter.unusedVariables false
set_option linter.unusedSimpArgs false
namespace Go.Ab

section
variable {P : Program} {b : Frame} {a : Act} {k : List Item} {cs : List Frame} {w : World} {Q : Exit → Act → World → Prop} {F : Fence} {n : Nat}
theorem stepR_scope {c : Code} : step P (lone (b.atR a (.code (.scope c) :: k)) cs w) = .next (lone (b.atR a (.code c :: .inScope c :: k)) cs w) :=
  step_lone_go (by simp [stepG, stepG.exec, Frame.atR])
theorem stepR_inScope {c : Code} : step P (lone (b.atR a (.inScope c :: k)) cs w) = .next (lone (b.atR a k) cs w) :=
  step_lone_go (by simp [stepG, stepG.exec, Frame.atR])
/-- A scope through which no goto runs. -/
theorem wpIn_scope {c : Code} (hg : ∀ l a w, ¬ Q (.goto l) a w) (h : c.wpIn F n P Q a w) : (Code.scope c).wpIn F n P Q a w := by
  intro b k cs hro hb hr
  have h0 : (lone (b.atR a (.code (.scope c) :: k)) cs w).fenced P F := fenced_calm hb hr rfl
  obtain ⟨e, a₁, w₁, hq, harr⟩ := h b (.inScope c :: k) cs hro hb hr
  cases e with
  | normal => exact ⟨.normal, a₁, w₁, hq, .head h0 stepR_scope (StepsIn.trans harr (.one (fenced_calm hb hr rfl) stepR_inScope))⟩
  | exit id =>
    have hx : exitTo id (.inScope c :: k) = exitTo id k := by simp [exitTo]
    exact ⟨.exit id, a₁, w₁, hq, fun k' hk => .head h0 stepR_scope (harr.1 k' (by rw [hx]; exact hk)),
      fun hr' hk => let ⟨k₁, h1, h2⟩ := harr.2 hr' (by rw [hx]; exact hk); ⟨k₁, h1, .head h0 stepR_scope h2⟩⟩
  | goto l => exact absurd hq (hg l a₁ w₁)
  | ret => exact ⟨_, a₁, w₁, hq, .of_steps (.one h0 stepR_scope) harr⟩
  | panic ch => exact ⟨_, a₁, w₁, hq, .of_steps (.one h0 stepR_scope) harr⟩
  | outgrown => exact ⟨_, a₁, w₁, hq, .of_steps (.one h0 stepR_scope) harr⟩
end
/-- No fence; in the round of a loop, or in none. -/
def W (ro : Option Nat) : Fence := { Fence.wide with round := ro }
theorem W_none : W none = Fence.wide := rfl
theorem W_dep (ro : Option Nat) {n : Nat} : (W ro).depth.isSome = true → 1 ≤ n := fun h => by simp [W, Fence.wide] at h
theorem callsIn_W (ro : Option Nat) {n : Nat} {P : Program} {f : FuncId} {args : Array Value} {w : World} {R : Ending → World → Prop} (h : CallsIn Fence.wide n P f args w R) : CallsIn (W ro) n P f args w R := h

def Post (φ : Inj) (H : AH) (w : World) (v : AV) (H' : AH) : Ending → World → Prop := fun e w' => ∃ v' φ', e = .returned v' ∧ SimW φ H w φ' H' w' ∧ VR φ' v v'
/-- Where a call leads, and what comes of it. -/
def GoesTo (P : Program) (nx : Next) (w : World) (R : Ending → World → Prop) : Prop :=
  match nx with
  | .enter f args => ∀ n, CallsIn Fence.wide n P f args w R
  | .round l f tmps asx bd => ∀ n, RoundIn Fence.wide n P l f tmps asx bd w R
  | _ => False

/-- What a call of a function value does. -/
def CallOk (P : Program) (cf : CallF) : Prop :=
  ∀ (φ : Inj) (H : AH) (w : World) (f : AV) (f' : Value) (args : List AV) (args' : Array Value) (lo : Nat) (v : AV) (H' : AH), cf f args lo H = some (v, H') → Rel φ H w.heap → VR φ f f' → ER φ args args' →
    ∃ d nx w1, (Deferred.ofValue f' args').run P w = .ok d w ∧ (invoke d.target d.args).run P w = .ok nx w1 ∧ w1 = w ∧ GoesTo P nx w1 (Post φ H w v H') ∧ (isFunc f = true → ∃ g gargs, nx = .enter g gargs)

section
variable {P : Program} {ap : AP} {φ : Inj} {H : AH} {w : World}

theorem er_set {env : List AV} {a : Act} (h : ER φ env a.tmps) {v : AV} {v' : Value} (hv : VR φ v v') (dst : Option Tmp) : ER φ (setD env dst v) (a.put dst v').tmps := by
  cases dst with
  | none => exact h
  | some d =>
    refine ⟨by simp [setD, Act.put, h.1], fun i x u e1 e2 => ?_⟩
    simp only [setD] at e1
    simp only [Act.put] at e2
    by_cases hi : d = i
    · subst hi
      have hlt : d < env.length := by
        have := (List.getElem?_eq_some_iff.1 e1).1
        simpa using this
      rw [List.getElem?_set_self hlt] at e1
      rw [Array.getElem?_setIfInBounds_self, if_pos (h.1 ▸ hlt)] at e2
      cases e1; cases e2; exact hv
    · rw [List.getElem?_set_ne hi] at e1
      rw [Array.getElem?_setIfInBounds_ne hi] at e2
      exact h.2 i x u e1 e2
theorem er_mask : ∀ (m : List Bool) {env : List AV} {c : Array Value}, ER φ env c → ER φ (mask m env) c := by
  have key : ∀ (m : List Bool) (env : List AV), (mask m env).length = env.length ∧ ∀ (i : Nat) (a : AV), (mask m env)[i]? = some a → a = .undef ∨ env[i]? = some a := by
    intro m
    induction m with
    | nil => intro env; exact ⟨rfl, fun i a h => .inr h⟩
    | cons b m ih =>
      intro env
      cases env with
      | nil => cases b <;> exact ⟨rfl, fun i a h => .inr h⟩
      | cons v e =>
        obtain ⟨h1, h2⟩ := ih e
        cases b
        · simp only [mask]
          refine ⟨by simp [h1], fun i a h => ?_⟩
          cases i with
          | zero => simp at h; exact .inl h.symm
          | succ i => simpa using h2 i a (by simpa using h)
        · simp only [mask]
          refine ⟨by simp [h1], fun i a h => ?_⟩
          cases i with
          | zero => simp at h; right; simp [h]
          | succ i => simpa using h2 i a (by simpa using h)
  intro m env c h
  obtain ⟨h1, h2⟩ := key m env
  refine ⟨h1.trans h.1, fun i a v e1 e2 => ?_⟩
  rcases h2 i a e1 with rfl | e
  · exact .undef _
  · exact h.2 i a v e e2

theorem get_bool {env : List AV} {a : Act} (h : ER φ env a.tmps) {d : Nat} {b : Bool} (e : Ab.get env d = .bool b) : a.tmps[d]? = some (.bool b) := by
  unfold Ab.get at e
  cases hd : env[d]? with
  | none => rw [hd] at e; simp at e
  | some v =>
    rw [hd] at e
    simp at e
    subst e
    have hlt : d < a.tmps.size := by
      have := (List.getElem?_eq_some_iff.1 hd).1
      exact h.1 ▸ this
    have := h.2 d _ a.tmps[d] hd (by simp [hlt])
    rw [Array.getElem?_eq_getElem hlt]
    cases hv : a.tmps[d] <;> rw [hv] at this <;> cases this
    rfl
theorem get_gap {env : List AV} {a : Act} (h : ER φ env a.tmps) {d : Nat} (e : Ab.get env d = .tuple []) : a.tmps[d]? = some (.tuple #[]) := by
  unfold Ab.get at e
  cases hd : env[d]? with
  | none => rw [hd] at e; simp at e
  | some v =>
    rw [hd] at e
    simp at e
    subst e
    have hlt : d < a.tmps.size := by
      have := (List.getElem?_eq_some_iff.1 hd).1
      exact h.1 ▸ this
    have := h.2 d _ a.tmps[d] hd (by simp [hlt])
    rw [Array.getElem?_eq_getElem hlt]
    cases hv : a.tmps[d] <;> rw [hv] at this <;> cases this
    rename_i l' h1 h2
    have : l' = #[] := Array.size_eq_zero_iff.1 h1.symm
    rw [this]
theorem gap_vr {φ : Inj} : VR φ (.tuple []) undef := .tuple [] #[] rfl (by simp)
theorem wanted_sound {env : List AV} {a : Act} (h : ER φ env a.tmps) {ops : Array Oper} {o : Oper} {t : Bool} (e : wantedA env (o.guard.map fun g => (ops[g.1]?).bind (·.dst)) ((o.guard.map (·.2)).getD true) = some t) :
    Region.wanted o (yielded ops a.tmps) = t := by
  unfold Region.wanted
  cases hg : o.guard with
  | none => rw [hg] at e; simpa [wantedA] using e
  | some gw =>
    obtain ⟨g, want⟩ := gw
    rw [hg] at e
    simp only [Option.map_some, Option.getD_some] at e
    cases hd : (ops[g]?).bind (·.dst) with
    | none => rw [hd] at e; simp [wantedA] at e
    | some d =>
      rw [hd] at e
      simp only [wantedA] at e
      split at e
      · rename_i b hb
        have := get_bool h hb
        cases e
        simp only [yielded, hd, Option.bind_some, this]
        cases b <;> cases want <;> rfl
      · rename_i hb
        have := get_gap h hb
        cases e
        simp only [yielded, hd, Option.bind_some, this]
        rfl
      · cases e

/-- One operation, in a region. -/
theorem sound_oper (hg : TyAgree P ap) {cf : CallF} (hcf : CallOk P cf) {ro : Option Nat} {n : Nat} (hr : Rel φ H w.heap) {env : List AV} {a : Act} (he : ER φ env a.tmps) {lo : Nat} {o : Oper} {v : AV} {H' : AH} (h : aoper ap cf lo env H o.op = some (v, H'))
    {K : Act → World → Prop} {Q : Exit → Act → World → Prop} (hK : ∀ v' φ' w', SimW φ H w φ' H' w' → VR φ' v v' → K (a.put o.dst v') w') : o.wpIn (W ro) n P a w K Q := by
  refine ⟨fun _ _ => trivial, ?_⟩
  have plain : aop ap lo env H o.op = some (v, H') → (∀ c, o.op ≠ .defer c) → o.uponIn (W ro) n P a K Q ((o.semAt (W ro).round a.eval).run P w) := by
    intro h hd
    obtain ⟨nx, v', w', φ', k1, k2, k3, k4⟩ := sound_aop hg hr he h
    rw [Oper.semAt_eq _ _ _ hd, k1]
    rcases k2 with rfl | ⟨rfl, rfl⟩
    · exact hK v' φ' w' k3 k4
    · exact hK undef φ' w' k3 k4
  unfold aoper at h
  split at h
  · rename_i c hop
    split at h
    · rename_i f hf
      rw [Oper.semAt_eq _ _ _ (by rw [hop]; intro c; simp)]
      have hc : c.callee = .value f := by
        unfold callee at hf
        split at hf
        · rename_i e; cases hf; exact e
        · cases hf
      split at h
      · rename_i g hx
        unfold extOf at hx
        split at hx
        · rename_i m hfm
          have hvf := vr_opd he f
          rw [hfm] at hvf
          obtain ⟨v', w', φ', k1, k2, k3⟩ := hg.ext m g hx φ H w _ _ v H' h hr (er_opds he c.args)
          have hev : a.eval f = .func (.func m) #[] #[] := by
            generalize a.eval f = u at hvf
            cases hvf with
            | func _ _ _ l' m' h1 h2 h3 h4 =>
              rw [Array.eq_empty_of_size_eq_zero h1.symm, Array.eq_empty_of_size_eq_zero h3.symm]
          have hrun : (execOp a.eval o).run P w = .ok (.value v') w' := by
            simp only [execOp, hop, resolve, hc, hev, Deferred.ofValue, Sem.run_bind, Sem.run_pure, Result.andThen_ok, invoke, Array.append_empty, Array.empty_append, k1]
          rw [hrun]
          exact hK v' φ' w' k2 k3
        · cases hx
      obtain ⟨d, nx, w1, k1, k2, k3, k4, _⟩ := hcf φ H w _ _ _ _ lo v H' h hr (vr_opd he f) (er_opds he c.args)
      have hrun : (execOp a.eval o).run P w = .ok nx w1 := by
        simp only [execOp, hop, resolve, hc, Sem.run_bind, k1, Result.andThen_ok, k2]
      rw [hrun]
      cases nx <;> simp only [GoesTo] at k4 <;> try (cases k4; done)
      · rename_i g gargs
        refine ⟨W_dep ro, callsIn_W ro ((k4 _).mono ?_)⟩
        rintro e w' ⟨v', φ', rfl, s, r⟩
        exact hK v' φ' w' s r
      · rename_i l g tmps asx bd
        refine ⟨W_dep ro, ?_⟩
        refine RoundIn.mono (k4 _) ?_
        rintro e w' ⟨v', φ', rfl, s, r⟩
        exact hK v' φ' w' s r
    · exact plain (by rw [hop]; exact h) (by rw [hop]; intro c; simp)
  · rename_i hop
    refine plain h ?_
    intro c hc
    rw [hc] at h
    simp [aop] at h

theorem sound_ops (hg : TyAgree P ap) {cf : CallF} (hcf : CallOk P cf) {ro : Option Nat} {n lo : Nat} (ops : Array Oper) {Q : Exit → Act → World → Prop} : ∀ (l : List Oper) (φ : Inj) (H : AH) (env : List AV) (a : Act) (w : World) (env' : List AV) (H' : AH),
    evOps ap cf lo (eraseOps l fun g => (ops[g]?).bind (·.dst)) env H = some (env', H') → Rel φ H w.heap → ER φ env a.tmps →
    (∀ φ' a' w', SimW φ H w φ' H' w' → ER φ' env' a'.tmps → a'.defers = a.defers → Q .normal a' w') → wpListIn (W ro) n P ops Q l a w
  | [], φ, H, env, a, w, env', H', h, hr, he, hQ => by
    simp only [eraseOps, List.map_nil, evOps] at h
    cases h
    exact hQ φ a w (.refl hr) he rfl
  | o :: r, φ, H, env, a, w, env', H', h, hr, he, hQ => by
    simp only [eraseOps, List.map_cons, evOps] at h
    replace h := Option.bind_eq_some_iff.1 h
    obtain ⟨t, e1, h⟩ := h
    have hw := wanted_sound he e1
    unfold wpListIn
    split at h
    · rename_i ht
      rw [if_pos (by rw [hw]; exact ht)]
      replace h := Option.bind_eq_some_iff.1 h
      obtain ⟨⟨v, H1⟩, e2, h⟩ := h
      refine sound_oper hg hcf hr he e2 ?_
      intro v' φ' w' hs hv
      refine sound_ops hg hcf ops r φ' H1 _ _ w' env' H' h hs.rel (er_set (he.mono hs.ext) hv o.dst) ?_
      intro φ2 a2 w2 s2 r2 d2
      refine hQ φ2 a2 w2 (hs.trans s2) r2 (d2.trans ?_)
      cases o.dst <;> rfl
    · rename_i ht
      rw [if_neg (by rw [hw]; exact ht)]
      refine ⟨fun _ _ => trivial, ?_⟩
      refine sound_ops hg hcf ops r φ H _ _ w env' H' h hr (er_set he gap_vr o.dst) ?_
      intro φ2 a2 w2 s2 r2 d2
      refine hQ φ2 a2 w2 s2 r2 (d2.trans ?_)
      cases o.dst <;> rfl
end
end Go.Ab
end
section
set_option linter.unusedVariables false
set_option linter.unusedSimpArgs false
namespace Go.Ab

def exOf : Ex → Exit
  | .normal => .normal
  | .exit id => .exit id
  | .ret => .ret
def MR (φ : Inj) : List Nat → List Deferred → Prop
  | [], [] => True
  | d :: r, x :: xs => (∃ p, φ d = some p ∧ x = { target := .collected p.blk, args := #[] }) ∧ MR φ r xs
  | _, _ => False
theorem MR.mono {φ φ' : Inj} (hl : φ.le φ') : ∀ {l : List Nat} {d : List Deferred}, MR φ l d → MR φ' l d
  | [], [], _ => trivial
  | _ :: _, _ :: _, ⟨⟨p, h1, h2⟩, h⟩ => ⟨⟨p, hl _ _ h1, h2⟩, h.mono hl⟩
  | [], _ :: _, h => h.elim
  | _ :: _, [], h => h.elim
def RdR (φ : Inj) : Option Nat → Option Nat → Prop
  | none, none => True
  | some l, some r => ∃ p, φ l = some p ∧ p.blk = r
  | _, _ => False
theorem RdR.mono {φ φ' : Inj} (hl : φ.le φ') : ∀ {l r : Option Nat}, RdR φ l r → RdR φ' l r
  | none, none, _ => trivial
  | some l, some r, ⟨p, h1, h2⟩ => ⟨p, hl _ _ h1, h2⟩
  | none, some _, h => h.elim
  | some _, none, h => h.elim

/-- What is behind some code. -/
def QA (φ : Inj) (H : AH) (w0 : World) (x : Ex) (s' : St) : Exit → Act → World → Prop :=
  fun e a' w' => e = exOf x ∧ ∃ φ', SimW φ H w0 φ' s'.H w' ∧ ER φ' s'.env a'.tmps ∧ MR φ' s'.marks a'.defers
theorem QA.pre {φ φ1 : Inj} {H H1 : AH} {hp hp1 : World} {x : Ex} {s' : St} (h : SimW φ H hp φ1 H1 hp1) {e : Exit} {a : Act} {w : World} (q : QA φ1 H1 hp1 x s' e a w) : QA φ H hp x s' e a w := by
  obtain ⟨h1, φ', h2, h3, h4⟩ := q
  exact ⟨h1, φ', h.trans h2, h3, h4⟩

section
variable {P : Program} {ap : AP} {w : World}

theorem rel_loop {φ : Inj} {H : AH} {hp : Array Obj} (hr : Rel φ H hp) {l : Nat} {p : PL} {st : LoopState} {pe : Option Code} {env : List AV} {ps : Array Tmp} {asx bd : AC} {d : Nat} (hl : φ l = some p) (h : H[l]? = some (.loop st pe env ps asx bd d)) :
    ∃ (r : Loop) (p' : PL), hp[p.blk]? = some (.loop r) ∧ r.state = st ∧ r.pending = pe ∧ ER φ env r.tmps ∧ r.params = ps ∧ erase r.assign = asx.strip ∧ erase r.body = bd.strip ∧ φ d = some p' ∧ r.defers = p'.blk := by
  obtain ⟨A, O, h1, h2, h3⟩ := hr.blk l p hl
  rw [h] at h1; cases h1
  cases h3 with
  | loop _ _ _ _ _ _ _ r p' k1 k2 k3 k4 k5 k6 k7 k8 => exact ⟨r, p', h2, k1, k2, k3, k4, k5, k6, k7, k8⟩
theorem set_loop {φ : Inj} {H : AH} {w : World} (hr : Rel φ H w.heap) {l : Nat} {p p' : PL} {st st' : LoopState} {pe pe' : Option Code} {env : List AV} {ps : Array Tmp} {asx bd : AC} {d : Nat} {r : Loop} (hl : φ l = some p)
    (h : H[l]? = some (.loop st pe env ps asx bd d)) (ho : w.heap[p.blk]? = some (.loop r)) (k3 : ER φ env r.tmps) (k4 : r.params = ps) (k5 : erase r.assign = asx.strip) (k6 : erase r.body = bd.strip) (k7 : φ d = some p') (k8 : r.defers = p'.blk) :
    SimW φ H w φ (H.set l (.loop st' pe' env ps asx bd d)) (w.putObj p.blk (.loop { r with state := st', pending := pe' })) :=
  ⟨Sim.write hr hl h rfl ho (fun c e fr q => by cases q) (.loop _ _ _ _ _ _ _ _ p' rfl rfl k3 k4 k5 k6 k7 k8) (.inl rfl), ⟨rfl, rfl, rfl⟩⟩

theorem exOf_jump {c : Code} {x : Ex} (h : jumpEx c = some x) {F : Fence} {n : Nat} {Q : Exit → Act → World → Prop} {a : Act} {w : World} (hq : Q (exOf x) a w) : c.wpIn F n P Q a w := by
  cases c <;> simp only [jumpEx] at h <;> try (cases h; done)
  · cases h; exact wpIn_exit hq
  · cases h; exact wpIn_ret hq

theorem sound_range (hg : TyAgree P ap) {cf : CallF} (hcf : CallOk P cf) {lo n : Nat} {φ : Inj} {s s' : St} {a : Act} {w : World} {x : Ex} {rd ro : Option Nat} (hr : Rel φ s.H w.heap) (he : ER φ s.env a.tmps) (hm : MR φ s.marks a.defers)
    (hrd : RdR φ rd ro) {k : Nat} {g : Operand} {ps : Array Tmp} {asx bd : AC} {asC bdC : Code} (has : erase asC = asx.strip) (hbd : erase bdC = bd.strip) (h : evCode ap cf lo rd k (.range g ps asx bd) s = some (x, s')) :
    (Code.rangeFunc g ps asC bdC).wpIn (W ro) n P (QA φ s.H w x s') a w := by
  simp only [evCode] at h
  split at h
  · cases h
  · rename_i hfun
    have hfun : isFunc (opd s.env g) = true := by simpa using hfun
    replace h := Option.bind_eq_some_iff.1 h
    obtain ⟨⟨d, H1, marks⟩, e1, h⟩ := h
    replace h := Option.bind_eq_some_iff.1 h
    obtain ⟨⟨r1, H3⟩, e2, h⟩ := h
    simp only at e2 h
    refine wpIn_rangeFunc (fun fn hfn => ?_)
    -- what is laid
    obtain ⟨l, mark, w1, φ1, i1, i2, i3, i4, i5⟩ : ∃ (l : Nat) (mark : List Deferred) (w1 : World) (φ1 : Inj), (Instr.enterLoop fn a.tmps ps asC bdC (W ro).round).run P w = .ok (l, mark) w1 ∧
        SimW φ s.H w φ1 (H1 ++ [.loop .ready none s.env ps asx bd d]) w1 ∧ (∃ R, φ1 H1.length = some ⟨l, 0, R⟩) ∧ MR φ1 marks (mark ++ a.defers) ∧ ER φ1 s.env a.tmps := by
      cases rd with
      | none =>
        cases ro with
        | some _ => exact hrd.elim
        | none =>
          simp only [enterA] at e1
          cases e1
          have s1 := Sim.alloc hr (A := .deferred false) (O := .deferred (some [])) (d := 0) (R := 0) (.deferred false)
          have s2 := Sim.alloc s1.rel (A := .loop .ready none s.env ps asx bd s.H.length) (d := 0) (R := 0)
            (O := .loop { state := .ready, pending := none, fn, tmps := a.tmps, params := ps, assign := asC, body := bdC, defers := w.heap.size })
            (.loop _ _ _ _ _ _ _ _ ⟨w.heap.size, 0, 0⟩ rfl rfl (he.mono (Inj.le_trans s1.ext (s1.rel.upd_le _))) rfl has hbd ((s1.rel.upd_le _) _ _ (upd_self _ _ _)) rfl)
          refine ⟨_, _, _, _, run_enterLoop_outer _ _ _ _ _, ⟨s1.trans s2, ⟨rfl, rfl, rfl⟩⟩, ⟨0, ?_⟩, ⟨⟨_, (s1.rel.upd_le _) _ _ (upd_self _ _ _), rfl⟩, hm.mono (Inj.le_trans s1.ext s2.ext)⟩, he.mono (Inj.le_trans s1.ext s2.ext)⟩
          rw [upd_self]
          simp
      | some l0 =>
        cases ro with
        | none => exact hrd.elim
        | some r0 =>
          obtain ⟨p0, q1, rfl⟩ := hrd
          simp only [enterA] at e1
          split at e1
          · rename_i st0 pe0 env0 ps0 as0 bd0 d0 hl0
            cases e1
            obtain ⟨r, p', j1, j2, j3, j4, j5, j6, j7, j8, j9⟩ := rel_loop hr q1 hl0
            have s2 := Sim.alloc hr (A := .loop .ready none s.env ps asx bd d) (d := 0) (R := 0)
              (O := .loop { state := .ready, pending := none, fn, tmps := a.tmps, params := ps, assign := asC, body := bdC, defers := r.defers })
              (.loop _ _ _ _ _ _ _ _ p' rfl rfl (he.mono (hr.upd_le _)) rfl has hbd ((hr.upd_le _) _ _ j8) j9)
            exact ⟨_, _, _, _, run_enterLoop_inner j1 _ _ _ _ _, ⟨s2, ⟨rfl, rfl, rfl⟩⟩, ⟨0, upd_self _ _ _⟩, hm.mono s2.ext, he.mono s2.ext⟩
          · cases e1
    obtain ⟨R, i3⟩ := i3
    obtain ⟨dd, nx, w2, k1, k2, k3, k4, k5⟩ := hcf φ1 _ w1 (opd s.env g) (a.eval g) [.yield H1.length] #[.func (.yield l) #[] #[]] lo r1 H3 e2 i2.rel (vr_opd i5 g)
      ⟨rfl, fun i b v h1 h2 => by
        cases i with
        | zero => simp at h1 h2; subst h1; subst h2; exact .yield _ _ i3
        | succ i => simp at h1⟩
    obtain ⟨f, fargs, rfl⟩ := k5 hfun
    refine ⟨l, mark, w1, dd, w1, f, fargs, w2, i1, ?_, fun _ _ => trivial, k2, W_dep ro, callsIn_W ro ((k4 _).mono ?_)⟩
    · simp only [resolve]
      simpa [Act.eval] using k1
    · rintro e w3 ⟨v', φ', rfl, s3, _⟩
      unfold leaveA at h
      split at h
      · rename_i st pe env2 ps2 as2 bd2 d2 hl
        split at h
        · cases h
        · rename_i hbusy
          have q1 := s3.ext _ _ i3
          obtain ⟨r, p', j1, j2, j3, j4, j5, j6, j7, j8, j9⟩ := rel_loop s3.rel q1 hl
          have s4 := set_loop (st' := .exhausted) (pe' := r.pending) s3.rel q1 hl j1 j4 j5 j6 j7 j8 j9
          have hend : (Instr.endLoop l).run P w3 = .ok r.pending (w3.putObj l (.loop { r with state := .exhausted })) := run_endLoop j1 (by rw [j2]; exact hbusy)
          refine ⟨_, _, hend, ?_⟩
          have hs := (i2.trans s3).trans s4
          have hext := Inj.le_trans s3.ext s4.ext
          rw [j3]
          cases pe with
          | none =>
            simp only at h ⊢
            cases h
            rw [j3] at s4 hs
            exact ⟨rfl, φ', hs, he.mono (Inj.le_trans i2.ext hext), i4.mono hext⟩
          | some c =>
            simp only at h ⊢
            obtain ⟨x1, h1, h2⟩ := Option.map_eq_some_iff.1 h
            cases h2
            rw [j3] at s4 hs
            exact exOf_jump h1 ⟨rfl, φ', hs, he.mono (Inj.le_trans i2.ext hext), i4.mono hext⟩
      · cases h
end
end Go.Ab
end
section
/-! Regions whose order is drawn. -/
set_option linter.unusedVariables false
set_option linter.unusedSimpArgs false
namespace Go.Ab

/-! ### the order alone -/
structure OrdP (ap : AP) (ops : List Oper) (ord : List Nat) (anc : List (List Nat)) : Prop where
  nodup : ord.Nodup
  all : ∀ i, i < ops.length → i ∈ ord
  lt : ∀ i ∈ ord, i < ops.length
  edge : ∀ i o, ops[i]? = some o → ∀ e ∈ edges o, e < ops.length ∧ ord.idxOf e < ord.idxOf i
  one : ∀ i o t, ops[i]? = some o → o.dst = some t → writer ops t = some i
  look : ∀ i o, ops[i]? = some o → ∀ t ∈ o.looksAt ops.toArray, ∀ j, writer ops t = some j → j = i ∨ j ∈ edges o ∨ ∃ p, ops[j]? = some p ∧ i ∈ edges p
  ances : ∀ i o, ops[i]? = some o → ∀ j ∈ ancOf anc i, j ∈ edges o ∨ ∃ e ∈ edges o, j ∈ ancOf anc e
  chain : ∀ i j, i < ops.length → isCl ap ops .e i = true → j < ops.length → isCl ap ops .e j = true → stOf ap ops ord j + 1 = stOf ap ops ord i → j ∈ ancOf anc i
  allocs : ∀ i j, i < ops.length → isCl ap ops .a i = true → j < ops.length → isCl ap ops .e j = true → stOf ap ops ord j = stOf ap ops ord i → i ∈ ancOf anc j

theorem ordP_of {ap : AP} {ops : List Oper} {ord : List Nat} {anc : List (List Nat)} (h : ordOk ap ops ord anc = true) : OrdP ap ops ord anc := by
  unfold ordOk at h
  simp only [Bool.and_eq_true, decide_eq_true_eq, List.all_eq_true, List.mem_range] at h
  obtain ⟨⟨⟨⟨h1, h2⟩, h3⟩, h4⟩, h5⟩ := h
  have hlt : ∀ {i o}, ops[i]? = some o → i < ops.length := fun e => (List.getElem?_eq_some_iff.1 e).1
  have get : ∀ i o, ops[i]? = some o → _ := fun i o e => h5 i (hlt e)
  refine ⟨h1, fun i hi => by simpa using h3 i hi, h4, fun i o ho e he => ?_, fun i o t ho ht => ?_, fun i o ho t ht j hj => ?_, fun i o ho j hj => ?_, fun i j hi hci hj hcj hst => ?_, fun i j hi hci hj hcj hst => ?_⟩
  · have := h5 i (hlt ho)
    rw [ho] at this
    simp only [Bool.and_eq_true] at this
    have h6 := List.all_eq_true.1 this.1.1.1.1.1 e he
    simpa using h6
  · have := h5 i (hlt ho)
    rw [ho] at this
    simp only [Bool.and_eq_true] at this
    have h6 := this.1.1.1.1.2
    rw [ht] at h6
    simpa using h6
  · have := h5 i (hlt ho)
    rw [ho] at this
    simp only [Bool.and_eq_true] at this
    have h6 := List.all_eq_true.1 this.1.1.1.2 t ht
    rw [hj] at h6
    simp only [Bool.or_eq_true, beq_iff_eq, List.contains_iff_mem] at h6
    rcases h6 with (h6 | h6) | h6
    · exact .inl h6
    · exact .inr (.inl h6)
    · cases hp : ops[j]? with
      | none => rw [hp] at h6; cases h6
      | some p => rw [hp] at h6; exact .inr (.inr ⟨p, rfl, by simpa using h6⟩)
  · have := h5 i (hlt ho)
    rw [ho] at this
    simp only [Bool.and_eq_true] at this
    have h6 := List.all_eq_true.1 this.1.1.2 j hj
    simp only [Bool.or_eq_true, List.contains_iff_mem, List.any_eq_true] at h6
    exact h6
  · have := h5 i hi
    cases ho : ops[i]? with
    | none => rw [ho] at this; cases this
    | some o =>
      rw [ho] at this
      simp only [Bool.and_eq_true] at this
      have h6 := this.1.2
      rw [hci] at h6
      simp only [Bool.not_true, Bool.false_or] at h6
      have h7 := List.all_eq_true.1 h6 j (List.mem_range.2 hj)
      rw [hcj] at h7
      simpa [hst] using h7
  · have := h5 i hi
    cases ho : ops[i]? with
    | none => rw [ho] at this; cases this
    | some o =>
      rw [ho] at this
      simp only [Bool.and_eq_true] at this
      have h6 := this.2
      rw [hci] at h6
      simp only [Bool.not_true, Bool.false_or] at h6
      have h7 := List.all_eq_true.1 h6 j (List.mem_range.2 hj)
      rw [hcj] at h7
      simpa [hst] using h7

section
variable {ap : AP} {ops : List Oper} {ord : List Nat} {anc : List (List Nat)}

/-- A set of operations that holds what each waits for. -/
def Closed (ops : List Oper) (D : Nat → Bool) : Prop := ∀ i o, ops[i]? = some o → D i = true → ∀ e ∈ edges o, D e = true
theorem OrdP.reach (h : OrdP ap ops ord anc) {D : Nat → Bool} (hD : Closed ops D) : ∀ (m i : Nat) (o : Oper), ord.idxOf i < m → ops[i]? = some o → (∀ e ∈ edges o, D e = true) → ∀ j ∈ ancOf anc i, D j = true
  | 0, i, o, hm, _, _, _, _ => by omega
  | m + 1, i, o, hm, ho, he, j, hj => by
    rcases h.ances i o ho j hj with hj | ⟨e, h1, h2⟩
    · exact he j hj
    · obtain ⟨h3, h4⟩ := h.edge i o ho e h1
      have hoe : ops[e]? = some ops[e] := by simp [h3]
      exact h.reach hD m e _ (by omega) hoe (hD e _ hoe (he e h1)) j h2

/-! counting those that may turn memory -/
theorem stOf_inj : ∀ (l : List Nat) (i j : Nat), i ∈ l → j ∈ l → isCl ap ops .e i = true → isCl ap ops .e j = true → stOf ap ops l i = stOf ap ops l j → i = j
  | [], _, _, h, _, _, _, _ => by cases h
  | x :: r, i, j, hi, hj, ci, cj, h => by
    simp only [stOf] at h
    by_cases hxi : x = i
    · by_cases hxj : x = j
      · omega
      · rw [if_pos hxi, if_neg hxj] at h
        subst hxi
        rw [ci] at h
        simp at h <;> omega
    · by_cases hxj : x = j
      · rw [if_neg hxi, if_pos hxj] at h
        subst hxj
        rw [cj] at h
        simp at h <;> omega
      · rw [if_neg hxi, if_neg hxj] at h
        exact stOf_inj r i j ((List.mem_cons.1 hi).resolve_left (fun e => hxi e.symm)) ((List.mem_cons.1 hj).resolve_left (fun e => hxj e.symm)) ci cj (by omega)
theorem stOf_le : ∀ (l : List Nat) (i : Nat), stOf ap ops l i ≤ nE ap ops l
  | [], _ => Nat.le_refl _
  | x :: r, i => by
    simp only [stOf, nE]
    split
    · omega
    · have := stOf_le r i; omega
theorem stOf_lt : ∀ (l : List Nat) (i : Nat), i ∈ l → isCl ap ops .e i = true → stOf ap ops l i < nE ap ops l
  | [], _, h, _ => by cases h
  | x :: r, i, hi, ci => by
    simp only [stOf, nE]
    split
    · rename_i h; subst h; rw [ci]; simp; try omega
    · rename_i h
      have := stOf_lt r i ((List.mem_cons.1 hi).resolve_left (fun e => h e.symm)) ci
      omega
theorem stOf_ex : ∀ (l : List Nat), l.Nodup → ∀ (m : Nat), m < nE ap ops l → ∃ i ∈ l, isCl ap ops .e i = true ∧ stOf ap ops l i = m
  | [], _, m, h => by simp [nE] at h
  | x :: r, hn, m, h => by
    simp only [nE] at h
    have hx : x ∉ r := (List.nodup_cons.1 hn).1
    by_cases cx : isCl ap ops .e x = true
    · cases m with
      | zero => exact ⟨x, by simp, cx, by simp [stOf]⟩
      | succ m =>
        rw [cx] at h
        simp at h
        obtain ⟨i, h1, h2, h3⟩ := stOf_ex r (List.nodup_cons.1 hn).2 m (by omega)
        have hne : x ≠ i := fun e => hx (e ▸ h1)
        exact ⟨i, by simp [h1], h2, by simp [stOf, hne, cx, h3] <;> omega⟩
    · have cx' : isCl ap ops .e x = false := by simpa using cx
      rw [cx'] at h
      simp at h
      obtain ⟨i, h1, h2, h3⟩ := stOf_ex r (List.nodup_cons.1 hn).2 m h
      have hne : x ≠ i := fun e => hx (e ▸ h1)
      exact ⟨i, by simp [h1], h2, by simp [stOf, hne, cx', h3]⟩

theorem isCl_iff {c : Cl} {i : Nat} {o : Oper} (h : ops[i]? = some o) : isCl ap ops c i = true ↔ cls ap o.op = c := by
  unfold isCl
  rw [h]; simp

/-! ### what was reckoned -/
/-- What is known of an operation that has been reckoned. -/
structure Fact (ap : AP) (cf : CallF) (lo : Nat) (ops : List Oper) (env : List AV) (base : Nat) (st : Nat → Nat) (vals : Nat → AV) (Fs : List AH) (i k : Nat) (o : Oper) (t : Bool) : Prop where
  ho : ops[i]? = some o
  ht : wantedM ops (envM ops env vals o) o = some t
  no : t = false → vals i = .tuple []
  q : t = true → cls ap o.op = .q ∨ cls ap o.op = .h → ∃ H r, aop ap lo (envM ops env vals o) H o.op = some r ∧ r.1 = vals i
  a : t = true → cls ap o.op = .a → ∃ r A F, aop ap lo (envM ops env vals o) (List.replicate (base + i) dead0) o.op = some r ∧ r.1 = vals i ∧ r.2[base + i]? = some A ∧ Fs[k]? = some F ∧ F[base + i]? = some A
  dead : cls ap o.op = .a → ∀ (j : Nat) (H : AH), j < k → Fs[j]? = some H → H[base + i]? = some dead0
  e : cls ap o.op = .e → ∃ F F' B, Fs[k]? = some F ∧ Fs[k + 1]? = some F' ∧ (t = true → aoper ap cf lo (envM ops env vals o) F o.op = some (vals i, B)) ∧ (t = false → B = F) ∧ F'.length = B.length ∧
    ∀ b, (∀ s, s < ops.length → isCl ap ops .a s = true → st s = k + 1 → b ≠ base + s) → F'[b]? = B[b]?

theorem envM_congr {env : List AV} {v v' : Nat → AV} {o : Oper} (h : ∀ e ∈ edges o, v e = v' e) : envM ops env v o = envM ops env v' o := by
  unfold envM
  apply List.ext_getElem?
  intro t
  simp only [List.getElem?_mapIdx]
  cases env[t]? with
  | none => rfl
  | some x =>
    simp only [Option.map_some]
    split
    · cases writer ops t with
      | none => rfl
      | some j =>
        simp only
        split
        · rename_i hj
          rw [h j (by simpa using hj)]
        · rfl
    · rfl
theorem isDeadB_eq {x : Option AB} (h : isDeadB x = true) : x = some dead0 := by
  unfold isDeadB at h
  split at h
  · rfl
  · cases h

structure Trace (ap : AP) (cf : CallF) (lo : Nat) (ops : List Oper) (env : List AV) (base : Nat) (st : Nat → Nat) (pre r : List Nat) (s sf : DS) : Prop where
  len : sf.prev.length = s.prev.length + nE ap ops r
  pre_ : ∀ (j : Nat) (H : AH), s.prev[j]? = some H → (sf.prev ++ [sf.cur])[j]? = some H
  cur : ∃ F, (sf.prev ++ [sf.cur])[s.prev.length]? = some F ∧ F.length = s.cur.length ∧ ∀ b, (∀ i ∈ r, isCl ap ops .a i = true → st i = s.prev.length → b ≠ base + i) → F[b]? = s.cur[b]?
  vals : ∀ i, i ∉ r → sf.vals i = s.vals i
  facts : ∀ i ∈ r, ∃ o t, Fact ap cf lo ops env base st sf.vals (sf.prev ++ [sf.cur]) i (st i) o t

theorem nE_append : ∀ (l m : List Nat), nE ap ops (l ++ m) = nE ap ops l + nE ap ops m
  | [], m => by simp [nE]
  | x :: r, m => by simp [nE, nE_append r m]; omega
theorem stOf_append : ∀ (l m : List Nat) (i : Nat), i ∉ l → stOf ap ops (l ++ m) i = nE ap ops l + stOf ap ops m i
  | [], m, i, _ => by simp [nE]
  | x :: r, m, i, h => by
    have h1 : x ≠ i := fun e => h (by simp [e])
    have h2 : i ∉ r := fun e => h (by simp [e])
    simp [stOf, nE, h1, stOf_append r m i h2]; omega

theorem trace {cf : CallF} {lo : Nat} {env : List AV} {base : Nat} (hO : OrdP ap ops ord anc) : ∀ (r pre : List Nat) (s sf : DS), pre ++ r = ord → s.prev.length = nE ap ops pre → drawGo ap cf lo ops env base r s = some sf →
    Trace ap cf lo ops env base (stOf ap ops ord) pre r s sf
  | [], pre, s, sf, hp, hl, h => by
    simp only [drawGo] at h
    cases h
    exact ⟨by simp [nE], fun j H e => by rw [List.getElem?_append_left (List.getElem?_eq_some_iff.1 e).1]; exact e, ⟨s.cur, by simp, rfl, fun b _ => rfl⟩, fun i _ => rfl, fun i hi => by cases hi⟩
  | i :: r, pre, s, sf, hp, hl, h => by
    simp only [drawGo] at h
    replace h := Option.bind_eq_some_iff.1 h
    obtain ⟨s1, h1, h2⟩ := h
    have hnd : (pre ++ i :: r).Nodup := by rw [hp]; exact hO.nodup
    have hipre : i ∉ pre := fun hm => (List.nodup_append.1 hnd).2.2 i hm i (by simp) rfl
    have hir : i ∉ r := (List.nodup_cons.1 (List.nodup_append.1 hnd).2.1).1
    have hst : stOf ap ops ord i = s.prev.length := by rw [← hp, stOf_append _ _ _ hipre, hl]; simp [stOf]
    unfold drawStep at h1
    replace h1 := Option.bind_eq_some_iff.1 h1
    obtain ⟨o, ho, h1⟩ := h1
    replace h1 := Option.bind_eq_some_iff.1 h1
    obtain ⟨t, ht, h1⟩ := h1
    -- what waits ahead
    have hedge : ∀ e ∈ edges o, e ≠ i ∧ e ∉ r := by
      intro e he
      obtain ⟨g1, g2⟩ := hO.edge i o ho e he
      have hmem := hO.all e g1
      have hidx : ord.idxOf i = pre.length := by
        rw [← hp, List.idxOf_append]
        simp [hipre]
      have hepre : e ∈ pre := by
        by_cases hx : e ∈ pre
        · exact hx
        · rw [← hp, List.idxOf_append] at g2
          rw [if_neg hx, hp] at g2
          omega
      exact ⟨fun x => hipre (x ▸ hepre), fun x => (List.nodup_append.1 hnd).2.2 e hepre e (by simp [x]) rfl⟩
    have hpre1 : (pre ++ [i]) ++ r = ord := by simpa using hp
    have hl1 : s1.prev.length = nE ap ops (pre ++ [i]) → Trace ap cf lo ops env base (stOf ap ops ord) (pre ++ [i]) r s1 sf := fun hl1 => trace hO r (pre ++ [i]) s1 sf hpre1 hl1 h2
    have hne : nE ap ops (pre ++ [i]) = s.prev.length + (if isCl ap ops .e i then 1 else 0) := by rw [nE_append, hl]; simp [nE]
    have menv : ∀ (T : Trace ap cf lo ops env base (stOf ap ops ord) (pre ++ [i]) r s1 sf), (∀ k, k ≠ i → s1.vals k = s.vals k) → envM ops env sf.vals o = envM ops env s.vals o := fun T hv => envM_congr fun e he => by
      obtain ⟨g1, g2⟩ := hedge e he
      rw [T.vals e g2, hv e g1]
    have notr : ∀ {x : Nat}, x ∉ i :: r → x ≠ i ∧ x ∉ r := fun h => ⟨fun e => h (by simp [e]), fun e => h (by simp [e])⟩
    -- nothing turned but the values
    have calm : ∀ (v : AV), s1 = ⟨setF s.vals i v, s.cur, s.prev⟩ → isCl ap ops .e i = false →
        (∀ (T : Trace ap cf lo ops env base (stOf ap ops ord) (pre ++ [i]) r s1 sf), sf.vals i = v → ∃ o t, Fact ap cf lo ops env base (stOf ap ops ord) sf.vals (sf.prev ++ [sf.cur]) i (stOf ap ops ord i) o t) →
        Trace ap cf lo ops env base (stOf ap ops ord) pre (i :: r) s sf := by
      intro v hs1 hce hf
      have T := hl1 (by rw [hs1, hne, hce]; simp)
      have hv : ∀ k, k ≠ i → s1.vals k = s.vals k := fun k hk => by rw [hs1]; simp [setF, hk]
      have hvi : sf.vals i = v := by rw [T.vals i hir, hs1]; simp [setF]
      refine ⟨?_, ?_, ?_, fun x hx => ?_, fun x hx => ?_⟩
      · rw [T.len, hs1]; simp [nE, hce]
      · intro j H hj
        exact T.pre_ j H (by rw [hs1]; exact hj)
      · obtain ⟨F, k1, k2, k3⟩ := T.cur
        rw [hs1] at k1 k2 k3
        exact ⟨F, k1, k2, fun b hb => k3 b fun x hx => hb x (by simp [hx])⟩
      · rw [T.vals x (notr hx).2, hv x (notr hx).1]
      · rcases List.mem_cons.1 hx with rfl | hx
        · exact hf T hvi
        · exact T.facts x hx
    have deads : (s.prev ++ [s.cur]).all (fun H => isDeadB H[base + i]?) = true → ∀ (T : Trace ap cf lo ops env base (stOf ap ops ord) (pre ++ [i]) r s1 sf), s1.prev = s.prev → ∀ (j : Nat) (H : AH), j < stOf ap ops ord i → (sf.prev ++ [sf.cur])[j]? = some H → H[base + i]? = some dead0 := by
      intro hd T hpv j H hj hH
      rw [hst] at hj
      have hs : s1.prev[j]? = some s.prev[j] := by rw [hpv]; simp [hj]
      have := T.pre_ j _ hs
      rw [this] at hH
      cases hH
      exact isDeadB_eq (List.all_eq_true.1 hd _ (by simp))
    -- one that may turn memory
    have turn : ∀ (v : AV) (B : AH), s1 = ⟨setF s.vals i v, B, s.prev ++ [s.cur]⟩ → isCl ap ops .e i = true →
        (∀ (T : Trace ap cf lo ops env base (stOf ap ops ord) (pre ++ [i]) r s1 sf) (F' : AH), sf.vals i = v → (sf.prev ++ [sf.cur])[stOf ap ops ord i]? = some s.cur → (sf.prev ++ [sf.cur])[stOf ap ops ord i + 1]? = some F' → F'.length = B.length →
          (∀ b, (∀ x, x < ops.length → isCl ap ops .a x = true → stOf ap ops ord x = stOf ap ops ord i + 1 → b ≠ base + x) → F'[b]? = B[b]?) → ∃ o t, Fact ap cf lo ops env base (stOf ap ops ord) sf.vals (sf.prev ++ [sf.cur]) i (stOf ap ops ord i) o t) →
        Trace ap cf lo ops env base (stOf ap ops ord) pre (i :: r) s sf := by
      intro v B hs1 hce hf
      have T := hl1 (by rw [hs1, hne, hce]; simp)
      have hv : ∀ k, k ≠ i → s1.vals k = s.vals k := fun k hk => by rw [hs1]; simp [setF, hk]
      have hvi : sf.vals i = v := by rw [T.vals i hir, hs1]; simp [setF]
      have hcur : (sf.prev ++ [sf.cur])[s.prev.length]? = some s.cur := T.pre_ _ _ (by rw [hs1]; simp)
      obtain ⟨F, k1, k2, k3⟩ := T.cur
      rw [hs1] at k1 k2 k3
      simp only [List.length_append, List.length_cons, List.length_nil, Nat.zero_add] at k1 k2 k3
      refine ⟨?_, ?_, ⟨s.cur, hcur, rfl, fun b _ => rfl⟩, fun x hx => ?_, fun x hx => ?_⟩
      · rw [T.len, hs1]; simp [nE, hce]; omega
      · intro j H hj
        exact T.pre_ j H (by rw [hs1, List.getElem?_append_left (List.getElem?_eq_some_iff.1 hj).1]; exact hj)
      · rw [T.vals x (notr hx).2, hv x (notr hx).1]
      · rcases List.mem_cons.1 hx with rfl | hx
        · refine hf T F hvi (by rw [hst]; exact hcur) (by rw [hst]; exact k1) k2 fun b hb => k3 b fun y hy hya hys => hb y (hO.lt y (by rw [← hp]; simp [hy])) hya (by rw [hst]; exact hys)
        · exact T.facts x hx
    have clof : ∀ {c : Cl}, cls ap o.op = c → isCl ap ops c i = true := fun h => (isCl_iff ho).2 h
    have clno : ∀ {c d : Cl}, cls ap o.op = c → c ≠ d → isCl ap ops d i = false := fun h hcd => by
      cases hx : isCl ap ops _ i with
      | false => rfl
      | true => exact absurd (h.symm.trans ((isCl_iff ho).1 hx)) hcd
    cases t with
    | false =>
      simp only [Bool.false_eq_true, if_false] at h1
      split at h1
      · rename_i hce
        cases h1
        refine turn (.tuple []) s.cur rfl hce fun T F' hvi hc hF' hlen hext => ?_
        have hm := menv T (fun k hk => by simp [setF, hk])
        refine ⟨o, false, ho, by rw [hm]; exact ht, fun _ => hvi, (fun h => by cases h), (fun h => by cases h), (fun h => absurd (h.symm.trans ((isCl_iff ho).1 hce)) (by simp)), fun _ => ⟨s.cur, F', s.cur, hc, hF', (fun h => by cases h), fun _ => rfl, hlen, hext⟩⟩
      · rename_i hce
        have hce : isCl ap ops .e i = false := by simpa using hce
        split at h1
        · rename_i hca
          split at h1
          · rename_i hd
            cases h1
            refine calm (.tuple []) rfl hce fun T hvi => ?_
            have hm := menv T (fun k hk => by simp [setF, hk])
            exact ⟨o, false, ho, by rw [hm]; exact ht, fun _ => hvi, (fun h => by cases h), (fun h => by cases h), fun _ => deads hd T rfl, fun h => absurd ((isCl_iff ho).2 h) (by simp [hce])⟩
          · cases h1
        · rename_i hca
          cases h1
          refine calm (.tuple []) rfl hce fun T hvi => ?_
          have hm := menv T (fun k hk => by simp [setF, hk])
          exact ⟨o, false, ho, by rw [hm]; exact ht, fun _ => hvi, (fun h => by cases h), (fun h => by cases h), fun h => absurd ((isCl_iff ho).2 h) hca, fun h => absurd ((isCl_iff ho).2 h) (by simp [hce])⟩
    | true =>
      simp only [if_true] at h1
      cases hc : cls ap o.op with
      | q =>
        rw [hc] at h1
        simp only at h1
        obtain ⟨r1, e1, e2⟩ := Option.map_eq_some_iff.1 h1
        refine calm r1.1 e2.symm (clno hc (by simp)) fun T hvi => ?_
        have hm := menv T (fun k hk => by rw [← e2]; simp [setF, hk])
        exact ⟨o, true, ho, by rw [hm]; exact ht, (fun h => by cases h), fun _ _ => ⟨s.cur, r1, by rw [hm]; exact e1, hvi.symm⟩, (fun _ h => by rw [hc] at h; cases h), (fun h => by rw [hc] at h; cases h), fun h => by rw [hc] at h; cases h⟩
      | h =>
        rw [hc] at h1
        simp only at h1
        obtain ⟨r1, e1, e2⟩ := Option.map_eq_some_iff.1 h1
        refine calm r1.1 e2.symm (clno hc (by simp)) fun T hvi => ?_
        have hm := menv T (fun k hk => by rw [← e2]; simp [setF, hk])
        exact ⟨o, true, ho, by rw [hm]; exact ht, (fun h => by cases h), fun _ _ => ⟨s.cur, r1, by rw [hm]; exact e1, hvi.symm⟩, (fun _ h => by rw [hc] at h; cases h), (fun h => by rw [hc] at h; cases h), fun h => by rw [hc] at h; cases h⟩
      | e =>
        rw [hc] at h1
        simp only at h1
        obtain ⟨r1, e1, e2⟩ := Option.map_eq_some_iff.1 h1
        refine turn r1.1 r1.2 e2.symm (clof hc) fun T F' hvi hcu hF' hlen hext => ?_
        have hm := menv T (fun k hk => by rw [← e2]; simp [setF, hk])
        refine ⟨o, true, ho, by rw [hm]; exact ht, (fun h => by cases h), (fun _ h => by rw [hc] at h; rcases h with h | h <;> cases h), (fun _ h => by rw [hc] at h; cases h), (fun h => by rw [hc] at h; cases h), fun _ => ⟨s.cur, F', r1.2, hcu, hF', fun _ => by rw [hm, hvi]; exact e1, (fun h => by cases h), hlen, hext⟩⟩
      | a =>
        rw [hc] at h1
        simp only at h1
        replace h1 := Option.bind_eq_some_iff.1 h1
        obtain ⟨r1, e1, h1⟩ := h1
        replace h1 := Option.bind_eq_some_iff.1 h1
        obtain ⟨A, eA, h1⟩ := h1
        split at h1
        · rename_i hd
          have hs1 := (Option.some.inj h1).symm
          have hce : isCl ap ops .e i = false := clno hc (by simp)
          have T := hl1 (by rw [hs1, hne, hce]; simp)
          have hv : ∀ k, k ≠ i → s1.vals k = s.vals k := fun k hk => by rw [hs1]; simp [setF, hk]
          have hvi : sf.vals i = r1.1 := by rw [T.vals i hir, hs1]; simp [setF]
          have hm := menv T hv
          have hcd : s.cur[base + i]? = some dead0 := isDeadB_eq (List.all_eq_true.1 hd s.cur (by simp))
          have hlt : base + i < s.cur.length := (List.getElem?_eq_some_iff.1 hcd).1
          obtain ⟨F, k1, k2, k3⟩ := T.cur
          rw [hs1] at k1 k2 k3
          simp only at k1 k2 k3
          refine ⟨?_, ?_, ⟨F, k1, by rw [k2]; simp, fun b hb => ?_⟩, fun x hx => ?_, fun x hx => ?_⟩
          · rw [T.len, hs1]; simp [nE, hce]
          · intro j H hj
            exact T.pre_ j H (by rw [hs1]; exact hj)
          · have hbi : b ≠ base + i := hb i (by simp) (clof hc) hst
            rw [k3 b fun x hx => hb x (by simp [hx]), List.getElem?_set_ne (fun e => hbi e.symm)]
          · rw [T.vals x (notr hx).2, hv x (notr hx).1]
          · rcases List.mem_cons.1 hx with rfl | hx
            · refine ⟨o, true, ho, by rw [hm]; exact ht, (fun h => by cases h), (fun _ h => by rw [hc] at h; rcases h with h | h <;> cases h), fun _ _ => ⟨r1, A, F, by rw [hm]; exact e1, hvi.symm, eA, by rw [hst]; exact k1, ?_⟩, fun _ => deads hd T (by rw [hs1]), fun h => by rw [hc] at h; cases h⟩
              rw [k3 (base + x) fun y hy _ _ e => hir (by have : y = x := by omega
                                                          exact this ▸ hy)]
              exact List.getElem?_set_self hlt
            · exact T.facts x hx
        · cases h1
end
end Go.Ab
end
section
set_option linter.unusedVariables false
set_option linter.unusedSimpArgs false
namespace Go.Ab

mutual
theorem sameV_eq : ∀ {a b : AV}, sameV a b = true → a = b
  | .undef, b, h => by cases b <;> simp [sameV] at h; rfl
  | .bool x, b, h => by cases b <;> simp [sameV] at h; rw [h]
  | .int k n, b, h => by cases b <;> simp [sameV] at h; rw [h.1, h.2]
  | .str s, b, h => by
    cases b <;> simp [sameV] at h
    rename_i s'
    obtain ⟨⟨x⟩⟩ := s
    obtain ⟨⟨y⟩⟩ := s'
    simp at h
    rw [h]
  | .ptr a, b, h => by cases b <;> simp [sameV] at h; rw [h]
  | .slice a l c s, b, h => by cases b <;> simp [sameV] at h; obtain ⟨h1, h2, h3, h4⟩ := h; rw [h1, h2, h3, h4]
  | .func f x y, b, h => by cases b <;> simp [sameV] at h; rw [h.1, sameL_eq h.2.1, sameL_eq h.2.2]
  | .yield l, b, h => by cases b <;> simp [sameV] at h; rw [h]
  | .nilFunc, b, h => by cases b <;> simp [sameV] at h; rfl
  | .nilIface, b, h => by cases b <;> simp [sameV] at h; rfl
  | .iface t v, b, h => by cases b <;> simp [sameV] at h; rw [h.1, sameV_eq h.2]
  | .agg l, b, h => by cases b <;> simp [sameV] at h; rw [sameL_eq h]
  | .tuple l, b, h => by cases b <;> simp [sameV] at h; rw [sameL_eq h]
theorem sameL_eq : ∀ {l m : List AV}, sameL l m = true → l = m
  | [], m, h => by cases m <;> simp [sameL] at h; rfl
  | a :: l, m, h => by cases m <;> simp [sameL] at h; rw [sameV_eq h.1, sameL_eq h.2]
end

section
variable {P : Program} {ap : AP} {φ : Inj} {w : World}

/-- What does not read does the same everywhere. -/
theorem aop_free {lo : Nat} {m : List AV} {H : AH} {op : Op} {r : AV × AH} (hc : cls ap op = .q) (h : aop ap lo m H op = some r) : ∀ H2, aop ap lo m H2 op = some (r.1, H2) := by
  intro H2
  cases op <;> simp only [cls] at hc <;> try (cases hc; done)
  all_goals simp only [aop] at h ⊢
  case move => cases h; rfl
  case assign => cases h; rfl
  case pick => split at h <;> first | (cases h; rfl) | cases h
  case build =>
    replace h := Option.bind_eq_some_iff.1 h
    obtain ⟨ti, e1, h⟩ := h
    rw [e1]
    simp only [Option.bind_some]
    split at h
    · split at h
      · cases h
      · rename_i h0
        obtain ⟨cs, e2, h⟩ := Option.map_eq_some_iff.1 h
        cases h
        rw [if_neg h0, e2]; rfl
    · replace h := Option.bind_eq_some_iff.1 h
      obtain ⟨te, e2, h⟩ := h
      obtain ⟨cs, e3, h⟩ := Option.map_eq_some_iff.1 h
      cases h
      rw [e2]
      simp only [Option.bind_some, e3]; rfl
    · cases h
  case nilCheck => split at h <;> first | (cases h; rfl) | cases h
  case binOp => obtain ⟨u, e1, h⟩ := Option.map_eq_some_iff.1 h; cases h; rw [e1]; rfl
  case unOp => obtain ⟨u, e1, h⟩ := Option.map_eq_some_iff.1 h; cases h; rw [e1]; rfl
  case makeInterface =>
    replace h := Option.bind_eq_some_iff.1 h
    obtain ⟨ti, e1, h⟩ := h
    rw [e1]
    simp only [Option.bind_some]
    split at h <;> first | (cases h; rfl) | cases h
  case makeFunc fn first caps => cases fn <;> simp only at h ⊢ <;> first | (cases h; rfl) | cases h
  case fieldAddr =>
    replace h := Option.bind_eq_some_iff.1 h
    obtain ⟨ti, e1, h⟩ := h
    rw [e1]
    simp only [Option.bind_some]
    split at h
    · replace h := Option.bind_eq_some_iff.1 h
      obtain ⟨fd, e2, h⟩ := h
      replace h := Option.bind_eq_some_iff.1 h
      obtain ⟨tf, e3, h⟩ := h
      rw [e2]; simp only [Option.bind_some, e3]
      split at h
      · cases h
      · rename_i h0; cases h; rw [if_neg h0]
    · cases h
  case field =>
    replace h := Option.bind_eq_some_iff.1 h
    obtain ⟨ti, e1, h⟩ := h
    rw [e1]
    simp only [Option.bind_some]
    split at h
    · replace h := Option.bind_eq_some_iff.1 h
      obtain ⟨fd, e2, h⟩ := h
      replace h := Option.bind_eq_some_iff.1 h
      obtain ⟨tf, e3, h⟩ := h
      obtain ⟨u, e4, h⟩ := Option.map_eq_some_iff.1 h
      cases h
      rw [e2]; simp only [Option.bind_some, e3, e4]; rfl
    · cases h
  case indexAddr =>
    replace h := Option.bind_eq_some_iff.1 h
    obtain ⟨ti, e1, h⟩ := h
    rw [e1]
    simp only [Option.bind_some]
    split at h
    · replace h := Option.bind_eq_some_iff.1 h
      obtain ⟨te, e2, h⟩ := h
      rw [e2]; simp only [Option.bind_some]
      split at h
      · rename_i h0; cases h; rw [if_pos h0]
      · cases h
    · replace h := Option.bind_eq_some_iff.1 h
      obtain ⟨te, e2, h⟩ := h
      rw [e2]; simp only [Option.bind_some]
      split at h
      · rename_i h0; cases h; rw [if_pos h0]
      · cases h
    · cases h
  case index =>
    replace h := Option.bind_eq_some_iff.1 h
    obtain ⟨ti, e1, h⟩ := h
    rw [e1]
    simp only [Option.bind_some]
    split at h
    · split at h
      · rename_i h0
        obtain ⟨u, e4, h⟩ := Option.map_eq_some_iff.1 h
        cases h
        rw [if_pos h0, e4]; rfl
      · cases h
    · replace h := Option.bind_eq_some_iff.1 h
      obtain ⟨te, e2, h⟩ := h
      rw [e2]; simp only [Option.bind_some]
      split at h
      · rename_i h0
        obtain ⟨u, e4, h⟩ := Option.map_eq_some_iff.1 h
        cases h
        rw [if_pos h0, e4]; rfl
      · cases h
    · cases h
  case extract =>
    split at h
    · obtain ⟨u, e4, h⟩ := Option.map_eq_some_iff.1 h
      cases h
      rw [e4]; rfl
    · cases h
  case convert s d x =>
    exfalso
    split at hc <;> cases hc
  case call c =>
    cases hcc : c.callee with
    | value f => rw [hcc] at h; cases h
    | invoke a b => rw [hcc] at h; cases h
    | builtin b =>
      rw [hcc] at h hc
      simp only at h ⊢
      generalize c.args.toList.map (opd m) = xs at h ⊢
      have tys : ∀ {f : AV → TI → AH → Option (AV × AH)} {x : AV}, (∀ ti r, f x ti H = some r → f x ti H2 = some (r.1, H2)) →
          ((c.argTypes[0]?).bind fun t => (ap.ty t).bind fun ti => f x ti H) = some r → ((c.argTypes[0]?).bind fun t => (ap.ty t).bind fun ti => f x ti H2) = some (r.1, H2) := by
        intro f x hf h
        replace h := Option.bind_eq_some_iff.1 h
        obtain ⟨t, e1, h⟩ := h
        replace h := Option.bind_eq_some_iff.1 h
        obtain ⟨ti, e2, h⟩ := h
        rw [e1]; simp only [Option.bind_some, e2]
        exact hf ti r h
      cases b <;> simp only at hc <;> try (cases hc; done)
      case len =>
        cases xs with
        | nil => cases h
        | cons x xs =>
          cases xs with
          | cons _ _ => cases h
          | nil =>
            simp only [abuiltin] at h ⊢
            refine tys (f := fun x ti H => match ti.td, x with
              | .string, .str s => some (.int .i64 s.size, H)
              | .slice _, .slice _ n _ _ => some (.int .i64 n, H)
              | .array n _, _ => some (.int .i64 n, H)
              | _, _ => none) (fun ti r h => ?_) h
            split at h <;> first | (cases h; rfl) | cases h
      case cap =>
        cases xs with
        | nil => cases h
        | cons x xs =>
          cases xs with
          | cons _ _ => cases h
          | nil =>
            simp only [abuiltin] at h ⊢
            refine tys (f := fun x ti H => match ti.td, x with
              | .slice _, .slice (some _) _ (some c) _ => some (.int .i64 c, H)
              | .slice _, .slice none _ _ _ => some (.int .i64 0, H)
              | _, _ => none) (fun ti r h => ?_) h
            split at h <;> first | (cases h; rfl) | cases h
      case max =>
        simp only [abuiltin] at h ⊢
        obtain ⟨u, e4, h⟩ := Option.map_eq_some_iff.1 h
        cases h
        rw [e4]; rfl
      case min =>
        simp only [abuiltin] at h ⊢
        obtain ⟨u, e4, h⟩ := Option.map_eq_some_iff.1 h
        cases h
        rw [e4]; rfl

/-- What reads leaves all asx it is. -/
theorem aop_same {lo : Nat} {m : List AV} {H : AH} {op : Op} {r : AV × AH} (hc : cls ap op = .q ∨ cls ap op = .h) (h : aop ap lo m H op = some r) : r.2 = H := by
  rcases hc with hc | hc
  · have := aop_free hc h H
    rw [h] at this
    exact congrArg Prod.snd (Option.some.inj this)
  · cases op <;> simp only [cls] at hc <;> try (cases hc; done)
    case load => simp only [aop] at h; obtain ⟨u, e1, h⟩ := Option.map_eq_some_iff.1 h; cases h; rfl
    case slice =>
      simp only [aop] at h
      replace h := Option.bind_eq_some_iff.1 h
      obtain ⟨ti, e1, h⟩ := h
      split at h
      · replace h := Option.bind_eq_some_iff.1 h
        obtain ⟨te, e2, h⟩ := h
        split at h
        · cases h
        · split at h
          · obtain ⟨u, e1, h⟩ := Option.map_eq_some_iff.1 h; cases h; rfl
          · cases h
      · split at h
        · cases h
        · obtain ⟨u, e1, h⟩ := Option.map_eq_some_iff.1 h; cases h; rfl
      · cases h
    case convert s d x =>
      simp only [aop, aconvert] at h
      replace h := Option.bind_eq_some_iff.1 h
      obtain ⟨ts, e1, h⟩ := h
      replace h := Option.bind_eq_some_iff.1 h
      obtain ⟨td, e2, h⟩ := h
      rw [e2] at hc
      simp only [Option.map_some] at hc
      split at h
      · cases h; rfl
      · cases h; rfl
      · rename_i htd _; rw [htd] at hc; cases hc
      · split at h
        · split at h
          · cases h; rfl
          · split at h
            · replace h := Option.bind_eq_some_iff.1 h
              obtain ⟨l, e3, h⟩ := h
              obtain ⟨u, e4, h⟩ := Option.map_eq_some_iff.1 h
              cases h; rfl
            · cases h
        · cases h
      · rename_i htd _; rw [htd] at hc; cases hc
      · cases h
    case call c =>
      exfalso
      cases hcc : c.callee with
      | value f => rw [hcc] at hc; cases hc
      | invoke a b => rw [hcc] at hc; cases hc
      | builtin b => rw [hcc] at hc; cases b <;> cases hc

/-- What an operation that makes a block makes, wherever it is numbered. -/
theorem raw_alloc (hg : TyAgree P ap) {m : List AV} {a : Act} (he : ER φ m a.tmps) {lo N : Nat} {o : Oper} {r : AV × AH} {A : AB} (hc : cls ap o.op = .a) (h : aop ap lo m (List.replicate N dead0) o.op = some r) (hA : r.2[N]? = some A) :
    ∃ v' c e, (execOp a.eval o).run P w = .ok (.value v') (w.alloc (.cells c e)) ∧ (∃ l md, A = .cells l md ∧ LR φ l c 0 ∧ l.length ≤ c.size) ∧ ∀ φ2 : Inj, φ2 N = some ⟨w.heap.size, 0, c.size⟩ → VR φ2 r.1 v' := by
  obtain ⟨dst, op, type, pos, after, guard⟩ := o
  simp only at hc h
  have last : ∀ {l : List AV} {md : Md}, (List.replicate N dead0 ++ [AB.cells l md])[N]? = some A → A = .cells l md := by
    intro l md h
    rw [List.getElem?_append_right (by simp)] at h
    simp at h
    exact h.symm
  have ptr : ∀ (c : Array Value) (φ2 : Inj), φ2 N = some ⟨w.heap.size, 0, c.size⟩ → VR φ2 (.ptr (some (N, 0))) (.pointer (some ⟨w.heap.size, 0, none⟩)) := fun c φ2 h => .ptr N 0 _ h
  cases op <;> simp only [cls] at hc <;> try (cases hc; done)
  case alloc t =>
    simp only [aop] at h
    obtain ⟨ti, e1, h⟩ := Option.map_eq_some_iff.1 h
    subst h
    obtain ⟨i, d, z, ht⟩ := hg.get e1
    simp only at hA
    refine ⟨.pointer (some ⟨w.heap.size, 0, none⟩), z.cells, t, ?_, ⟨_, _, last hA, ?_, by rw [ht.zero]; simp⟩, fun φ2 h2 => by simpa using ptr _ φ2 h2⟩
    · simp [execOp, Instr.alloc, zeroValue, typeInfo, ht.hi, ht.hz, newVar, newRow]
    · rw [ht.zero]; exact (er_ofS φ z.cells).lr
  case box t x =>
    simp only [aop] at h
    obtain ⟨cs, e1, h⟩ := Option.map_eq_some_iff.1 h
    subst h
    have hcs := vr_cells (vr_opd he x) e1
    refine ⟨.pointer (some ⟨w.heap.size, 0, none⟩), (a.eval x).cells, t, ?_, ⟨_, _, last hA, hcs.lr, by have := hcs.1; omega⟩, fun φ2 h2 => by simpa using ptr _ φ2 h2⟩
    simp [execOp, Instr.box, newVar, newRow]
  case buildSlice t len parts =>
    simp only [aop] at h
    replace h := Option.bind_eq_some_iff.1 h
    obtain ⟨ti, e1, h⟩ := h
    obtain ⟨i, d, z, ht⟩ := hg.get e1
    cases htd : ti.td <;> rw [htd] at h <;> try (cases h; done)
    rename_i e
    simp only at h
    replace h := Option.bind_eq_some_iff.1 h
    obtain ⟨te, e3, h⟩ := h
    obtain ⟨i1, d1, z1, ht1⟩ := hg.get e3
    split at h
    · cases h
    · rename_i hsz
      obtain ⟨cs, e2, h⟩ := Option.map_eq_some_iff.1 h
      subst h
      have hs := ht1.sz
      obtain ⟨c', k1, k2⟩ := fill_sound (place' := fun i => some (i * i1.size, i1.size)) he (fun i q hq => by rw [ht1.sz] at hq; exact hq) parts.toList _ cs ((Array.range (len * i1.size)).map (z1.cells[· % z1.cells.size]!))
        (by rw [ht1.zero]; exact er_zeros φ z1.cells len _ (by rw [ht1.zs])) e2
      have hlen : cs.length = len * i1.size := by
        have h1 := k2.1
        have : ∀ (ps : List (Nat × Value)) (c c' : Array Value), Instr.fill (fun i => some (i * i1.size, i1.size)) c ps = some c' → c'.size = c.size := by
          intro ps
          induction ps with
          | nil => intro c c' h; simp only [Instr.fill] at h; cases h; rfl
          | cons p r ih =>
            intro c c' h
            obtain ⟨j, x⟩ := p
            simp only [Instr.fill] at h
            split at h
            · cases h
            · rw [ih _ _ h, fill_step, setA_size]
        rw [this _ _ _ k1] at h1
        simpa using h1
      refine ⟨.slice (some ⟨w.heap.size, 0, none⟩) len len, c', e, ?_, ⟨_, _, last hA, k2.lr, by have := k2.1; omega⟩, fun φ2 h2 => ?_⟩
      · rw [← parts_list] at k1
        have hrun : (Instr.buildSlice t len (parts.map fun (i, x) => (i, a.eval x))).run P w = .ok (.slice (some ⟨w.heap.size, 0, none⟩) len len) (w.alloc (.cells c' e)) := by
          by_cases h0 : len * i1.size = 0
          · have k1' : Instr.fill (fun i => some (i * i1.size, i1.size)) #[] (parts.map fun (i, x) => (i, a.eval x)).toList = some c' := by
              rw [h0, show Array.map (fun x => z1.cells[x % z1.cells.size]!) (Array.range 0) = #[] from Array.eq_empty_of_size_eq_zero (by simp)] at k1
              exact k1
            simp only [parts_list] at k1'
            have hm : ∀ f : Nat → Value, Array.map f (Array.range 0) = #[] := fun f => Array.eq_empty_of_size_eq_zero (by simp)
            simp [Instr.buildSlice, run_underlying (td_slice ht htd), sizeOf, typeInfo, zeroValue, ht1.hi, h0, hm, k1', newRow]
          · exact run_buildSlice w t e len _ c' i1 z1 (td_slice ht htd) ht1.hi ht1.hz (by rw [← hs]; omega) h0 k1
        simp [execOp, hrun]
      · have hc : c'.size = len * i1.size := by rw [← k2.1]; exact hlen
        have h2' : φ2 (List.replicate N dead0).length = some ⟨w.heap.size, 0, c'.size⟩ := by simpa using h2
        refine .slice _ _ _ _ _ ⟨w.heap.size, 0, c'.size⟩ _ _ h2' (.inl rfl) (Nat.le_refl _) ?_ (.inl ⟨len, rfl, rfl⟩)
        show 0 + 0 + len * te.sz ≤ c'.size
        rw [hc, hs]; omega
  case makeSlice t l c =>
    have h0 := h
    simp only [aop] at h
    replace h := Option.bind_eq_some_iff.1 h
    obtain ⟨ti, e1, h⟩ := h
    obtain ⟨i, d, z, ht⟩ := hg.get e1
    cases htd : ti.td <;> rw [htd] at h <;> try (cases h; done)
    rename_i e
    simp only at h
    replace h := Option.bind_eq_some_iff.1 h
    obtain ⟨te, e2, h⟩ := h
    obtain ⟨i1, d1, z1, ht1⟩ := hg.get e2
    have hl := vr_opd he l
    have hcc := vr_opd he c
    split at h
    · rename_i n q hn hq
      rw [hn] at hl; rw [hq] at hcc
      have el : a.eval l = .int .i64 n := by generalize a.eval l = y at hl; cases hl; rfl
      have ec : a.eval c = .int .i64 q := by generalize a.eval c = y at hcc; cases hcc; rfl
      split at h
      · rename_i hcond
        obtain ⟨c0, c1, c2, c3, c4⟩ := hcond
        have hr := Option.some.inj h
        subst hr
        have hz := er_zeros φ z1.cells q.toNat (q.toNat * i1.size) (by rw [ht1.zs])
        rw [← ht1.zero] at hz
        have hw1 : IntKind.i64.wrap n = n := by
          simp only [IntKind.wrap, IntKind.signed, IntKind.bits, Bool.true_and]
          split <;> rename_i hh <;> simp at hh <;> omega
        have hw2 : IntKind.i64.wrap q = q := by
          simp only [IntKind.wrap, IntKind.signed, IntKind.bits, Bool.true_and]
          split <;> rename_i hh <;> simp at hh <;> omega
        have hby := ht1.by_
        have hs := ht1.sz
        unfold room at c2
        refine ⟨.slice (some ⟨w.heap.size, 0, none⟩) n.toNat q.toNat, (Array.range (q.toNat * i1.size)).map (z1.cells[· % z1.cells.size]!), e, ?_,
          ⟨_, _, last hA, hz.lr, by have := hz.1; simp at this; rw [List.length_flatten]; simp; omega⟩, fun φ2 h2 => ?_⟩
        · have hbm : (i1.bytes : Int) * q = q * te.by_ := by rw [hby, Int.mul_comm]
          have d1 : ¬ (q < 0) := by omega
          have d2 : ¬ (281474976710656 < (i1.bytes : Int) * q) := by rw [hbm]; omega
          have d3 : ¬ (n < 0) := by omega
          have d4 : ¬ (q < n) := by omega
          have d5 : ¬ (140737488355328 < q.toNat * i1.bytes) := by
            have : ((q.toNat * i1.bytes : Nat) : Int) = q * te.by_ := by rw [hby]; simp; rw [Int.max_eq_left (by omega)]
            omega
          have hrun : (Instr.makeSlice t (.int .i64 n) (.int .i64 q)).run P w = .ok (.slice (some ⟨w.heap.size, 0, none⟩) n.toNat q.toNat) (w.alloc (.cells ((Array.range (q.toNat * i1.size)).map (z1.cells[· % z1.cells.size]!)) e)) := by
            by_cases hz0 : q.toNat * i1.size = 0
            · have hm0 : q.toNat = 0 := by
                rcases Nat.mul_eq_zero.1 hz0 with h | h
                · exact h
                · omega
              obtain rfl : q = 0 := by omega
              obtain rfl : n = 0 := by omega
              simp [Instr.makeSlice, run_underlying (td_slice ht htd), asInt, asIntOf, typeInfo, ht1.hi, hw1, askRoom, roomBytes, sizeOf, newRow, show ∀ f : Nat → Value, Array.map f (Array.range 0) = #[] from fun f => Array.eq_empty_of_size_eq_zero (by simp)]
            · simp [Instr.makeSlice, run_underlying (td_slice ht htd), asInt, asIntOf, typeInfo, ht1.hi, hw1, hw2, d1, d2, d3, d4, askRoom, roomBytes, d5, sizeOf, hz0, zeroValue, ht1.hz, newRow]
          simp [execOp, el, ec, hrun]
        · have h2' : φ2 (List.replicate N dead0).length = some ⟨w.heap.size, 0, ((Array.range (q.toNat * i1.size)).map (z1.cells[· % z1.cells.size]!)).size⟩ := by simpa using h2
          refine .slice _ _ _ _ _ _ _ _ h2' (.inl rfl) (by omega) ?_ (.inl ⟨q.toNat, rfl, rfl⟩)
          simp
          rw [hs]; omega
      · cases h
    · cases h
  case convert s d x => exfalso; split at hc <;> cases hc
  case call c =>
    exfalso
    cases hcc : c.callee with
    | value f => rw [hcc] at hc; cases hc
    | invoke a b => rw [hcc] at hc; cases hc
    | builtin b => rw [hcc] at hc; cases b <;> cases hc
end
end Go.Ab
end
section
set_option linter.unusedVariables false
set_option linter.unusedSimpArgs false
namespace Go.Ab
section
variable {P : Program} {ap : AP} {cf : CallF} {lo : Nat} {ops : List Oper} {env : List AV} {base : Nat} {ord : List Nat} {anc : List (List Nat)} {vals : Nat → AV} {Fs : List AH} {φ0 : Inj} {H0 : AH} {w0 : World} {defers : List Deferred}

/-- How things stand when the operations of D have been carried out. -/
structure Inv (ap : AP) (ops : List Oper) (env : List AV) (base : Nat) (ord : List Nat) (vals : Nat → AV) (Fs : List AH) (φ0 : Inj) (H0 : AH) (w0 : World) (defers : List Deferred) (D : Nat → Bool) (φ : Inj) (j : Nat) (F : AH) (a : Act) (w : World) : Prop where
  hF : Fs[j]? = some F
  e : ∀ i, i < ops.length → isCl ap ops .e i = true → (D i = true ↔ stOf ap ops ord i < j)
  cnt : ∀ m, m < j → ∃ i, i < ops.length ∧ isCl ap ops .e i = true ∧ stOf ap ops ord i = m
  sim : SimW φ0 H0 w0 φ F w
  off : ∀ s, s < ops.length → D s = false → φ (base + s) = none
  early : ∀ s, s < ops.length → isCl ap ops .a s = true → D s = true → j < stOf ap ops ord s → φ (base + s) = none ∨
    ∃ p A O F', φ (base + s) = some p ∧ w.heap[p.blk]? = some O ∧ BR φ p A O ∧ Fs[stOf ap ops ord s]? = some F' ∧ F'[base + s]? = some A ∧ w0.heap.size ≤ p.blk ∧ F[base + s]? = some dead0 ∧ ∀ b p', φ b = some p' → b ≠ base + s → p'.blk ≠ p.blk
  len : base + ops.length ≤ F.length
  env : ER φ (envF ops env vals D) a.tmps
  defs : a.defers = defers

theorem er_mapIdx {φ : Inj} {l : List AV} {f : Nat → AV → AV} {c : Array Value} (h : ∀ (t : Nat) (v : AV) (u : Value), l[t]? = some v → c[t]? = some u → VR φ (f t v) u) (hl : l.length = c.size) : ER φ (l.mapIdx f) c := by
  refine ⟨by simp [hl], fun t a u e1 e2 => ?_⟩
  rw [List.getElem?_mapIdx] at e1
  cases hv : l[t]? with
  | none => rw [hv] at e1; cases e1
  | some v => rw [hv] at e1; cases e1; exact h t v u hv e2

/-- What the operation sees is what there is. -/
theorem env_sees (hO : OrdP ap ops ord anc) {φ : Inj} {D : Nat → Bool} (hD : Closed ops D) {c : Array Value} (h : ER φ (envF ops env vals D) c) {i : Nat} {o : Oper} (ho : ops[i]? = some o) (hi : D i = false) (he : ∀ e ∈ edges o, D e = true) :
    ER φ (envM ops env vals o) c := by
  have hlen : env.length = c.size := by have := h.1; simpa [envF] using this
  unfold envM
  refine er_mapIdx (fun t v u e1 e2 => ?_) hlen
  have h2 := h.2 t
  simp only [envF, List.getElem?_mapIdx, e1, Option.map_some] at h2
  split
  · rename_i hlook
    have hlook : t ∈ o.looksAt ops.toArray := by simpa using hlook
    cases hw : writer ops t with
    | none => simp only [hw] at h2 ⊢; exact h2 _ _ rfl e2
    | some j =>
      simp only [hw] at h2 ⊢
      have h3 := h2 _ _ rfl e2
      rcases hO.look i o ho t hlook j hw with rfl | hj | ⟨p, hp, hj⟩
      · rw [hi] at h3
        have hn : ¬ j ∈ edges o := fun hh => by
          have := hO.edge j o ho j hh
          omega
        rw [if_neg (by simpa using hn)]
        simpa using h3
      · rw [if_pos (by simpa using hj)]
        rw [he j hj] at h3
        simpa using h3
      · have hDj : D j = false := by
          cases hx : D j with
          | false => rfl
          | true => exact absurd (hD j p hp hx i hj) (by simp [hi])
        rw [hDj] at h3
        have hn : ¬ j ∈ edges o := fun hh => by rw [he j hh] at hDj; cases hDj
        rw [if_neg (by simpa using hn)]
        simpa using h3
  · exact .undef _

def with_ (D : Nat → Bool) (i : Nat) : Nat → Bool := fun k => if k = i then true else D k
theorem env_put (hO : OrdP ap ops ord anc) {φ : Inj} {D : Nat → Bool} {a : Act} (h : ER φ (envF ops env vals D) a.tmps) {i : Nat} {o : Oper} (ho : ops[i]? = some o) {v' : Value} (hv : VR φ (vals i) v') :
    ER φ (envF ops env vals (with_ D i)) (a.put o.dst v').tmps := by
  have hlen : env.length = a.tmps.size := by have := h.1; simpa [envF] using this
  have hsz : (a.put o.dst v').tmps.size = a.tmps.size := by cases o.dst <;> simp [Act.put]
  unfold envF
  refine er_mapIdx (fun t v u e1 e2 => ?_) (by rw [hsz]; exact hlen)
  have h2 := h.2 t
  simp only [envF, List.getElem?_mapIdx, e1, Option.map_some] at h2
  cases hd : o.dst with
  | none =>
    rw [hd] at e2
    have h3 := h2 _ u rfl e2
    cases hw : writer ops t with
    | none => rw [hw] at h3; exact h3
    | some j =>
      rw [hw] at h3
      simp only at h3 ⊢
      have hji : j ≠ i := by
        intro e
        subst e
        unfold writer at hw
        obtain ⟨hlt, h6, _⟩ := List.findIdx?_eq_some_iff_getElem.1 hw
        have hoj : ops[j] = o := (List.getElem?_eq_some_iff.1 ho).2
        rw [hoj, hd] at h6
        simp at h6
      simpa [with_, hji] using h3
  | some d =>
    rw [hd] at e2
    simp only [Act.put] at e2
    have hwd := hO.one i o d ho hd
    by_cases htd : d = t
    · subst htd
      have hlt : d < a.tmps.size := by
        have h9 : d < env.length := (List.getElem?_eq_some_iff.1 e1).1
        exact hlen ▸ h9
      rw [Array.getElem?_setIfInBounds_self, if_pos hlt] at e2
      cases e2
      rw [hwd]
      simpa [with_] using hv
    · rw [Array.getElem?_setIfInBounds_ne htd] at e2
      have h3 := h2 _ u rfl e2
      cases hw : writer ops t with
      | none => rw [hw] at h3; exact h3
      | some j =>
        rw [hw] at h3
        simp only at h3 ⊢
        by_cases hji : j = i
        · subst hji
          exfalso
          unfold writer at hw
          obtain ⟨hlt, h6, _⟩ := List.findIdx?_eq_some_iff_getElem.1 hw
          have hoj : ops[j] = o := (List.getElem?_eq_some_iff.1 ho).2
          rw [hoj, hd] at h6
          simp at h6
          exact htd h6
        · simpa [with_, hji] using h3

/-- What was made early stays, whatever an operation does elsewhere. -/
theorem early_kept {φ φ' : Inj} {D : Nat → Bool} {j : Nat} {F B : AH} {a : Act} {w w' : World} (I : Inv ap ops env base ord vals Fs φ0 H0 w0 defers D φ j F a w) (h : SimW φ F w φ' B w') {s : Nat} (hs : s < ops.length) (hc : isCl ap ops .a s = true) (hd : D s = true) (hj : j < stOf ap ops ord s) :
    φ' (base + s) = none ∨ ∃ p A O F', φ' (base + s) = some p ∧ w'.heap[p.blk]? = some O ∧ BR φ' p A O ∧ Fs[stOf ap ops ord s]? = some F' ∧ F'[base + s]? = some A ∧ w0.heap.size ≤ p.blk ∧ ∀ b p', φ' b = some p' → b ≠ base + s → p'.blk ≠ p.blk := by
  rcases I.early s hs hc hd hj with hn | ⟨p, A, O, F', h1, h2, h3, h4, h5, h6, h7, h8⟩
  · left
    cases hx : φ' (base + s) with
    | none => rfl
    | some p =>
      rcases h.new _ _ hx with e | e
      · rw [hn] at e; cases e
      · have := I.len; omega
  · right
    have hlt : p.blk < w.heap.size := (Array.getElem?_eq_some_iff.1 h2).1
    have hno : ∀ b p0 A0, φ b = some p0 → F[b]? = some A0 → A0.own = true → p0.blk ≠ p.blk := by
      intro b p0 A0 e1 e2 e3
      by_cases hb : b = base + s
      · subst hb
        rw [h7] at e2; cases e2; cases e3
      · exact h8 b p0 e1 hb
    refine ⟨p, A, O, F', h.ext _ _ h1, ?_, h3.mono h.ext, h4, h5, h6, fun b p' e hb => ?_⟩
    · rw [h.frame _ hlt hno]; exact h2
    · rcases h.img2 b p' e with e | e | ⟨b0, p0, A0, e1, e2, e3, e4⟩
      · exact h8 b p' e hb
      · omega
      · rw [← e4]; exact hno b0 p0 A0 e1 e2 e3
theorem off_kept {φ φ' : Inj} {D : Nat → Bool} {j : Nat} {F B : AH} {a : Act} {w w' : World} (I : Inv ap ops env base ord vals Fs φ0 H0 w0 defers D φ j F a w) (h : SimW φ F w φ' B w') {s : Nat} (hs : s < ops.length) (hn : φ (base + s) = none) : φ' (base + s) = none := by
  cases hx : φ' (base + s) with
  | none => rfl
  | some p =>
    rcases h.new _ _ hx with e | e
    · rw [hn] at e; cases e
    · have := I.len; omega

/-- All facts at hand. -/
structure All (ap : AP) (cf : CallF) (lo : Nat) (ops : List Oper) (env : List AV) (base : Nat) (ord : List Nat) (anc : List (List Nat)) (vals : Nat → AV) (Fs : List AH) : Prop where
  O : OrdP ap ops ord anc
  facts : ∀ i, i < ops.length → ∃ o t, Fact ap cf lo ops env base (stOf ap ops ord) vals Fs i (stOf ap ops ord i) o t
  win : ∀ (i j : Nat) (o : Oper) (F : AH), ops[i]? = some o → cls ap o.op = .h → wantedM ops (envM ops env vals o) o = some true → Fs[j]? = some F → inWin ap ops ord anc i j = true →
    ∃ r, aop ap lo (envM ops env vals o) F o.op = some r ∧ r.1 = vals i

theorem stay (hA : All ap cf lo ops env base ord anc vals Fs) {φ φ' : Inj} {D : Nat → Bool} {j i : Nat} {F : AH} {a : Act} {w w' : World} {o : Oper} {v' : Value} (I : Inv ap ops env base ord vals Fs φ0 H0 w0 defers D φ j F a w) (ho : ops[i]? = some o)
    (hne : isCl ap ops .e i = false) (hna : isCl ap ops .a i = false ∨ φ' (base + i) = none) (h : SimW φ F w φ' F w') (hv : VR φ' (vals i) v') :
    Inv ap ops env base ord vals Fs φ0 H0 w0 defers (with_ D i) φ' j F (a.put o.dst v') w' where
  hF := I.hF
  e := fun k hk hc => by
    have hki : k ≠ i := fun e => by subst e; rw [hne] at hc; cases hc
    simpa [with_, hki] using I.e k hk hc
  cnt := I.cnt
  sim := I.sim.trans h
  off := fun s hs hd => by
    have : s ≠ i := fun e => by subst e; simp [with_] at hd
    exact off_kept I h hs (I.off s hs (by simpa [with_, this] using hd))
  early := fun s hs hc hd hj => by
    by_cases hsi : s = i
    · subst hsi
      rcases hna with hna | hna
      · rw [hna] at hc; cases hc
      · exact .inl hna
    · rcases early_kept I h hs hc (by simpa [with_, hsi] using hd) hj with e | ⟨p, A, O, F', h1, h2, h3, h4, h5, h6, h7⟩
      · exact .inl e
      · obtain ⟨o', t', hf⟩ := hA.facts s hs
        exact .inr ⟨p, A, O, F', h1, h2, h3, h4, h5, h6, hf.dead ((isCl_iff hf.ho).1 hc) j F hj I.hF, h7⟩
  len := I.len
  env := env_put hA.O (by have := I.env; exact this.mono h.ext) ho hv
  defs := by rw [← I.defs]; cases o.dst <;> rfl

theorem advance (hA : All ap cf lo ops env base ord anc vals Fs) {φ φ' : Inj} {D : Nat → Bool} {j i : Nat} {F B F' : AH} {a : Act} {w w' : World} {o : Oper} {v' : Value} (I : Inv ap ops env base ord vals Fs φ0 H0 w0 defers D φ j F a w) (ho : ops[i]? = some o)
    (hce : isCl ap ops .e i = true) (hst : stOf ap ops ord i = j) (hDi : D i = false) (h : SimW φ F w φ' B w') (hv : VR φ' (vals i) v') (hF' : Fs[j + 1]? = some F') (hlen : F'.length = B.length)
    (hext : ∀ b, (∀ s, s < ops.length → isCl ap ops .a s = true → stOf ap ops ord s = j + 1 → b ≠ base + s) → F'[b]? = B[b]?) :
    Inv ap ops env base ord vals Fs φ0 H0 w0 defers (with_ D i) φ' (j + 1) F' (a.put o.dst v') w' := by
  have hi : i < ops.length := (List.getElem?_eq_some_iff.1 ho).1
  have ht := I.sim.trans h
  -- the blocks that come to life
  have slot : ∀ s, s < ops.length → isCl ap ops .a s = true → stOf ap ops ord s = j + 1 → ∀ p, φ' (base + s) = some p →
      ∃ A O, F'[base + s]? = some A ∧ w'.heap[p.blk]? = some O ∧ BR φ' p A O ∧ w0.heap.size ≤ p.blk ∧ ∀ b p', φ' b = some p' → b ≠ base + s → p'.blk ≠ p.blk := by
    intro s hs hc hsj p hp
    have hd : D s = true := by
      cases hx : D s with
      | true => rfl
      | false => rw [off_kept I h hs (I.off s hs hx)] at hp; cases hp
    rcases early_kept I h hs hc hd (by omega) with e | ⟨q, A, O, F'', h1, h2, h3, h4, h5, h6, h7⟩
    · rw [hp] at e; cases e
    · rw [hp] at h1; cases h1
      rw [hsj, hF'] at h4
      cases h4
      exact ⟨A, O, h5, h2, h3, h6, h7⟩
  have isSlot : ∀ b, (∃ s, s < ops.length ∧ isCl ap ops .a s = true ∧ stOf ap ops ord s = j + 1 ∧ b = base + s) ∨ F'[b]? = B[b]? := by
    intro b
    by_cases hx : ∃ s, s < ops.length ∧ isCl ap ops .a s = true ∧ stOf ap ops ord s = j + 1 ∧ b = base + s
    · exact .inl hx
    · exact .inr (hext b fun s h1 h2 h3 h4 => hx ⟨s, h1, h2, h3, h4⟩)
  refine ⟨hF', fun k hk hc => ?_, fun m hm => ?_, ⟨⟨ht.ext, ht.new, ⟨fun b p hb => ?_, fun b p A b' p' A' e1 e2 e3 e4 e5 e6 e7 => ?_⟩, ?_, ht.size, ht.frame, fun b p A e1 e2 e3 => ?_, ht.img2⟩, ht.str⟩, fun s hs hd => ?_, fun s hs hc hd hj => ?_, ?_, env_put hA.O (I.env.mono h.ext) ho hv, ?_⟩
  · by_cases hki : k = i
    · subst hki; simp [with_, hst]
    · have := I.e k hk hc
      have hne : stOf ap ops ord k ≠ j := fun e => hki (stOf_inj ord k i (hA.O.all k hk) (hA.O.all i hi) hc hce (e.trans hst.symm))
      simp only [with_, hki, if_false]
      rw [this]; omega
  · by_cases hmj : m < j
    · exact I.cnt m hmj
    · exact ⟨i, hi, hce, by omega⟩
  · rcases isSlot b with ⟨s, h1, h2, h3, rfl⟩ | hx
    · obtain ⟨A, O, g1, g2, g3, _⟩ := slot s h1 h2 h3 p hb
      exact ⟨A, O, g1, g2, g3⟩
    · obtain ⟨A, O, g1, g2, g3⟩ := ht.rel.blk b p hb
      exact ⟨A, O, hx.trans g1, g2, g3⟩
  · rcases isSlot b with ⟨s, h1, h2, h3, rfl⟩ | hx
    · obtain ⟨_, _, _, _, _, _, g⟩ := slot s h1 h2 h3 p e1
      exact absurd e7 (g b' p' e4 e6)
    · rcases isSlot b' with ⟨s, h1, h2, h3, rfl⟩ | hx'
      · obtain ⟨_, _, _, _, _, _, g⟩ := slot s h1 h2 h3 p' e4
        exact absurd e7.symm (g b p e1 (fun e => e6 e.symm))
      · rw [hx] at e2; rw [hx'] at e5
        exact ht.rel.excl b p A b' p' A' e1 e2 e3 e4 e5 e6 e7
  · rw [hlen]; exact ht.len
  · rcases isSlot b with ⟨s, h1, h2, h3, rfl⟩ | hx
    · obtain ⟨_, _, _, _, _, g, _⟩ := slot s h1 h2 h3 p e1
      exact .inl g
    · rw [hx] at e2
      exact ht.img b p A e1 e2 e3
  · have : s ≠ i := fun e => by subst e; simp [with_] at hd
    exact off_kept I h hs (I.off s hs (by simpa [with_, this] using hd))
  · have hsi : s ≠ i := fun e => by
      subst e
      have h1 := (isCl_iff ho).1 hc
      rw [(isCl_iff ho).1 hce] at h1
      cases h1
    rcases early_kept I h hs hc (by simpa [with_, hsi] using hd) (by omega) with e | ⟨p, A, O, F'', h1, h2, h3, h4, h5, h6, h7⟩
    · exact .inl e
    · obtain ⟨o', t', hf⟩ := hA.facts s hs
      exact .inr ⟨p, A, O, F'', h1, h2, h3, h4, h5, h6, hf.dead ((isCl_iff hf.ho).1 hc) (j + 1) F' hj hF', h7⟩
  · have h1 := I.len
    have h2 := h.len
    rw [hlen]; omega
  · rw [← I.defs]; cases o.dst <;> rfl
end
end Go.Ab
end
